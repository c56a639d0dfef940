/- 'make' of a slice. Conditions: its length is not below zero and not too large. -/
import Derived.Test.YtafimdhmdakcaaaBase
import Derived.Laws.MakeOwn
set_option linter.unusedVariables false
set_option linter.unusedSimpArgs false
namespace Go.Proofs.Ytafimdhmdakcaaa
open Go Go.RowKit

/-- make([]T, n): a new row of n zeros. -/
theorem run_mk {P : Program} (t e : TypeId) {i : TypeInfo} {z : Value} (ht : P.underlying t = some (.slice e)) (hi : P.info? e = some i) (hz : i.zero = some z) (hs : i.size = 1)
    (kl kc : IntKind) (n : Nat) (hb : i.bytes * n ≤ 281474976710656) (hn : n ≤ 9223372036854775807) (w : World) :
    (Instr.makeSlice t (.int kl n) (.int kc n)).run P w = .ok (.slice (some ⟨w.heap.size, 0, none⟩) n n) (w.alloc (.cells (madeCells z.cells n) e)) := by
  have hb' : (i.bytes : Int) * (n : Int) ≤ 281474976710656 := by
    have h : ((i.bytes * n : Nat) : Int) ≤ 281474976710656 := by omega
    rwa [Int.natCast_mul] at h
  have h := run_make w t e i z ht hi hz kl kc n n (by omega) (Int.le_refl _) hb' (by omega)
  simpa [hs] using h

theorem made_get {z : Value} (hz : z.cells = #[z]) (n i : Nat) (hi : i < n) : (madeCells z.cells n)[i]? = some z := by
  rw [hz]
  simp [madeCells, hi, Nat.mod_one]

theorem at_new {w : World} {o : Obj} {i : Nat} (h : i = w.heap.size) : (w.alloc o).heap[i]? = some o := by rw [h]; exact blk_new w o
theorem at_drew {w : World} {o : Obj} {i : Nat} (h : w.heap[i]? = some o) : w.drew.heap[i]? = some o := h
theorem at_drewN {w : World} {o : Obj} {i n : Nat} (h : w.heap[i]? = some o) : (w.drewN n).heap[i]? = some o := h

theorem blk_new1 (w : World) (o1 o : Obj) : ((w.alloc o1).alloc o).heap[w.heap.size + 1]? = some o := at_new (by simp)
theorem blk_new2 (w : World) (o1 o2 o : Obj) : (((w.alloc o1).alloc o2).alloc o).heap[w.heap.size + 1 + 1]? = some o := at_new (by simp)
theorem blk_new3 (w : World) (o1 o2 o3 o : Obj) : ((((w.alloc o1).alloc o2).alloc o3).alloc o).heap[w.heap.size + 1 + 1 + 1]? = some o := at_new (by simp)

end Go.Proofs.Ytafimdhmdakcaaa
