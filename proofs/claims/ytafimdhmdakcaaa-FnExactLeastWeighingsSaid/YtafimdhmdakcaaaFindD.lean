/- The program's search of weighings: the function that is called for each weighing, and the good coins. Condition: what fewer weighings can find is known. -/
import Derived.Test.YtafimdhmdakcaaaFindC
set_option linter.unusedVariables false
set_option linter.unusedSimpArgs false
namespace Go.Proofs.Ytafimdhmdakcaaa
open Go Go.RowKit Coins

/-- Where 'can' keeps its variables. -/
structure Vars where
  bm : Nat
  pm : Nat
  pk : Nat
  pl : Nat
  po : Nat

/-- The memory of 'can' while weighings are tried; v: has one been found? -/
structure CI (all k : Nat) (x : K) (q : Vars) (v : Bool) (w : World) : Prop where
  mem : MI all q.bm w
  m : w.heap[q.pm]? = some (.cells #[.map (some q.bm)] 105 (0, 0))
  kn : w.heap[q.pk]? = some (.cells #[.int .i64 x.o, .int .i64 x.h, .int .i64 x.l, .int .i64 ((all - x.o - x.h - x.l : Nat) : Int), .bool (x.n != 0)] 109 (0, 0))
  left : w.heap[q.pl]? = some (.cells #[.int .i64 (k + 1)] 2 (0, 0))
  out : w.heap[q.po]? = some (.cells #[.bool v] 4 (0, 0))

structure CI.Ne (q : Vars) : Prop where
  nmo : q.bm ≠ q.po
  nmm : q.bm ≠ q.pm
  nmk : q.bm ≠ q.pk
  nml : q.bm ≠ q.pl
  nom : q.po ≠ q.pm
  nok : q.po ≠ q.pk
  nol : q.po ≠ q.pl

theorem CI.ne {all k : Nat} {x : K} {q : Vars} {v : Bool} {w : World} (h : CI all k x q v w) : CI.Ne q := by
  obtain ⟨⟨mp, ⟨es, clk, hm, _⟩, _⟩, h1, h2, h3, h4⟩ := h
  refine ⟨?_, ?_, ?_, ?_, ?_, ?_, ?_⟩
  · intro e; rw [e, h4] at hm; injection hm with hm; cases hm
  · intro e; rw [e, h1] at hm; injection hm with hm; cases hm
  · intro e; rw [e, h2] at hm; injection hm with hm; cases hm
  · intro e; rw [e, h3] at hm; injection hm with hm; cases hm
  · intro e; rw [e, h1] at h4; injection h4 with h4; injection h4 with h5 h6; revert h6; decide
  · intro e; rw [e, h2] at h4; injection h4 with h4; injection h4 with h5 h6; revert h6; decide
  · intro e; rw [e, h3] at h4; injection h4 with h4; injection h4 with h5 h6; revert h6; decide

theorem CI.kp {all k : Nat} {x : K} {q : Vars} {v : Bool} {w w' : World} {T : List Nat} (h : CI all k x q v w) (hk : Kp T w w') (h1 : q.bm ∉ T) (h2 : q.pm ∉ T) (h3 : q.pk ∉ T) (h4 : q.pl ∉ T) (h5 : q.po ∉ T) : CI all k x q v w' :=
  ⟨h.mem.kp hk h1, hk.blk h.m h2, hk.blk h.kn h3, hk.blk h.left h4, hk.blk h.out h5⟩

theorem CI.kp0 {all k : Nat} {x : K} {q : Vars} {v : Bool} {w w' : World} (h : CI all k x q v w) (hk : Kp [] w w') : CI all k x q v w' :=
  h.kp hk (by simp) (by simp) (by simp) (by simp) (by simp)

structure CI.Lt (q : Vars) (n : Nat) : Prop where
  m : q.bm < n
  pm : q.pm < n
  pk : q.pk < n
  pl : q.pl < n
  po : q.po < n

theorem CI.lt {all k : Nat} {x : K} {q : Vars} {v : Bool} {w : World} (h : CI all k x q v w) : CI.Lt q w.heap.size :=
  ⟨h.mem.lt, blk_lt h.m, blk_lt h.kn, blk_lt h.left, blk_lt h.out⟩

/-- A store into a block that came later. -/
theorem CI.setCell {all k : Nat} {x : K} {q : Vars} {v : Bool} {w : World} {n : Nat} (h : CI all k x q v w) (hl : CI.Lt q n) {p : Addr} (hp : n ≤ p.block) (u : Value) : CI all k x q v (w.setCell p u) := by
  obtain ⟨l1, l2, l3, l4, l5⟩ := hl
  exact h.kp (T := [p.block]) ((Kp.refl _ _).setCell (by simp) _) (by simp; omega) (by simp; omega) (by simp; omega) (by simp; omega) (by simp; omega)

def CIPost (all k : Nat) (x : K) (q : Vars) (v : Bool) (w : World) (e : Ending) (w' : World) : Prop := e = .returned (.bool (!v)) ∧ CI all k x q v w' ∧ Kp [q.bm, q.po] w w'

set_option maxHeartbeats 1000000 in
set_option maxRecDepth 100000 in
theorem implCan1 (all k : Nat) (x : K) (q : Vars) (hcan : ICanSpec all q.bm k) (a b c d e f g1 g2 : Nat) (v0 : Bool) (w : World) (hk : k ≤ 4) (hx : Ok x) (hall : x.o + x.h + x.l ≤ all) (h14 : all ≤ 14) (h1 : a + b ≤ x.o) (h2 : c + d ≤ x.h) (h3 : e + f ≤ x.l)
    (hC : CI all k x q v0 w) :
    Calls Try.prog 133 #[fov a b c d e f g1 g2, .pointer (some ⟨q.pm, 0, none⟩), .pointer (some ⟨q.pk, 0, none⟩), .pointer (some ⟨q.pl, 0, none⟩), .pointer (some ⟨q.po, 0, none⟩)] w (CIPost all k x q (wk' all k x a b c d e f) w) := by
  have hne := hC.ne
  have hlt := hC.lt
  obtain ⟨l1, l2, l3, l4, l5⟩ := hlt
  have m0 : w.cell? ⟨q.pm, 0, none⟩ = some (.map (some q.bm)) := blk_cell hC.m 0
  obtain ⟨p0, p1, p2, p3, p4⟩ := cells5 hC.kn
  have q0 : w.cell? ⟨q.pl, 0, none⟩ = some (.int .i64 (k + 1)) := blk_cell hC.left 0
  replace hC := Lib.hid hC; replace hne := Lib.hid hne
  have hsp := Lib.hid (implSplits all q.bm k hcan x a b c d e f g1 g2)
  obtain ⟨v, hv⟩ : ∃ v, wk' all k x a b c d e f = v := ⟨_, rfl⟩
  rw [hv] at hsp ⊢
  replace hv := Lib.hid hv; replace hcan := Lib.hid hcan
  unfold fov
  go_enter Try.func133, Try.ntmps133
  go_wp2_with fail
  have hC1 := Lib.hid (hC.out.kp0 ((Kp.refl _ _).alloc (.cells #[.int .i64 a, .int .i64 c, .int .i64 e, .int .i64 g1, .int .i64 b, .int .i64 d, .int .i64 f, .int .i64 g2] 199)))
  refine (hsp.out _ hk hx hall h14 h1 h2 h3 hC1.out.mem).mono ?_
  rintro e1 w1 ⟨rfl, hM1, hK1⟩
  have hC2 : Hid (w1.heap[q.pm]? = _ ∧ w1.heap[q.pk]? = _ ∧ w1.heap[q.pl]? = _ ∧ w1.heap[q.po]? = _) := Lib.hid ⟨hK1.blk hC1.out.m (by simpa using hne.out.nmm.symm), hK1.blk hC1.out.kn (by simpa using hne.out.nmk.symm), hK1.blk hC1.out.left (by simpa using hne.out.nml.symm), hK1.blk hC1.out.out (by simpa using hne.out.nmo.symm)⟩
  have o0 := blk_cell hC2.out.2.2.2 0
  have o1 := blk_frozen hC2.out.2.2.2 0
  replace hM1 := Lib.hid hM1
  have HK1 : Hid (Kp [q.bm, q.po] w w1) := Lib.hid ((((Kp.refl _ _).alloc _).trans hK1).mono (by simp))
  clear hK1
  go_wp2_with fail
  go_ret
  have hne' := hne.out
  exact ⟨rfl, ⟨hM1.out.kp (S := [q.po]) ((Kp.refl _ _).setCell (by simp) _) (by simpa using hne'.nmo), blk_far hC2.out.1 (by simpa using hne'.nom.symm) _, blk_far hC2.out.2.1 (by simpa using hne'.nok.symm) _, blk_far hC2.out.2.2.1 (by simpa using hne'.nol.symm) _, blk_set hC2.out.2.2.2 0 _⟩, HK1.out.setCell (by simp) _⟩
end Go.Proofs.Ytafimdhmdakcaaa
