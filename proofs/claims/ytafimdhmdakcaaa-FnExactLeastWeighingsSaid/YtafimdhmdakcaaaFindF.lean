/- The program's search of weighings: all weighings are gone through, sort by sort. Condition: what fewer weighings can find is known. -/
import Derived.Test.YtafimdhmdakcaaaFindE
import Derived.Laws.EntriesVeiled
set_option linter.unusedVariables false
set_option linter.unusedSimpArgs false
namespace Go.Proofs.Ytafimdhmdakcaaa
open Go Go.RowKit Coins

def chv (b0 : Nat) : Value := .func (.func 176) #[] #[.pointer (some ⟨b0, 0, none⟩), .pointer (some ⟨b0 + 1, 0, none⟩), .pointer (some ⟨b0 + 1 + 1, 0, none⟩)]

/-- The memory of 'forms': what is known, the function that is called, and the one that chooses. -/
structure CH (all : Nat) (x : K) (q : Vars) (b0 : Nat) (w : World) : Prop where
  kn : w.heap[b0]? = some (.cells #[.int .i64 x.o, .int .i64 x.h, .int .i64 x.l, .int .i64 ((all - x.o - x.h - x.l : Nat) : Int), .bool (x.n != 0)] 109 (0, 0))
  ea : w.heap[b0 + 1]? = some (.cells #[each q] 201 (0, 0))
  ch : w.heap[b0 + 1 + 1]? = some (.cells #[chv b0] 243 (0, 0))

theorem CH.kp {all : Nat} {x : K} {q : Vars} {b0 : Nat} {w w' : World} (h : CH all x q b0 w) (hl : CI.Lt q b0) (hk : Kp [q.bm, q.po] w w') : CH all x q b0 w' := by
  obtain ⟨l1, l2, l3, l4, l5⟩ := hl
  exact ⟨hk.blk h.kn (by simp; omega), hk.blk h.ea (by simp; omega), hk.blk h.ch (by simp; omega)⟩

def ChSpec (all k : Nat) (x : K) (q : Vars) (b0 : Nat) (s : Int) (fv : Value) (r : Bool) : Prop := ∀ w, CI all k x q false w → CH all x q b0 w → CI.Lt q b0 →
  Calls Try.prog 176 #[.int .i64 s, fv, .pointer (some ⟨b0, 0, none⟩), .pointer (some ⟨b0 + 1, 0, none⟩), .pointer (some ⟨b0 + 1 + 1, 0, none⟩)] w (CIPost all k x q r w)

set_option maxHeartbeats 1000000 in
set_option maxRecDepth 100000 in
theorem choose3 (all k : Nat) (x : K) (q : Vars) (b0 : Nat) (hcan : ICanSpec all q.bm k) (a b c d e f : Nat) (hk : k ≤ 4) (hx : Ok x) (hall : x.o + x.h + x.l ≤ all) (h14 : all ≤ 14) (h1 : a + b ≤ x.o) (h2 : c + d ≤ x.h) (h3 : e + f ≤ x.l) :
    ChSpec all k x q b0 3 (fov a b c d e f 0 0) (does all k x a b c d e f) := by
  intro w hC hH hL
  have hb := implBal all k x q hcan a b c d e f
  obtain ⟨p0, p1, p2, p3, p4⟩ := cells5 hH.kn
  have e0 : w.cell? ⟨b0 + 1, 0, none⟩ = some (each q) := blk_cell hH.ea 0
  have z0 := blk_lt hH.kn
  have z1 := blk_lt hH.ea
  have z2 := blk_lt hH.ch
  replace hb := Lib.hid hb; replace hC := Lib.hid hC; replace hH := Lib.hid hH
  obtain ⟨v, hv⟩ : ∃ v, does all k x a b c d e f = v := ⟨_, rfl⟩
  rw [hv] at hb ⊢
  replace hv := Lib.hid hv
  unfold fov
  unfold each at e0
  go_enter Try.func176, Try.ntmps176
  go_wp2_with fail
  refine (hb.out _ hk hx hall h14 h1 h2 h3 (hC.out.kp0 ((Kp.refl _ _).alloc _))).mono ?_
  rintro e1 w1 ⟨rfl, hC1, hK1⟩
  replace hC1 := Lib.hid hC1; replace hK1 := Lib.hid hK1
  go_wp2_with fail
  go_ret
  exact ⟨rfl, hC1.out, ((Kp.refl _ _).alloc _).trans hK1.out⟩

theorem any2_yes' {m : Nat} {p : Nat → Nat → Bool} {a b : Nat} (h : a + b ≤ m) (hp : p a b = true) : any2 m p = true := by
  unfold any2
  exact List.any_eq_true.2 ⟨a, List.mem_range.2 (by omega), List.any_eq_true.2 ⟨b, List.mem_range.2 (by omega), hp⟩⟩

set_option maxHeartbeats 2000000 in
set_option maxRecDepth 100000 in
theorem choose2 (all k : Nat) (x : K) (q : Vars) (b0 : Nat) (hcan : ICanSpec all q.bm k) (a b c d : Nat) (hk : k ≤ 4) (hx : Ok x) (hall : x.o + x.h + x.l ≤ all) (h14 : all ≤ 14) (h1 : a + b ≤ x.o) (h2 : c + d ≤ x.h) :
    ChSpec all k x q b0 2 (fov a b c d 0 0 0 0) (any2 x.l fun e f => does all k x a b c d e f) := by
  intro w hC hH hL
  have hin : ∀ e f, e + f ≤ x.l → ChSpec all k x q b0 (2 + 1) (fov a b c d e f 0 0) ((fun e f => does all k x a b c d e f) e f) := fun e f h3 => choose3 all k x q b0 hcan a b c d e f hk hx hall h14 h1 h2 h3
  obtain ⟨T, hT⟩ : ∃ T, T = (fun e f => does all k x a b c d e f) := ⟨_, rfl⟩
  rw [← hT] at hin ⊢
  obtain ⟨m, hm⟩ : ∃ m, m = x.l := ⟨_, rfl⟩
  rw [← hm] at hin ⊢
  have hm13 : m ≤ 13 := by have := hx.sum; omega
  have z0 := blk_lt hH.kn
  have z1 := blk_lt hH.ea
  have z2 := blk_lt hH.ch
  have hmc : w.cell? ⟨b0, 2, none⟩ = some (.int .i64 m) := by rw [hm]; exact blk_cell hH.kn 2
  have hmc0 : w.cell? ⟨b0, 0 + 2, none⟩ = some (.int .i64 m) := by simpa using hmc
  replace hin := Lib.hid hin; replace hC := Lib.hid hC; replace hH := Lib.hid hH; replace hT := Lib.hid hT; replace hm := Lib.hid hm
  replace hL := Lib.hid hL
  unfold fov
  simp only [Int.cast_ofNat_Int]
  go_enter Try.func176, Try.ntmps176
  go_wp2_with fail
  go_loopg [21] (m + 1) (fun k' i wr => ∃ (l : Nat) (l0 r0 : Int), l + k' = m + 1 ∧ i = .int .i64 l ∧ Hid (((List.range l).any fun l => (List.range (m - l + 1)).any fun r => T l r) = false) ∧ Hid (CI all k x q false wr ∧ CH all x q b0 wr ∧ Kp [q.bm, q.po] w wr ∧
      wr.heap[w.heap.size]? = some (.cells #[.int .i64 a, .int .i64 c, .int .i64 l0, .int .i64 0, .int .i64 b, .int .i64 d, .int .i64 r0, .int .i64 0] 199 (0, 0))))
  case atStart => exact ⟨0, 0, 0, by omega, rfl, Lib.hid rfl, Lib.hid ⟨hC.out.kp0 ((Kp.refl _ _).alloc _), hH.out.kp hL.out ((Kp.refl _ _).alloc _), (Kp.refl _ _).alloc _, blk_new _ _⟩⟩
  case round =>
    obtain ⟨l, l0, r0, hl, rfl, hno, hR⟩ := hrel
    obtain rfl : gk = m + 1 - l := by omega
    have hmr : wr.cell? ⟨b0, 2, none⟩ = some (.int .i64 m) := by have := hm.out; rw [this]; exact blk_cell hR.out.2.1.kn 2
    have hmr0 : wr.cell? ⟨b0, 0 + 2, none⟩ = some (.int .i64 m) := by simpa using hmr
    by_cases hlm : l ≤ m
    · have i1 : decide ((l : Int) < m + 1) = true := by simp; omega
      go_wp2_with fail
      go_loopg [31] (m - l + 1) (fun k' i wr => ∃ (r : Nat) (l0 r0 : Int), r + k' = m - l + 1 ∧ i = .int .i64 r ∧ Hid (((List.range r).any fun r => T l r) = false) ∧ Hid (CI all k x q false wr ∧ CH all x q b0 wr ∧ Kp [q.bm, q.po] w wr ∧
          wr.heap[w.heap.size]? = some (.cells #[.int .i64 a, .int .i64 c, .int .i64 l0, .int .i64 0, .int .i64 b, .int .i64 d, .int .i64 r0, .int .i64 0] 199 (0, 0))))
      case atStart => exact ⟨0, l0, r0, by omega, rfl, Lib.hid rfl, hR⟩
      case round =>
        clear hR l0 r0 hmr hmr0
        obtain ⟨r, l0, r0, hr, rfl, hno2, hR⟩ := hrel
        obtain rfl : gk = m - l + 1 - r := by omega
        obtain ⟨f0, f1, f2, f3, f4, f5, f6, f7⟩ := cells8 hR.out.2.2.2
        obtain ⟨g0, g1, g2, g3, g4, g5, g6, g7⟩ := frozen8 hR.out.2.2.2
        have hch : wr.cell? ⟨b0 + 1 + 1, 0, none⟩ = some (chv b0) := blk_cell hR.out.2.1.ch 0
        have hz := blk_lt hR.out.2.2.2
        unfold chv at hch
        by_cases hrm : l + r ≤ m
        · have i0 : decide ((r : Int) < m - l + 1) = true := by simp; omega
          go_wp2_with fail
          have HB := blk_set (blk_set hR.out.2.2.2 2 (.int .i64 l)) 6 (.int .i64 r)
          have HK : Hid (Kp [w.heap.size] wr ((wr.setCell ⟨w.heap.size, 2, none⟩ (.int .i64 l)).setCell ⟨w.heap.size, 6, none⟩ (.int .i64 r))) := Lib.hid (((Kp.refl _ _).setCell (by simp) _).setCell (by simp) _)
          have HC2 : Hid (CI all k x q false ((wr.setCell ⟨w.heap.size, 2, none⟩ (.int .i64 l)).setCell ⟨w.heap.size, 6, none⟩ (.int .i64 r))) := Lib.hid (by
            obtain ⟨l1, l2, l3, l4, l5⟩ := hL.out
            exact hR.out.1.kp HK.out (by simp; omega) (by simp; omega) (by simp; omega) (by simp; omega) (by simp; omega))
          have HH2 : Hid (CH all x q b0 ((wr.setCell ⟨w.heap.size, 2, none⟩ (.int .i64 l)).setCell ⟨w.heap.size, 6, none⟩ (.int .i64 r))) := Lib.hid ⟨HK.out.blk hR.out.2.1.kn (by simp; omega), HK.out.blk hR.out.2.1.ea (by simp; omega), HK.out.blk hR.out.2.1.ch (by simp; omega)⟩
          have HK2 : Hid (Kp [q.bm, q.po] w ((wr.setCell ⟨w.heap.size, 2, none⟩ (.int .i64 l)).setCell ⟨w.heap.size, 6, none⟩ (.int .i64 r))) := Lib.hid ((hR.out.2.2.1.setCell (.inr (by simp)) _).setCell (.inr (by simp)) _)
          replace HB := Lib.hid HB
          refine (hin.out l r hrm _ HC2.out HH2.out hL.out).mono ?_
          rintro e1 w1 ⟨rfl, hC1, hK1⟩
          have hR1 : Hid (CI all k x q (T l r) w1 ∧ CH all x q b0 w1 ∧ Kp [q.bm, q.po] w w1 ∧ w1.heap[w.heap.size]? = some (.cells #[.int .i64 a, .int .i64 c, .int .i64 l, .int .i64 0, .int .i64 b, .int .i64 d, .int .i64 r, .int .i64 0] 199 (0, 0))) := Lib.hid ⟨hC1, HH2.out.kp hL.out hK1, HK2.out.trans hK1, hK1.blk HB.out (by
            obtain ⟨l1, l2, l3, l4, l5⟩ := hL.out
            simp; omega)⟩
          clear hC1 hK1 hR f0 f1 f2 f3 f4 f5 f6 f7 g0 g1 g2 g3 g4 g5 g6 g7 hch hz
          obtain ⟨v, hv⟩ : ∃ v, T l r = v := ⟨_, rfl⟩
          rw [hv] at hR1 ⊢
          replace hv := Lib.hid hv
          cases v with
          | false =>
            go_wp2_with fail
            go_roundg (m - l + 1 - r - 1)
            case rel => exact ⟨r + 1, l, r, by omega, by go_num, Lib.hid (by rw [any_range_succ, hno2.out, hv.out]; rfl), hR1⟩
            case measure => omega
          | true =>
            go_wp2_with fail
            go_ret
            have hyes : any2 m T = true := any2_yes' hrm hv.out
            exact ⟨by rw [hyes]; rfl, by rw [hyes]; exact hR1.out.1, hR1.out.2.2.1⟩
        · obtain rfl : r = m - l + 1 := by omega
          have i0 : decide (((m - l + 1 : Nat) : Int) < m - l + 1) = false := by simp; omega
          go_wp2_with fail
          go_roundg (m + 1 - l - 1)
          case rel => exact ⟨l + 1, l0, r0, by omega, by go_num, Lib.hid (by rw [any_range_succ, hno.out, hno2.out]; rfl), hR⟩
          case measure => omega
    · obtain rfl : l = m + 1 := by omega
      have i1 : decide (((m + 1 : Nat) : Int) < m + 1) = false := by simp
      go_wp2_with fail
      go_ret
      have hn : any2 m T = false := hno.out
      exact ⟨by rw [hn]; rfl, by rw [hn]; exact hR.out.1, hR.out.2.2.1⟩

set_option maxHeartbeats 2000000 in
set_option maxRecDepth 100000 in
theorem choose1 (all k : Nat) (x : K) (q : Vars) (b0 : Nat) (hcan : ICanSpec all q.bm k) (a b : Nat) (hk : k ≤ 4) (hx : Ok x) (hall : x.o + x.h + x.l ≤ all) (h14 : all ≤ 14) (h1 : a + b ≤ x.o) :
    ChSpec all k x q b0 1 (fov a b 0 0 0 0 0 0) (any2 x.h fun c d => any2 x.l fun e f => does all k x a b c d e f) := by
  intro w hC hH hL
  have hin : ∀ c d, c + d ≤ x.h → ChSpec all k x q b0 (1 + 1) (fov a b c d 0 0 0 0) ((fun c d => any2 x.l fun e f => does all k x a b c d e f) c d) := fun c d h3 => choose2 all k x q b0 hcan a b c d hk hx hall h14 h1 h3
  obtain ⟨T, hT⟩ : ∃ T, T = (fun c d => any2 x.l fun e f => does all k x a b c d e f) := ⟨_, rfl⟩
  rw [← hT] at hin ⊢
  obtain ⟨m, hm⟩ : ∃ m, m = x.h := ⟨_, rfl⟩
  rw [← hm] at hin ⊢
  have hm13 : m ≤ 13 := by have := hx.sum; omega
  have z0 := blk_lt hH.kn
  have z1 := blk_lt hH.ea
  have z2 := blk_lt hH.ch
  have hmc : w.cell? ⟨b0, 1, none⟩ = some (.int .i64 m) := by rw [hm]; exact blk_cell hH.kn 1
  have hmc0 : w.cell? ⟨b0, 0 + 1, none⟩ = some (.int .i64 m) := by simpa using hmc
  replace hin := Lib.hid hin; replace hC := Lib.hid hC; replace hH := Lib.hid hH; replace hT := Lib.hid hT; replace hm := Lib.hid hm
  replace hL := Lib.hid hL
  unfold fov
  simp only [Int.cast_ofNat_Int]
  go_enter Try.func176, Try.ntmps176
  go_wp2_with fail
  go_loopg [21] (m + 1) (fun k' i wr => ∃ (l : Nat) (l0 r0 : Int), l + k' = m + 1 ∧ i = .int .i64 l ∧ Hid (((List.range l).any fun l => (List.range (m - l + 1)).any fun r => T l r) = false) ∧ Hid (CI all k x q false wr ∧ CH all x q b0 wr ∧ Kp [q.bm, q.po] w wr ∧
      wr.heap[w.heap.size]? = some (.cells #[.int .i64 a, .int .i64 l0, .int .i64 0, .int .i64 0, .int .i64 b, .int .i64 r0, .int .i64 0, .int .i64 0] 199 (0, 0))))
  case atStart => exact ⟨0, 0, 0, by omega, rfl, Lib.hid rfl, Lib.hid ⟨hC.out.kp0 ((Kp.refl _ _).alloc _), hH.out.kp hL.out ((Kp.refl _ _).alloc _), (Kp.refl _ _).alloc _, blk_new _ _⟩⟩
  case round =>
    obtain ⟨l, l0, r0, hl, rfl, hno, hR⟩ := hrel
    obtain rfl : gk = m + 1 - l := by omega
    have hmr : wr.cell? ⟨b0, 1, none⟩ = some (.int .i64 m) := by have := hm.out; rw [this]; exact blk_cell hR.out.2.1.kn 1
    have hmr0 : wr.cell? ⟨b0, 0 + 1, none⟩ = some (.int .i64 m) := by simpa using hmr
    by_cases hlm : l ≤ m
    · have i1 : decide ((l : Int) < m + 1) = true := by simp; omega
      go_wp2_with fail
      go_loopg [31] (m - l + 1) (fun k' i wr => ∃ (r : Nat) (l0 r0 : Int), r + k' = m - l + 1 ∧ i = .int .i64 r ∧ Hid (((List.range r).any fun r => T l r) = false) ∧ Hid (CI all k x q false wr ∧ CH all x q b0 wr ∧ Kp [q.bm, q.po] w wr ∧
          wr.heap[w.heap.size]? = some (.cells #[.int .i64 a, .int .i64 l0, .int .i64 0, .int .i64 0, .int .i64 b, .int .i64 r0, .int .i64 0, .int .i64 0] 199 (0, 0))))
      case atStart => exact ⟨0, l0, r0, by omega, rfl, Lib.hid rfl, hR⟩
      case round =>
        clear hR l0 r0 hmr hmr0
        obtain ⟨r, l0, r0, hr, rfl, hno2, hR⟩ := hrel
        obtain rfl : gk = m - l + 1 - r := by omega
        obtain ⟨f0, f1, f2, f3, f4, f5, f6, f7⟩ := cells8 hR.out.2.2.2
        obtain ⟨g0, g1, g2, g3, g4, g5, g6, g7⟩ := frozen8 hR.out.2.2.2
        have hch : wr.cell? ⟨b0 + 1 + 1, 0, none⟩ = some (chv b0) := blk_cell hR.out.2.1.ch 0
        have hz := blk_lt hR.out.2.2.2
        unfold chv at hch
        by_cases hrm : l + r ≤ m
        · have i0 : decide ((r : Int) < m - l + 1) = true := by simp; omega
          go_wp2_with fail
          have HB := blk_set (blk_set hR.out.2.2.2 1 (.int .i64 l)) 5 (.int .i64 r)
          have HK : Hid (Kp [w.heap.size] wr ((wr.setCell ⟨w.heap.size, 1, none⟩ (.int .i64 l)).setCell ⟨w.heap.size, 5, none⟩ (.int .i64 r))) := Lib.hid (((Kp.refl _ _).setCell (by simp) _).setCell (by simp) _)
          have HC2 : Hid (CI all k x q false ((wr.setCell ⟨w.heap.size, 1, none⟩ (.int .i64 l)).setCell ⟨w.heap.size, 5, none⟩ (.int .i64 r))) := Lib.hid (by
            obtain ⟨l1, l2, l3, l4, l5⟩ := hL.out
            exact hR.out.1.kp HK.out (by simp; omega) (by simp; omega) (by simp; omega) (by simp; omega) (by simp; omega))
          have HH2 : Hid (CH all x q b0 ((wr.setCell ⟨w.heap.size, 1, none⟩ (.int .i64 l)).setCell ⟨w.heap.size, 5, none⟩ (.int .i64 r))) := Lib.hid ⟨HK.out.blk hR.out.2.1.kn (by simp; omega), HK.out.blk hR.out.2.1.ea (by simp; omega), HK.out.blk hR.out.2.1.ch (by simp; omega)⟩
          have HK2 : Hid (Kp [q.bm, q.po] w ((wr.setCell ⟨w.heap.size, 1, none⟩ (.int .i64 l)).setCell ⟨w.heap.size, 5, none⟩ (.int .i64 r))) := Lib.hid ((hR.out.2.2.1.setCell (.inr (by simp)) _).setCell (.inr (by simp)) _)
          replace HB := Lib.hid HB
          refine (hin.out l r hrm _ HC2.out HH2.out hL.out).mono ?_
          rintro e1 w1 ⟨rfl, hC1, hK1⟩
          have hR1 : Hid (CI all k x q (T l r) w1 ∧ CH all x q b0 w1 ∧ Kp [q.bm, q.po] w w1 ∧ w1.heap[w.heap.size]? = some (.cells #[.int .i64 a, .int .i64 l, .int .i64 0, .int .i64 0, .int .i64 b, .int .i64 r, .int .i64 0, .int .i64 0] 199 (0, 0))) := Lib.hid ⟨hC1, HH2.out.kp hL.out hK1, HK2.out.trans hK1, hK1.blk HB.out (by
            obtain ⟨l1, l2, l3, l4, l5⟩ := hL.out
            simp; omega)⟩
          clear hC1 hK1 hR f0 f1 f2 f3 f4 f5 f6 f7 g0 g1 g2 g3 g4 g5 g6 g7 hch hz
          obtain ⟨v, hv⟩ : ∃ v, T l r = v := ⟨_, rfl⟩
          rw [hv] at hR1 ⊢
          replace hv := Lib.hid hv
          cases v with
          | false =>
            go_wp2_with fail
            go_roundg (m - l + 1 - r - 1)
            case rel => exact ⟨r + 1, l, r, by omega, by go_num, Lib.hid (by rw [any_range_succ, hno2.out, hv.out]; rfl), hR1⟩
            case measure => omega
          | true =>
            go_wp2_with fail
            go_ret
            have hyes : any2 m T = true := any2_yes' hrm hv.out
            exact ⟨by rw [hyes]; rfl, by rw [hyes]; exact hR1.out.1, hR1.out.2.2.1⟩
        · obtain rfl : r = m - l + 1 := by omega
          have i0 : decide (((m - l + 1 : Nat) : Int) < m - l + 1) = false := by simp; omega
          go_wp2_with fail
          go_roundg (m + 1 - l - 1)
          case rel => exact ⟨l + 1, l0, r0, by omega, by go_num, Lib.hid (by rw [any_range_succ, hno.out, hno2.out]; rfl), hR⟩
          case measure => omega
    · obtain rfl : l = m + 1 := by omega
      have i1 : decide (((m + 1 : Nat) : Int) < m + 1) = false := by simp
      go_wp2_with fail
      go_ret
      have hn : any2 m T = false := hno.out
      exact ⟨by rw [hn]; rfl, by rw [hn]; exact hR.out.1, hR.out.2.2.1⟩

set_option maxHeartbeats 2000000 in
set_option maxRecDepth 100000 in
theorem choose0 (all k : Nat) (x : K) (q : Vars) (b0 : Nat) (hcan : ICanSpec all q.bm k) (hk : k ≤ 4) (hx : Ok x) (hall : x.o + x.h + x.l ≤ all) (h14 : all ≤ 14)  :
    ChSpec all k x q b0 0 (fov 0 0 0 0 0 0 0 0) (any2 x.o fun a b => any2 x.h fun c d => any2 x.l fun e f => does all k x a b c d e f) := by
  intro w hC hH hL
  have hin : ∀ a b, a + b ≤ x.o → ChSpec all k x q b0 (0 + 1) (fov a b 0 0 0 0 0 0) ((fun a b => any2 x.h fun c d => any2 x.l fun e f => does all k x a b c d e f) a b) := fun a b h3 => choose1 all k x q b0 hcan a b hk hx hall h14 h3
  obtain ⟨T, hT⟩ : ∃ T, T = (fun a b => any2 x.h fun c d => any2 x.l fun e f => does all k x a b c d e f) := ⟨_, rfl⟩
  rw [← hT] at hin ⊢
  obtain ⟨m, hm⟩ : ∃ m, m = x.o := ⟨_, rfl⟩
  rw [← hm] at hin ⊢
  have hm13 : m ≤ 13 := by have := hx.sum; omega
  have z0 := blk_lt hH.kn
  have z1 := blk_lt hH.ea
  have z2 := blk_lt hH.ch
  have hmc : w.cell? ⟨b0, 0, none⟩ = some (.int .i64 m) := by rw [hm]; exact blk_cell hH.kn 0
  have hmc0 : w.cell? ⟨b0, 0 + 0, none⟩ = some (.int .i64 m) := by simpa using hmc
  replace hin := Lib.hid hin; replace hC := Lib.hid hC; replace hH := Lib.hid hH; replace hT := Lib.hid hT; replace hm := Lib.hid hm
  replace hL := Lib.hid hL
  unfold fov
  simp only [Int.cast_ofNat_Int]
  go_enter Try.func176, Try.ntmps176
  go_wp2_with fail
  go_loopg [21] (m + 1) (fun k' i wr => ∃ (l : Nat) (l0 r0 : Int), l + k' = m + 1 ∧ i = .int .i64 l ∧ Hid (((List.range l).any fun l => (List.range (m - l + 1)).any fun r => T l r) = false) ∧ Hid (CI all k x q false wr ∧ CH all x q b0 wr ∧ Kp [q.bm, q.po] w wr ∧
      wr.heap[w.heap.size]? = some (.cells #[.int .i64 l0, .int .i64 0, .int .i64 0, .int .i64 0, .int .i64 r0, .int .i64 0, .int .i64 0, .int .i64 0] 199 (0, 0))))
  case atStart => exact ⟨0, 0, 0, by omega, rfl, Lib.hid rfl, Lib.hid ⟨hC.out.kp0 ((Kp.refl _ _).alloc _), hH.out.kp hL.out ((Kp.refl _ _).alloc _), (Kp.refl _ _).alloc _, blk_new _ _⟩⟩
  case round =>
    obtain ⟨l, l0, r0, hl, rfl, hno, hR⟩ := hrel
    obtain rfl : gk = m + 1 - l := by omega
    have hmr : wr.cell? ⟨b0, 0, none⟩ = some (.int .i64 m) := by have := hm.out; rw [this]; exact blk_cell hR.out.2.1.kn 0
    have hmr0 : wr.cell? ⟨b0, 0 + 0, none⟩ = some (.int .i64 m) := by simpa using hmr
    by_cases hlm : l ≤ m
    · have i1 : decide ((l : Int) < m + 1) = true := by simp; omega
      go_wp2_with fail
      go_loopg [31] (m - l + 1) (fun k' i wr => ∃ (r : Nat) (l0 r0 : Int), r + k' = m - l + 1 ∧ i = .int .i64 r ∧ Hid (((List.range r).any fun r => T l r) = false) ∧ Hid (CI all k x q false wr ∧ CH all x q b0 wr ∧ Kp [q.bm, q.po] w wr ∧
          wr.heap[w.heap.size]? = some (.cells #[.int .i64 l0, .int .i64 0, .int .i64 0, .int .i64 0, .int .i64 r0, .int .i64 0, .int .i64 0, .int .i64 0] 199 (0, 0))))
      case atStart => exact ⟨0, l0, r0, by omega, rfl, Lib.hid rfl, hR⟩
      case round =>
        clear hR l0 r0 hmr hmr0
        obtain ⟨r, l0, r0, hr, rfl, hno2, hR⟩ := hrel
        obtain rfl : gk = m - l + 1 - r := by omega
        obtain ⟨f0, f1, f2, f3, f4, f5, f6, f7⟩ := cells8 hR.out.2.2.2
        obtain ⟨g0, g1, g2, g3, g4, g5, g6, g7⟩ := frozen8 hR.out.2.2.2
        have hch : wr.cell? ⟨b0 + 1 + 1, 0, none⟩ = some (chv b0) := blk_cell hR.out.2.1.ch 0
        have hz := blk_lt hR.out.2.2.2
        unfold chv at hch
        by_cases hrm : l + r ≤ m
        · have i0 : decide ((r : Int) < m - l + 1) = true := by simp; omega
          go_wp2_with fail
          have HB := blk_set (blk_set hR.out.2.2.2 0 (.int .i64 l)) 4 (.int .i64 r)
          have HK : Hid (Kp [w.heap.size] wr ((wr.setCell ⟨w.heap.size, 0, none⟩ (.int .i64 l)).setCell ⟨w.heap.size, 4, none⟩ (.int .i64 r))) := Lib.hid (((Kp.refl _ _).setCell (by simp) _).setCell (by simp) _)
          have HC2 : Hid (CI all k x q false ((wr.setCell ⟨w.heap.size, 0, none⟩ (.int .i64 l)).setCell ⟨w.heap.size, 4, none⟩ (.int .i64 r))) := Lib.hid (by
            obtain ⟨l1, l2, l3, l4, l5⟩ := hL.out
            exact hR.out.1.kp HK.out (by simp; omega) (by simp; omega) (by simp; omega) (by simp; omega) (by simp; omega))
          have HH2 : Hid (CH all x q b0 ((wr.setCell ⟨w.heap.size, 0, none⟩ (.int .i64 l)).setCell ⟨w.heap.size, 4, none⟩ (.int .i64 r))) := Lib.hid ⟨HK.out.blk hR.out.2.1.kn (by simp; omega), HK.out.blk hR.out.2.1.ea (by simp; omega), HK.out.blk hR.out.2.1.ch (by simp; omega)⟩
          have HK2 : Hid (Kp [q.bm, q.po] w ((wr.setCell ⟨w.heap.size, 0, none⟩ (.int .i64 l)).setCell ⟨w.heap.size, 4, none⟩ (.int .i64 r))) := Lib.hid ((hR.out.2.2.1.setCell (.inr (by simp)) _).setCell (.inr (by simp)) _)
          replace HB := Lib.hid HB
          refine (hin.out l r hrm _ HC2.out HH2.out hL.out).mono ?_
          rintro e1 w1 ⟨rfl, hC1, hK1⟩
          have hR1 : Hid (CI all k x q (T l r) w1 ∧ CH all x q b0 w1 ∧ Kp [q.bm, q.po] w w1 ∧ w1.heap[w.heap.size]? = some (.cells #[.int .i64 l, .int .i64 0, .int .i64 0, .int .i64 0, .int .i64 r, .int .i64 0, .int .i64 0, .int .i64 0] 199 (0, 0))) := Lib.hid ⟨hC1, HH2.out.kp hL.out hK1, HK2.out.trans hK1, hK1.blk HB.out (by
            obtain ⟨l1, l2, l3, l4, l5⟩ := hL.out
            simp; omega)⟩
          clear hC1 hK1 hR f0 f1 f2 f3 f4 f5 f6 f7 g0 g1 g2 g3 g4 g5 g6 g7 hch hz
          obtain ⟨v, hv⟩ : ∃ v, T l r = v := ⟨_, rfl⟩
          rw [hv] at hR1 ⊢
          replace hv := Lib.hid hv
          cases v with
          | false =>
            go_wp2_with fail
            go_roundg (m - l + 1 - r - 1)
            case rel => exact ⟨r + 1, l, r, by omega, by go_num, Lib.hid (by rw [any_range_succ, hno2.out, hv.out]; rfl), hR1⟩
            case measure => omega
          | true =>
            go_wp2_with fail
            go_ret
            have hyes : any2 m T = true := any2_yes' hrm hv.out
            exact ⟨by rw [hyes]; rfl, by rw [hyes]; exact hR1.out.1, hR1.out.2.2.1⟩
        · obtain rfl : r = m - l + 1 := by omega
          have i0 : decide (((m - l + 1 : Nat) : Int) < m - l + 1) = false := by simp; omega
          go_wp2_with fail
          go_roundg (m + 1 - l - 1)
          case rel => exact ⟨l + 1, l0, r0, by omega, by go_num, Lib.hid (by rw [any_range_succ, hno.out, hno2.out]; rfl), hR⟩
          case measure => omega
    · obtain rfl : l = m + 1 := by omega
      have i1 : decide (((m + 1 : Nat) : Int) < m + 1) = false := by simp
      go_wp2_with fail
      go_ret
      have hn : any2 m T = false := hno.out
      exact ⟨by rw [hn]; rfl, by rw [hn]; exact hR.out.1, hR.out.2.2.1⟩

set_option maxHeartbeats 1000000 in
set_option maxRecDepth 100000 in
theorem implForms (all k : Nat) (x : K) (q : Vars) (hcan : ICanSpec all q.bm k) (hk : k ≤ 4) (hx : Ok x) (hall : x.o + x.h + x.l ≤ all) (h14 : all ≤ 14) (w : World) (hC : CI all k x q false w) :
    Calls Try.prog 132 #[knv all x, each q] w fun e w' => e = .returned (.tuple #[]) ∧ CI all k x q (some1 all k x) w' ∧ Kp [q.bm, q.po] w w' := by
  have hin := Lib.hid (choose0 all k x q w.heap.size hcan hk hx hall h14)
  obtain ⟨r, hr⟩ : ∃ r, r = some1 all k x := ⟨_, rfl⟩
  have hr2 : Hid (any2 x.o (fun a b => any2 x.h fun c d => any2 x.l fun e f => does all k x a b c d e f) = r) := Lib.hid (by rw [hr]; rfl)
  rw [← hr]
  rw [hr2.out] at hin
  clear hr
  have hL := Lib.hid hC.lt
  have HC : Hid (CI all k x q false (((w.alloc (.cells #[.int .i64 x.o, .int .i64 x.h, .int .i64 x.l, .int .i64 ((all - x.o - x.h - x.l : Nat) : Int), .bool (x.n != 0)] 109)).alloc (.cells #[each q] 201)).alloc (.cells #[chv w.heap.size] 243))) := Lib.hid (hC.kp0 ((((Kp.refl _ _).alloc _).alloc _).alloc _))
  have HH : Hid (CH all x q w.heap.size (((w.alloc (.cells #[.int .i64 x.o, .int .i64 x.h, .int .i64 x.l, .int .i64 ((all - x.o - x.h - x.l : Nat) : Int), .bool (x.n != 0)] 109)).alloc (.cells #[each q] 201)).alloc (.cells #[chv w.heap.size] 243))) :=
    Lib.hid ⟨blk_alloc (blk_alloc (blk_new _ _) _) _, blk_alloc (blk_new1 _ _ _) _, blk_new2 _ _ _ _⟩
  have HK : Hid (Kp [q.bm, q.po] w (((w.alloc (.cells #[.int .i64 x.o, .int .i64 x.h, .int .i64 x.l, .int .i64 ((all - x.o - x.h - x.l : Nat) : Int), .bool (x.n != 0)] 109)).alloc (.cells #[each q] 201)).alloc (.cells #[chv w.heap.size] 243))) := Lib.hid ((((Kp.refl _ _).alloc _).alloc _).alloc _)
  replace hC := Lib.hid hC
  unfold fov at hin
  simp only [Int.cast_ofNat_Int] at hin
  unfold chv each at HC HH HK
  unfold knv each
  go_enter Try.func132, Try.ntmps132
  go_wp2_with fail
  refine (hin.out _ HC.out HH.out hL.out).mono ?_
  rintro e1 w1 ⟨rfl, hC1, hK1⟩
  replace hC1 := Lib.hid hC1; replace hK1 := Lib.hid hK1
  go_wp2_with fail
  go_end0
  exact ⟨rfl, hC1.out, HK.out.trans hK1.out⟩
end Go.Proofs.Ytafimdhmdakcaaa
