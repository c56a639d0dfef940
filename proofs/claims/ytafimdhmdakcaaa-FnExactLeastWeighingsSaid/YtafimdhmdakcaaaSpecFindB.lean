/- The reference's search of weighings: one weighing is tried. Condition: what fewer weighings can find is known (the contract of 'can', one level below). -/
import Derived.Test.YtafimdhmdakcaaaSpecFindA
set_option linter.unusedVariables false
set_option linter.unusedSimpArgs false
namespace Go.Proofs.Ytafimdhmdakcaaa
open Go Go.RowKit Coins

/-- The finder at block gF, whose list at block gS reads as s. -/
def FI (gF gS L all : Nat) (w : World) (s : Nat → Int) : Prop :=
  w.heap[gF]? = some (.cells #[.int .i64 all, .slice (some ⟨gS, 0, none⟩) L L] 187 (0, 0)) ∧
    ∃ A : Array Value, w.heap[gS]? = some (.cells A 22 (0, 0)) ∧ A.size = L ∧ Hid (32928 ≤ L) ∧ ∀ i, i < L → A[i]? = some (.int .i8 (s i))

theorem FI.ne {gF gS L all : Nat} {w : World} {s : Nat → Int} (h : FI gF gS L all w s) : gF ≠ gS := by
  obtain ⟨h1, A, h2, _⟩ := h
  rintro rfl
  rw [h1] at h2
  injection h2 with h2
  injection h2 with _ h3
  revert h3; decide

theorem FI.kp {gF gS L all : Nat} {w w' : World} {s : Nat → Int} (h : FI gF gS L all w s) (hk : Kp [] w w') : FI gF gS L all w' s := by
  obtain ⟨h1, A, h2, h3⟩ := h
  exact ⟨hk.blk h1 (by simp), A, hk.blk h2 (by simp), h3⟩

/-- What a call of 'can' leaves: its answer, and more of what is known. -/
def CanPost (gF gS L all k : Nat) (x : K) (s : Nat → Int) (w : World) (v : Bool) (e : Ending) (w' : World) : Prop :=
  e = .returned (.bool v) ∧ ∃ s', FI gF gS L all w' s' ∧ Mem all k s' ∧ (∀ i, k < i % 6 → s' i = s i) ∧ Kp [gS] w w'

def CanSpec (gF gS L all k : Nat) : Prop := ∀ (x : K) (s : Nat → Int) (w : World), Ok x → x.sum ≤ all → FI gF gS L all w s → Mem all k s →
  Calls Try.prog 64 #[.pointer (some ⟨gF, 0, none⟩), kval x, .int .i64 k] w (CanPost gF gS L all k x s w (can all k x))

def wk (all k : Nat) (x : K) (a b c d e f : Nat) : Bool := can all k (neg a b c d e f) && can all k (zer x a b c d e f) && can all k (pos a b c d e f)

theorem aft_ok {x : K} (hx : Ok x) {a b c d e f : Nat} (h1 : a + b ≤ x.o) (h2 : c + d ≤ x.h) (h3 : e + f ≤ x.l) (r : Int) : Ok (aft x a b c d e f r) := by
  unfold aft; split
  · exact neg_ok hx h1 h2 h3
  · split
    · exact pos_ok hx h1 h2 h3
    · exact zer_ok hx a b c d e f

theorem aft_sum {x : K} {a b c d e f : Nat} (h1 : a + b ≤ x.o) (h2 : c + d ≤ x.h) (h3 : e + f ≤ x.l) (r : Int) : (aft x a b c d e f r).sum ≤ x.sum := by
  unfold aft; split
  · simp only [neg, K.sum]; omega
  · split
    · simp only [pos, K.sum]; omega
    · simp only [zer, K.sum]; omega

/-- The answers so far are all yes. -/
def yes (all k : Nat) (x : K) (a b c d e f : Nat) (j : Nat) : Prop := ∀ i : Nat, i < j → can all k (aft x a b c d e f ((i : Int) - 1)) = true

theorem wk_true {all k : Nat} {x : K} {a b c d e f : Nat} (h : yes all k x a b c d e f 3) : wk all k x a b c d e f = true := by
  have h0 := h 0 (by omega)
  have h1 := h 1 (by omega)
  have h2 := h 2 (by omega)
  simp [aft] at h0 h1 h2
  simp [wk, h0, h1, h2]

theorem wk_false {all k : Nat} {x : K} {a b c d e f : Nat} {j : Nat} (hj : j < 3) (h : can all k (aft x a b c d e f ((j : Int) - 1)) = false) : wk all k x a b c d e f = false := by
  match j, hj with
  | 0, _ => simp [aft] at h; simp [wk, h]
  | 1, _ => simp [aft] at h; simp [wk, h]
  | 2, _ => simp [aft] at h; simp [wk, h]

/-- What the loop of 'works' hands on. -/
def WorksRel (gF gS L all k : Nat) (x : K) (a b c d e f : Nat) (s : Nat → Int) (w0 : World) (j : Nat) (wr : World) : Prop :=
  yes all k x a b c d e f j ∧ ∃ s', FI gF gS L all wr s' ∧ Mem all k s' ∧ (∀ i, k < i % 6 → s' i = s i) ∧ Kp [gS] w0 wr

set_option maxHeartbeats 1000000 in
set_option maxRecDepth 100000 in
theorem specWorks (gF gS L all k : Nat) (x : K) (a b c d e f : Nat) (g1 g2 : Int) (s : Nat → Int) (w : World) (m : Nat) (hcan : CanSpec gF gS L all k) (hk : k ≤ 4)
    (hx : Ok x) (hsum : x.sum ≤ all) (h1 : a + b ≤ x.o) (h2 : c + d ≤ x.h) (h3 : e + f ≤ x.l) (hF : FI gF gS L all w s) (hM : Mem all k s) (hmS : m ≠ gS)
    (hb : w.heap[m]? = some (.cells #[.int .i64 a, .int .i64 b, .int .i64 c, .int .i64 d, .int .i64 e, .int .i64 f, .int .i64 g1, .int .i64 g2] 191 (0, 0))) :
    Calls Try.prog 175 #[.pointer (some ⟨gF, 0, none⟩), kval x, .pointer (some ⟨m, 0, none⟩), .int .i64 (k + 1)] w (CanPost gF gS L all k x s w (wk all k x a b c d e f)) := by
  have HB := Lib.hid hb
  have hlt := blk_lt hb
  have hgS : gS < w.heap.size := by obtain ⟨_, A, h, _⟩ := hF; exact blk_lt h
  have HF := Lib.hid hF
  replace hcan := Lib.hid hcan
  clear hb hF
  unfold kval
  go_enter Try.func175, Try.ntmps175
  go_wp2
  go_loopg [9] 3 (fun k' r wr => ∃ j : Nat, j + k' = 3 ∧ r = .int .i64 ((j : Int) - 1) ∧ Hid (WorksRel gF gS L all k x a b c d e f s w j wr) ∧
      Hid (wr.heap[w.heap.size]? = some (.cells #[.int .i64 x.o, .int .i64 x.h, .int .i64 x.l, .int .i64 x.n] 100 (0, 0))))
  case atStart =>
    exact ⟨0, rfl, rfl, Lib.hid ⟨fun i hi => by omega, s, HF.out.kp ((Kp.refl _ _).alloc _), hM, fun _ _ => rfl, (Kp.refl _ _).alloc _⟩, Lib.hid (blk_new _ _)⟩
  case round =>
    obtain ⟨j, hj, rfl, HR, HX⟩ := hrel
    have b0 : wr.cell? ⟨w.heap.size, 0, none⟩ = some (.int .i64 x.o) := blk_cell HX.out 0
    have b1 : wr.cell? ⟨w.heap.size, 1, none⟩ = some (.int .i64 x.h) := blk_cell HX.out 1
    have b2 : wr.cell? ⟨w.heap.size, 2, none⟩ = some (.int .i64 x.l) := blk_cell HX.out 2
    have b3 : wr.cell? ⟨w.heap.size, 3, none⟩ = some (.int .i64 x.n) := blk_cell HX.out 3
    obtain ⟨hy, s', hF', hM', hs', hK'⟩ := HR.out
    replace hy := Lib.hid hy; have hF' := Lib.hid hF'; have hM' := Lib.hid hM'; have hs' := Lib.hid hs'; have hK' := Lib.hid hK'
    clear HR
    by_cases h3' : j < 3
    · go_wp2_with fail
      refine (specAfter x a b c d e f g1 g2 ((j : Int) - 1) _ m hx h1 h2 h3 (by omega) (hK'.out.blk HB.out (by simpa using hmS))).mono ?_
      rintro e1 w1 ⟨rfl, hB1⟩
      replace hB1 := Lib.hid hB1
      go_wp2_with fail
      refine (hcan.out (aft x a b c d e f ((j : Int) - 1)) s' _ (aft_ok hx h1 h2 h3 _) (Nat.le_trans (aft_sum h1 h2 h3 _) hsum) (hF'.out.kp (Kp.ofBelow hB1.out)) hM'.out).mono ?_
      rintro e2 w2 ⟨rfl, s2, hF2, hM2, hs2, hK2⟩
      replace hF2 := Lib.hid hF2; replace hM2 := Lib.hid hM2; replace hs2 := Lib.hid hs2; replace hK2 := Lib.hid hK2
      obtain ⟨v, hv⟩ : ∃ v, can all k (aft x a b c d e f ((j : Int) - 1)) = v := ⟨_, rfl⟩
      rw [hv]
      replace hv := Lib.hid hv
      have HK : Hid (Kp [gS] w w2) := Lib.hid ((hK'.out.stepBelow hB1.out).trans hK2.out)
      have HS : Hid (∀ i, k < i % 6 → s2 i = s i) := Lib.hid fun i hi => (hs2.out i hi).trans (hs'.out i hi)
      cases v with
      | false =>
        go_wp2_with fail
        go_ret
        exact ⟨by rw [wk_false h3' hv.out]; rfl, s2, hF2.out, hM2.out, HS.out, HK.out⟩
      | true =>
        go_wp2_with fail
        go_roundg (gk - 1)
        case rel =>
          refine ⟨j + 1, by omega, by go_num, Lib.hid ⟨fun i hi => ?_, s2, hF2.out, hM2.out, HS.out, HK.out⟩, Lib.hid (hK2.out.blk ((Kp.ofBelow (S := []) hB1.out).blk HX.out (by simp)) (by simp; omega))⟩
          by_cases hij : i = j
          · subst hij; exact hv.out
          · exact hy.out i (by omega)
        case measure => omega
    · obtain rfl : j = 3 := by omega
      go_wp2_with fail
      go_ret
      exact ⟨by rw [wk_true hy.out]; rfl, s', hF'.out, hM'.out, hs'.out, hK'.out⟩
end Go.Proofs.Ytafimdhmdakcaaa
