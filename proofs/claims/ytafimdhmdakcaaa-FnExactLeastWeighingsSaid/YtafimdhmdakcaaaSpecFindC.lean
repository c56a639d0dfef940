/- The reference's search of weighings: what can be found, looked up or searched. Condition: what fewer weighings can find is known. -/
import Derived.Test.YtafimdhmdakcaaaSpecFindB
import Derived.Deep.DeepCutAuto
import Derived.Deep.CutBlock
set_option linter.unusedVariables false
set_option linter.unusedSimpArgs false
namespace Go.Proofs.Ytafimdhmdakcaaa
open Go Go.RowKit Coins

/-- What a call of 'first' leaves. -/
def FirstPost (gF gS L all k : Nat) (s : Nat → Int) (w : World) (v : Bool) (e : Ending) (w' : World) : Prop :=
  ∃ q0 q1 q2 q3 q4 q5 q6 q7 : Int, e = .returned (.tuple #[.agg #[.int .i64 q0, .int .i64 q1, .int .i64 q2, .int .i64 q3, .int .i64 q4, .int .i64 q5, .int .i64 q6, .int .i64 q7], .bool v]) ∧ ∃ s', FI gF gS L all w' s' ∧ Mem all k s' ∧ (∀ i, k < i % 6 → s' i = s i) ∧ Kp [gS] w w'

def FirstSpec (gF gS L all k : Nat) : Prop := ∀ (x : K) (s : Nat → Int) (w : World), Ok x → x.sum ≤ all → FI gF gS L all w s → Mem all k s →
  Calls Try.prog 130 #[.pointer (some ⟨gF, 0, none⟩), kval x, .int .i64 (k + 1)] w (FirstPost gF gS L all k s w (some1 all k x))

def upd (s : Nat → Int) (i : Nat) (v : Int) : Nat → Int := fun j => if j = i then v else s j

theorem FI.set {gF gS L all : Nat} {w : World} {s : Nat → Int} (h : FI gF gS L all w s) {i : Nat} (hi : i < L) (v : Int) : FI gF gS L all (w.setCell ⟨gS, i, none⟩ (.int .i8 v)) (upd s i v) := by
  have hne := h.ne
  obtain ⟨h1, A, h2, h3, h5, h4⟩ := h
  refine ⟨blk_far h1 hne _, _, blk_set h2 i _, by simpa using h3, h5, fun j hj => ?_⟩
  rw [Array.getElem?_setIfInBounds]
  unfold upd
  by_cases hij : i = j
  · subst hij
    rw [if_pos rfl, if_pos (by omega), if_pos rfl]
  · rw [if_neg hij, if_neg (fun e => hij e.symm), h4 j hj]

theorem mem_upd {all k : Nat} {s : Nat → Int} (h : Mem all k s) (x : K) (j : Nat) (hj : j ≤ 5) (hk : k < j) (v : Int) : Mem all k (upd s (place x j) v) := by
  intro y i hy hi
  have : place y i ≠ place x j := by
    intro e
    have h1 := place_mod (x := y) (k := i) (by omega)
    have h2 := place_mod (x := x) (k := j) hj
    rw [e, h2] at h1; omega
  unfold upd
  rw [if_neg this]
  exact h y i hy hi

set_option maxHeartbeats 1000000 in
set_option maxRecDepth 100000 in
/-- Nothing to search: one case at most, or too many. -/
theorem specCanFew (gF gS L all k : Nat) (x : K) (s : Nat → Int) (w : World) (hk : k ≤ 5) (hx : Ok x) (hF : FI gF gS L all w s) (hM : Mem all k s) (hc : x.cases ≤ 1) :
    Calls Try.prog 64 #[.pointer (some ⟨gF, 0, none⟩), kval x, .int .i64 k] w (CanPost gF gS L all k x s w (can all k x)) := by
  have HC := Lib.hid (can_small all k x hc)
  unfold kval
  go_enter Try.func64, Try.ntmps64
  go_wp2_with fail
  refine (specCases x _ hx).mono ?_
  rintro e1 w1 ⟨rfl, hB1⟩
  replace hB1 := Lib.hid hB1
  go_wp2_with fail
  go_ret
  exact ⟨by rw [HC.out]; rfl, s, hF.kp (((Kp.refl _ _).alloc _).stepBelow hB1.out), hM, fun _ _ => rfl, ((Kp.refl _ _).alloc _).stepBelow hB1.out⟩

set_option maxHeartbeats 1000000 in
set_option maxRecDepth 100000 in
theorem specCanZero (gF gS L all : Nat) (x : K) (s : Nat → Int) (w : World) (hx : Ok x) (hF : FI gF gS L all w s) (hM : Mem all 0 s) (hc : ¬ x.cases ≤ 1) :
    Calls Try.prog 64 #[.pointer (some ⟨gF, 0, none⟩), kval x, .int .i64 ((0 : Nat) : Int)] w (CanPost gF gS L all 0 x s w (can all 0 x)) := by
  have HC : Hid (can all 0 x = false) := Lib.hid (by simp [can_zero]; omega)
  unfold kval
  go_enter Try.func64, Try.ntmps64
  go_wp2_with fail
  refine (specCases x _ hx).mono ?_
  rintro e1 w1 ⟨rfl, hB1⟩
  replace hB1 := Lib.hid hB1
  go_wp2_with fail
  go_ret
  exact ⟨by rw [HC.out]; rfl, s, hF.kp (((Kp.refl _ _).alloc _).stepBelow hB1.out), hM, fun _ _ => rfl, ((Kp.refl _ _).alloc _).stepBelow hB1.out⟩

set_option maxHeartbeats 1000000 in
set_option maxRecDepth 100000 in
theorem specCanMany (gF gS L all k : Nat) (x : K) (s : Nat → Int) (w : World) (hk : k + 1 ≤ 5) (hx : Ok x) (hF : FI gF gS L all w s) (hM : Mem all (k + 1) s) (hc : ¬ x.cases ≤ 1) (hc' : ¬ x.cases ≤ 3 ^ (k + 1)) :
    Calls Try.prog 64 #[.pointer (some ⟨gF, 0, none⟩), kval x, .int .i64 ((k + 1 : Nat) : Int)] w (CanPost gF gS L all (k + 1) x s w (can all (k + 1) x)) := by
  have HC := Lib.hid (can_large all (k + 1) x hc hc')
  have hgt : p3 (k + 1) < x.cases := by unfold p3; omega
  unfold kval
  go_enter Try.func64, Try.ntmps64
  go_wp2_with fail
  refine (specCases x _ hx).mono ?_
  rintro e1 w1 ⟨rfl, hB1⟩
  have hX1 := blk_below (blk_new _ _) hB1
  obtain ⟨b0, b1, b2, b3⟩ := cells4 hX1
  replace hB1 := Lib.hid hB1; replace hX1 := Lib.hid hX1
  go_wp2_with fail
  refine (specCases x _ hx).mono ?_
  rintro e2 w2 ⟨rfl, hB2⟩
  replace hB2 := Lib.hid hB2
  go_wp2_with fail
  refine (specPower (k + 1) _ hk).mono ?_
  rintro e3 w3 ⟨rfl, rfl⟩
  go_wp2_with fail
  go_ret
  have HK : Kp [gS] w w2 := (((Kp.refl _ _).alloc _).stepBelow hB1.out).stepBelow hB2.out
  have HK' : Kp [] w w2 := (((Kp.refl _ _).alloc _).stepBelow hB1.out).stepBelow hB2.out
  exact ⟨by rw [HC.out]; rfl, s, hF.kp HK', hM, fun _ _ => rfl, HK⟩

set_option maxHeartbeats 1000000 in
set_option maxRecDepth 100000 in
theorem specCanSeen (gF gS L all k : Nat) (x : K) (s : Nat → Int) (w : World) (hk : k + 1 ≤ 5) (hx : Ok x) (hF : FI gF gS L all w s) (hM : Mem all (k + 1) s) (hc : ¬ x.cases ≤ 1) (hc' : x.cases ≤ 3 ^ (k + 1))
    (hs : ¬ s (place x (k + 1)) = 0) :
    Calls Try.prog 64 #[.pointer (some ⟨gF, 0, none⟩), kval x, .int .i64 ((k + 1 : Nat) : Int)] w (CanPost gF gS L all (k + 1) x s w (can all (k + 1) x)) := by
  have hle : x.cases ≤ p3 (k + 1) := by unfold p3; omega
  have hHx := hx
  obtain ⟨hsum, hn⟩ := hx
  have HM := Lib.hid (hM x (k + 1) hHx (Nat.le_refl _))
  unfold kval
  go_enter Try.func64, Try.ntmps64
  go_wp2_with fail
  refine (specCases x _ hHx).mono ?_
  rintro e1 w1 ⟨rfl, hB1⟩
  have hX1 := blk_below (blk_new _ _) hB1
  obtain ⟨b0, b1, b2, b3⟩ := cells4 hX1
  replace hB1 := Lib.hid hB1; replace hX1 := Lib.hid hX1
  go_wp2_with fail
  refine (specCases x _ hHx).mono ?_
  rintro e2 w2 ⟨rfl, hB2⟩
  clear b0 b1 b2 b3
  have hX2 := blk_below hX1.out hB2
  obtain ⟨b0, b1, b2, b3⟩ := cells4 hX2
  replace hB2 := Lib.hid hB2; replace hX2 := Lib.hid hX2
  go_wp2_with fail
  refine (specPower (k + 1) _ hk).mono ?_
  rintro e3 w3 ⟨rfl, rfl⟩
  have HK : Hid (Kp [gS] w w2) := Lib.hid ((((Kp.refl _ _).alloc _).stepBelow hB1.out).stepBelow hB2.out)
  have HK' : Hid (Kp [] w w2) := Lib.hid ((((Kp.refl _ _).alloc _).stepBelow hB1.out).stepBelow hB2.out)
  have HF2 := Lib.hid (hF.kp HK'.out)
  go_upto_region 6 with (fail)
  obtain ⟨p, hpe⟩ : ∃ p, p = place x (k + 1) := ⟨_, rfl⟩
  rw [show ((((x.o : Int) * 14 + x.h) * 14 + x.l) * 2 + x.n) * 6 + ((k : Int) + 1) = (p : Int) from by rw [hpe]; unfold place; omega]
  have hp := place_lt hHx hk
  rw [← hpe] at hp hs
  have hM1 : s p = if can all (k + 1) x then 2 else 1 := by
    rw [hpe]; rcases HM.out with h | h
    · rw [hpe] at hs; exact absurd h hs
    · exact h
  have hp : p < L := by obtain ⟨_, A, _, _, h5, _⟩ := HF2.out; have := h5.out; omega
  have hp2 : (p : Int) < L := by omega
  have c1 : w2.cell? ⟨gF, 1, none⟩ = some (.slice (some ⟨gS, 0, none⟩) L L) := blk_cell HF2.out.1 1
  have c2 : w2.cell? ⟨gS, p, none⟩ = some (.int .i8 (s p)) := by obtain ⟨_, A, h2, _, _, h4⟩ := HF2.out; rw [blk_cell h2, h4 p hp]
  clear hs
  replace hpe := Lib.hid hpe
  obtain ⟨v, hv⟩ : ∃ v, can all (k + 1) x = v := ⟨_, rfl⟩
  rw [hv] at hM1
  replace hv := Lib.hid hv
  cases v with
  | false =>
    have h1 : s p = 1 := by simpa using hM1
    rw [h1] at c2
    clear hM1 h1
    go_wp2_with fail
    go_ret
    exact ⟨by rw [hv.out]; rfl, s, HF2.out, hM, fun _ _ => rfl, HK.out⟩
  | true =>
    have h1 : s p = 2 := by simpa using hM1
    rw [h1] at c2
    clear hM1 h1
    go_wp2_with fail
    go_ret
    exact ⟨by rw [hv.out]; rfl, s, HF2.out, hM, fun _ _ => rfl, HK.out⟩

/-- What is known once a search has ended. -/
theorem mem_done {all k : Nat} {s s1 s2 : Nat → Int} {x : K} {v : Int} (hk : k + 1 ≤ 5) (hx : Ok x) (hM : Mem all (k + 1) s) (hM2 : Mem all k s2) (h2 : ∀ i, k < i % 6 → s2 i = upd s (place x (k + 1)) v i)
    (h3 : ∀ i, i ≠ place x (k + 1) → s1 i = s2 i) (h4 : s1 (place x (k + 1)) = if can all (k + 1) x then 2 else 1) : Mem all (k + 1) s1 := by
  intro y j hy hj
  by_cases hyx : place y j = place x (k + 1)
  · obtain ⟨rfl, rfl⟩ := place_inj hy hx (by omega) hk hyx
    exact .inr h4
  · rw [h3 _ hyx]
    by_cases hjk : j ≤ k
    · exact hM2 y j hy hjk
    · have hm := place_mod (x := y) (k := j) (by omega)
      rw [h2 _ (by omega)]
      unfold upd
      rw [if_neg hyx]
      exact hM y j hy hj

set_option maxHeartbeats 1000000 in
set_option maxRecDepth 100000 in
theorem specCanSearch (gF gS L all k : Nat) (x : K) (s : Nat → Int) (w : World) (hfirst : FirstSpec gF gS L all k) (hk : k + 1 ≤ 5) (hx : Ok x) (hall : x.sum ≤ all) (hF : FI gF gS L all w s) (hM : Mem all (k + 1) s) (hc : ¬ x.cases ≤ 1) (hc' : x.cases ≤ 3 ^ (k + 1))
    (hs : s (place x (k + 1)) = 0) :
    Calls Try.prog 64 #[.pointer (some ⟨gF, 0, none⟩), kval x, .int .i64 ((k + 1 : Nat) : Int)] w (CanPost gF gS L all (k + 1) x s w (can all (k + 1) x)) := by
  have hle : x.cases ≤ p3 (k + 1) := by unfold p3; omega
  have hHx := hx
  have HV := Lib.hid (can_mid all k x hc hc')
  obtain ⟨hsum, hn⟩ := hx
  replace hfirst := Lib.hid hfirst
  unfold kval
  go_enter Try.func64, Try.ntmps64
  go_wp2_with fail
  refine (specCases x _ hHx).mono ?_
  rintro e1 w1 ⟨rfl, hB1⟩
  have hX1 := blk_below (blk_new _ _) hB1
  obtain ⟨b0, b1, b2, b3⟩ := cells4 hX1
  replace hB1 := Lib.hid hB1; replace hX1 := Lib.hid hX1
  go_wp2_with fail
  refine (specCases x _ hHx).mono ?_
  rintro e2 w2 ⟨rfl, hB2⟩
  clear b0 b1 b2 b3
  have hX2 := blk_below hX1.out hB2
  obtain ⟨b0, b1, b2, b3⟩ := cells4 hX2
  replace hB2 := Lib.hid hB2; replace hX2 := Lib.hid hX2
  go_wp2_with fail
  refine (specPower (k + 1) _ hk).mono ?_
  rintro e3 w3 ⟨rfl, rfl⟩
  have HK : Hid (Kp [gS] w w2) := Lib.hid ((((Kp.refl _ _).alloc _).stepBelow hB1.out).stepBelow hB2.out)
  have HK' : Hid (Kp [] w w2) := Lib.hid ((((Kp.refl _ _).alloc _).stepBelow hB1.out).stepBelow hB2.out)
  have HF2 := Lib.hid (hF.kp HK'.out)
  go_upto_region 6 with (fail)
  obtain ⟨p, hpe⟩ : ∃ p, p = place x (k + 1) := ⟨_, rfl⟩
  rw [show ((((x.o : Int) * 14 + x.h) * 14 + x.l) * 2 + x.n) * 6 + ((k : Int) + 1) = (p : Int) from by rw [hpe]; unfold place; omega]
  have hp := place_lt hHx hk
  rw [← hpe] at hp hs
  have hp : p < L := by obtain ⟨_, A, _, _, h5, _⟩ := HF2.out; have := h5.out; omega
  have hp2 : (p : Int) < L := by omega
  have c1 : w2.cell? ⟨gF, 1, none⟩ = some (.slice (some ⟨gS, 0, none⟩) L L) := blk_cell HF2.out.1 1
  have c2 : w2.cell? ⟨gS, p, none⟩ = some (.int .i8 0) := by obtain ⟨_, A, h2, _, _, h4⟩ := HF2.out; rw [blk_cell h2, h4 p hp, hs]
  have c3 : w2.frozen? ⟨gS, p, none⟩ = false := by obtain ⟨_, A, h2, _, _, h4⟩ := HF2.out; exact blk_frozen h2 _
  have hne : w.heap.size ≠ gS := by obtain ⟨_, A, h2, _⟩ := hF; have := blk_lt h2; omega
  replace hpe := Lib.hid hpe; replace hs := Lib.hid hs
  have HF3 := Lib.hid (HF2.out.set hp 1)
  have HK3 : Hid (Kp [gS] w (w2.setCell ⟨gS, p, none⟩ (.int .i8 1))) := Lib.hid (HK.out.setCell (by simp) _)
  have hX3 := blk_far hX2.out (p := ⟨gS, p, none⟩) hne (.int .i8 1)
  clear b0 b1 b2 b3
  obtain ⟨b0, b1, b2, b3⟩ := cells4 hX3
  clear hX3
  go_wp2_with fail
  refine (hfirst.out x _ _ hHx hall HF3.out (by rw [hpe.out]; exact mem_upd (k := k) (hM.mono (by omega)) x (k + 1) hk (by omega) 1)).mono ?_
  rintro e4 w4 ⟨q0, q1, q2, q3, q4, q5, q6, q7, rfl, s4, hF4, hM4, hs4, hK4⟩
  have HF4 := Lib.hid hF4
  have HK4 := Lib.hid (HK3.out.trans hK4)
  replace hM4 := Lib.hid hM4
  have hs4' : s4 p = 1 := by
    have h6 := place_mod (x := x) (k := k + 1) hk
    rw [hs4 p (by rw [hpe.out]; omega)]; simp [upd]
  have HS4 : Hid (∀ i, k < i % 6 → s4 i = upd s (place x (k + 1)) 1 i) := Lib.hid (by rw [← hpe.out]; exact hs4)
  clear hs4 hF4 hK4
  have d1 : w4.cell? ⟨gF, 1, none⟩ = some (.slice (some ⟨gS, 0, none⟩) L L) := blk_cell HF4.out.1 1
  have d2 : w4.cell? ⟨gS, p, none⟩ = some (.int .i8 1) := by obtain ⟨_, A, h2, _, _, h4⟩ := HF4.out; rw [blk_cell h2, h4 p hp, hs4']
  have d3 : w4.frozen? ⟨gS, p, none⟩ = false := by obtain ⟨_, A, h2, _, _, h4⟩ := HF4.out; exact blk_frozen h2 _
  have dlt := HF4.out.1
  have dlt1 : gF < w4.heap.size := blk_lt dlt
  have dlt2 : gS < w4.heap.size := by obtain ⟨_, A, h2, _⟩ := HF4.out; exact blk_lt h2
  have hne1 : gF ≠ gS := HF4.out.ne
  have hne2 : gS ≠ gF := fun h => hne1 h.symm
  clear dlt hs4'
  obtain ⟨v, hv⟩ : ∃ v, some1 all k x = v := ⟨_, rfl⟩
  rw [hv]
  replace hv := Lib.hid hv
  cases v with
  | false =>
    go_wp2_with fail
    go_ret
    have hs4p : s4 (place x (k + 1)) = 1 := by
      rw [HS4.out _ (by have h6 := place_mod (x := x) (k := k + 1) hk; omega)]; simp [upd]
    exact ⟨by rw [HV.out, hv.out]; rfl, s4, HF4.out.kp ((Kp.refl _ _).alloc _), mem_done hk hHx hM hM4.out HS4.out (fun _ _ => rfl) (by rw [hs4p, HV.out, hv.out]; rfl),
      fun i hi => by rw [HS4.out i (by omega)]; unfold upd; rw [if_neg (fun e => by have h6 := place_mod (x := x) (k := k + 1) hk; rw [e] at hi; omega)], HK4.out.alloc _⟩
  | true =>
    go_wp2_with fail
    go_ret
    have hpp := hpe.out
    exact ⟨by rw [HV.out, hv.out]; rfl, upd s4 p 2, (HF4.out.set hp 2).kp ((Kp.refl _ _).alloc _),
      mem_done hk hHx hM hM4.out HS4.out (fun i hi => by rw [← hpp] at hi; simp [upd, hi]) (by rw [← hpp, HV.out, hv.out]; simp [upd]),
      fun i hi => by
        have h6 := place_mod (x := x) (k := k + 1) hk
        have hi' : i ≠ p := fun e => by rw [e, hpp] at hi; omega
        have h7 := HS4.out i (by omega)
        rw [← hpp] at h7
        simp only [upd, if_neg hi'] at h7 ⊢
        exact h7, (HK4.out.setCell (by simp) _).alloc _⟩

/-- 'can', once 'first' is known. -/
theorem specCan_of_first (gF gS L all k : Nat) (hk : k + 1 ≤ 5) (h : FirstSpec gF gS L all k) : CanSpec gF gS L all (k + 1) := by
  intro x s w hx hall hF hM
  by_cases hc : x.cases ≤ 1
  · exact specCanFew gF gS L all (k + 1) x s w hk hx hF hM hc
  · by_cases hc' : x.cases ≤ 3 ^ (k + 1)
    · by_cases hs : s (place x (k + 1)) = 0
      · exact specCanSearch gF gS L all k x s w h hk hx hall hF hM hc hc' hs
      · exact specCanSeen gF gS L all k x s w hk hx hF hM hc hc' hs
    · exact specCanMany gF gS L all k x s w hk hx hF hM hc hc'

theorem specCan_zero (gF gS L all : Nat) : CanSpec gF gS L all 0 := by
  intro x s w hx _ hF hM
  by_cases hc : x.cases ≤ 1
  · exact specCanFew gF gS L all 0 x s w (by omega) hx hF hM hc
  · exact specCanZero gF gS L all x s w hx hF hM hc
end Go.Proofs.Ytafimdhmdakcaaa
