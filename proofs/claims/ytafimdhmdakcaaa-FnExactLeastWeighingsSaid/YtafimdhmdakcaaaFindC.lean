/- The program's search of weighings: one weighing is tried. Condition: what fewer weighings can find is known (the contract of 'can', one level below). -/
import Derived.Test.YtafimdhmdakcaaaFindB
set_option linter.unusedVariables false
set_option linter.unusedSimpArgs false
namespace Go.Proofs.Ytafimdhmdakcaaa
open Go Go.RowKit Coins

def kOfKey (q : Key) : K := ⟨q.o, q.h, q.l, q.n.toNat⟩

/-- What has been tried, kept at block b: all of it is right. -/
def MI (all b : Nat) (w : World) : Prop := ∃ mp, MapAt (keyv all) w b mp ∧ ∀ q v, look mp q = some v → v = .bool (can all q.j (kOfKey q))

theorem MI.kp {all b : Nat} {S : List Nat} {w w' : World} (h : MI all b w) (hk : Kp S w w') (hb : b ∉ S) : MI all b w' := by
  obtain ⟨mp, h1, h2⟩ := h
  exact ⟨mp, h1.kp hk hb, h2⟩

theorem MI.lt {all b : Nat} {w : World} (h : MI all b w) : b < w.heap.size := by
  obtain ⟨mp, h1, _⟩ := h
  exact h1.lt

def ICanPost (all b : Nat) (v : Bool) (w : World) (e : Ending) (w' : World) : Prop := e = .returned (.bool v) ∧ MI all b w' ∧ Kp [b] w w'

def ICanSpec (all b k : Nat) : Prop := ∀ (x : K) (w : World), Ok x → x.sum ≤ all → MI all b w → Calls Try.prog 66 #[.map (some b), knv all x, .int .i64 k] w (ICanPost all b (can all k x) w)

def wk' (all k : Nat) (x : K) (a b c d e f : Nat) : Bool := can all k (neg a b c d e f) && can all k (zer x a b c d e f) && can all k (pos a b c d e f)

theorem neg_sum {x : K} {a b c d e f : Nat} (h1 : a + b ≤ x.o) (h2 : c + d ≤ x.h) (h3 : e + f ≤ x.l) : (neg a b c d e f).sum ≤ x.sum := by simp only [neg, K.sum]; omega
theorem pos_sum {x : K} {a b c d e f : Nat} (h1 : a + b ≤ x.o) (h2 : c + d ≤ x.h) (h3 : e + f ≤ x.l) : (pos a b c d e f).sum ≤ x.sum := by simp only [pos, K.sum]; omega
theorem zer_sum {x : K} {a b c d e f : Nat} : (zer x a b c d e f).sum ≤ x.sum := by simp only [zer, K.sum]; omega

set_option maxHeartbeats 1000000 in
set_option maxRecDepth 100000 in
theorem implSplits (all bm k : Nat) (hcan : ICanSpec all bm k) (x : K) (a b c d e f g1 g2 : Nat) (w : World) (hk : k ≤ 4) (hx : Ok x) (hall : x.o + x.h + x.l ≤ all) (h14 : all ≤ 14) (h1 : a + b ≤ x.o) (h2 : c + d ≤ x.h) (h3 : e + f ≤ x.l) (hM : MI all bm w) :
    Calls Try.prog 134 #[.map (some bm), knv all x, fov a b c d e f g1 g2, .int .i64 (k + 1)] w (ICanPost all bm (wk' all k x a b c d e f) w) := by
  have hbm := hM.lt
  replace hcan := Lib.hid hcan; replace hM := Lib.hid hM
  have hn1 := implBehindNeg all x a b c d e f g1 g2
  have hn2 := implBehindZero all x a b c d e f g1 g2
  have hn3 := implBehindPos all x a b c d e f g1 g2
  replace hn1 := Lib.hid hn1; replace hn2 := Lib.hid hn2; replace hn3 := Lib.hid hn3
  obtain ⟨kv, hkv⟩ : ∃ v, (all - x.o - x.h - x.l) = v := ⟨_, rfl⟩
  obtain ⟨v1, hv1⟩ : ∃ v, can all k (neg a b c d e f) = v := ⟨_, rfl⟩
  obtain ⟨v2, hv2⟩ : ∃ v, can all k (zer x a b c d e f) = v := ⟨_, rfl⟩
  obtain ⟨v3, hv3⟩ : ∃ v, can all k (pos a b c d e f) = v := ⟨_, rfl⟩
  have hw : wk' all k x a b c d e f = (v1 && v2 && v3) := by unfold wk'; rw [hv1, hv2, hv3]
  rw [hw]
  replace hv1 := Lib.hid hv1; replace hv2 := Lib.hid hv2; replace hv3 := Lib.hid hv3; replace hkv := Lib.hid hkv
  clear hw
  unfold knv fov
  go_enter Try.func134, Try.ntmps134
  go_wp2_with fail
  refine (hn1.out _ hx hall h14 h1 h2 h3).mono ?_
  rintro e1 w1 ⟨rfl, hB1⟩
  have hX1 := Lib.hid (blk_below (blk_alloc (blk_new w _) _) hB1)
  have hY1 := Lib.hid (blk_below (blk_new1 w _ _) hB1)
  replace hB1 := Lib.hid hB1
  go_wp2_with fail
  have HK1 : Hid (Kp [bm] w w1) := Lib.hid ((((Kp.refl _ _).alloc _).alloc _).stepBelow hB1.out)
  have HK1' : Hid (Kp [] w w1) := Lib.hid ((((Kp.refl _ _).alloc _).alloc _).stepBelow hB1.out)
  refine (hcan.out _ _ (neg_ok hx h1 h2 h3) (Nat.le_trans (neg_sum h1 h2 h3) hall) (hM.out.kp HK1'.out (by simp))).mono ?_
  rintro e2 w2 ⟨rfl, hM2, hK2⟩
  rw [hv1.out]
  have HK2 := Lib.hid (HK1.out.trans hK2)
  have hX2 := Lib.hid (hK2.blk hX1.out (by simp; omega))
  have hY2 := Lib.hid (hK2.blk hY1.out (by simp; omega))
  replace hM2 := Lib.hid hM2
  clear hK2
  cases v1 with
  | false =>
    go_wp2_with fail
    go_ret
    exact ⟨rfl, hM2.out, HK2.out⟩
  | true =>
    obtain ⟨p0, p1, p2, p3, p4⟩ := cells5 hX2.out
    obtain ⟨q0, q1, q2, q3, q4, q5, q6, q7⟩ := cells8 hY2.out
    go_wp2_with fail
    refine (hn2.out _ hx hall h14 h1 h2 h3).mono ?_
    rintro e2 wB2 ⟨rfl, hB2⟩
    clear p0 p1 p2 p3 p4 q0 q1 q2 q3 q4 q5 q6 q7
    have hX2' := Lib.hid (blk_below hX2.out hB2)
    have hY2' := Lib.hid (blk_below hY2.out hB2)
    replace hB2 := Lib.hid hB2
    go_wp2_with fail
    refine (hcan.out _ _ (zer_ok hx a b c d e f) (Nat.le_trans (zer_sum) hall) (hM2.out.kp (Kp.ofBelow (S := []) hB2.out) (by simp))).mono ?_
    rintro e2 w3 ⟨rfl, hM3, hK3⟩
    rw [hv2.out]
    have HK3 := Lib.hid ((HK2.out.stepBelow hB2.out).trans hK3)
    have hX3 := Lib.hid (hK3.blk hX2'.out (by simp; omega))
    have hY3 := Lib.hid (hK3.blk hY2'.out (by simp; omega))
    replace hM3 := Lib.hid hM3
    clear hK3
    cases v2 with
    | false =>
      go_wp2_with fail
      go_ret
      exact ⟨rfl, hM3.out, HK3.out⟩
    | true =>
      obtain ⟨p0, p1, p2, p3, p4⟩ := cells5 hX3.out
      obtain ⟨q0, q1, q2, q3, q4, q5, q6, q7⟩ := cells8 hY3.out
      go_wp2_with fail
      refine (hn3.out _ hx hall h14 h1 h2 h3).mono ?_
      rintro e3 wB3 ⟨rfl, hB3⟩
      clear p0 p1 p2 p3 p4 q0 q1 q2 q3 q4 q5 q6 q7
      have hX3' := Lib.hid (blk_below hX3.out hB3)
      have hY3' := Lib.hid (blk_below hY3.out hB3)
      replace hB3 := Lib.hid hB3
      go_wp2_with fail
      refine (hcan.out _ _ (pos_ok hx h1 h2 h3) (Nat.le_trans (pos_sum h1 h2 h3) hall) (hM3.out.kp (Kp.ofBelow (S := []) hB3.out) (by simp))).mono ?_
      rintro e3 w4 ⟨rfl, hM4, hK4⟩
      rw [hv3.out]
      have HK4 := Lib.hid ((HK3.out.stepBelow hB3.out).trans hK4)
      have hX4 := Lib.hid (hK4.blk hX3'.out (by simp; omega))
      have hY4 := Lib.hid (hK4.blk hY3'.out (by simp; omega))
      replace hM4 := Lib.hid hM4
      clear hK4
      go_wp2_with fail
      go_ret
      exact ⟨rfl, hM4.out, HK4.out⟩
end Go.Proofs.Ytafimdhmdakcaaa
