/- The program's search of weighings: the good coins are added, and the weighing is tried if they are enough. Condition: what fewer weighings can find is known. -/
import Derived.Test.YtafimdhmdakcaaaFindD
set_option linter.unusedVariables false
set_option linter.unusedSimpArgs false
namespace Go.Proofs.Ytafimdhmdakcaaa
open Go Go.RowKit Coins

def each (q : Vars) : Value := .func (.func 133) #[] #[.pointer (some ⟨q.pm, 0, none⟩), .pointer (some ⟨q.pk, 0, none⟩), .pointer (some ⟨q.pl, 0, none⟩), .pointer (some ⟨q.po, 0, none⟩)]

set_option maxHeartbeats 1000000 in
set_option maxRecDepth 100000 in
theorem implBal (all k : Nat) (x : K) (q : Vars) (hcan : ICanSpec all q.bm k) (a b c d e f : Nat) (w : World) (hk : k ≤ 4) (hx : Ok x) (hall : x.o + x.h + x.l ≤ all) (h14 : all ≤ 14) (h1 : a + b ≤ x.o) (h2 : c + d ≤ x.h) (h3 : e + f ≤ x.l)
    (hC : CI all k x q false w) :
    Calls Try.prog 177 #[knv all x, fov a b c d e f 0 0, each q] w (CIPost all k x q (does all k x a b c d e f) w) := by
  have hxs := hx.sum
  replace hC := Lib.hid hC
  obtain ⟨v, hv⟩ : ∃ v, does all k x a b c d e f = v := ⟨_, rfl⟩
  rw [hv]
  replace hv := Lib.hid hv
  obtain ⟨g, hg⟩ : ∃ g, g = all - x.o - x.h - x.l := ⟨_, rfl⟩
  have hg14 : g ≤ 14 := by omega
  unfold knv fov each
  rw [← hg]
  replace hg := Lib.hid hg; replace hcan := Lib.hid hcan
  go_enter Try.func177, Try.ntmps177
  have hc1 : Hid (∀ g1 g2 w, CI all k x q false w → Calls Try.prog 133 #[fov a b c d e f g1 g2, .pointer (some ⟨q.pm, 0, none⟩), .pointer (some ⟨q.pk, 0, none⟩), .pointer (some ⟨q.pl, 0, none⟩), .pointer (some ⟨q.po, 0, none⟩)] w (CIPost all k x q (wk' all k x a b c d e f) w)) :=
    Lib.hid fun g1 g2 w h => implCan1 all k x q hcan.out a b c d e f g1 g2 false w hk hx hall h14 h1 h2 h3 h
  unfold fov at hc1
  go_wp2_with fail
  go_quiet (fail)
  obtain ⟨l, hl⟩ : ∃ l, l = a + c + e := ⟨_, rfl⟩
  obtain ⟨r, hr⟩ : ∃ r, r = b + d + f := ⟨_, rfl⟩
  rw [show (a : Int) + c + e = (l : Int) from by omega, show (b : Int) + d + f = (r : Int) from by omega]
  have hl13 : l ≤ 13 := by omega
  have hr13 : r ≤ 13 := by omega
  replace hl := Lib.hid hl; replace hr := Lib.hid hr
  clear h1 h2 h3
  by_cases hlr : l < r
  · have i0 : ((r : Int) == 0) = false := by simp; omega
    by_cases hg1 : r - l ≤ g
    · have i1 : (r : Int) - l ≤ g := by omega
      obtain rfl : v = wk' all k x a b c d e f := hv.out.symm.trans (by
        have hgg := hg.out; have := hl.out; have := hr.out
        have : fits (all - x.o - x.h - x.l) a b c d e f = true := by simp [fits]; omega
        simp [does, wk', this])
      go_wp2_with fail
      rw [show (r : Int) - l = ((r - l : Nat) : Int) from by omega]
      refine (hc1.out (r - l) 0 _ (hC.out.kp0 ?_)).mono ?_
      · repeat (first | (with_reducible exact Kp.refl _ _) | (with_reducible refine Kp.drew ?_) | (with_reducible refine Kp.drewN ?_ _) | (with_reducible refine Kp.alloc ?_ _) | (with_reducible refine Kp.setCell ?_ (.inr (by simp)) _))
      rintro e1 w1 ⟨rfl, hC1, hK1⟩
      replace hC1 := Lib.hid hC1; replace hK1 := Lib.hid hK1
      go_wp2_with fail
      go_ret
      refine ⟨rfl, hC1.out, Kp.trans (b := _) ?_ hK1.out⟩
      repeat (first | (with_reducible exact Kp.refl _ _) | (with_reducible refine Kp.drew ?_) | (with_reducible refine Kp.drewN ?_ _) | (with_reducible refine Kp.alloc ?_ _) | (with_reducible refine Kp.setCell ?_ (.inr (by simp)) _))
    · have i1 : (g : Int) < r - l := by omega
      obtain rfl : v = false := hv.out.symm.trans (by have := hg.out; have := hl.out; have := hr.out; simp [does, fits]; omega)
      go_wp2_with fail
      go_ret
      refine ⟨rfl, hC.out.kp0 ?_, ?_⟩
      · repeat (first | (with_reducible exact Kp.refl _ _) | (with_reducible refine Kp.drew ?_) | (with_reducible refine Kp.drewN ?_ _) | (with_reducible refine Kp.alloc ?_ _) | (with_reducible refine Kp.setCell ?_ (.inr (by simp)) _))
      · repeat (first | (with_reducible exact Kp.refl _ _) | (with_reducible refine Kp.drew ?_) | (with_reducible refine Kp.drewN ?_ _) | (with_reducible refine Kp.alloc ?_ _) | (with_reducible refine Kp.setCell ?_ (.inr (by simp)) _))
  · by_cases hrl : r < l
    · have i0 : ((l : Int) == 0) = false := by simp; omega
      by_cases hg1 : l - r ≤ g
      · have i1 : (l : Int) - r ≤ g := by omega
        obtain rfl : v = wk' all k x a b c d e f := hv.out.symm.trans (by
        have hgg := hg.out; have := hl.out; have := hr.out
        have : fits (all - x.o - x.h - x.l) a b c d e f = true := by simp [fits]; omega
        simp [does, wk', this])
        go_wp2_with fail
        rw [show (l : Int) - r = ((l - r : Nat) : Int) from by omega]
        refine (hc1.out 0 (l - r) _ (hC.out.kp0 ?_)).mono ?_
        · repeat (first | (with_reducible exact Kp.refl _ _) | (with_reducible refine Kp.drew ?_) | (with_reducible refine Kp.drewN ?_ _) | (with_reducible refine Kp.alloc ?_ _) | (with_reducible refine Kp.setCell ?_ (.inr (by simp)) _))
        rintro e1 w1 ⟨rfl, hC1, hK1⟩
        replace hC1 := Lib.hid hC1; replace hK1 := Lib.hid hK1
        go_wp2_with fail
        go_ret
        refine ⟨rfl, hC1.out, Kp.trans (b := _) ?_ hK1.out⟩
        repeat (first | (with_reducible exact Kp.refl _ _) | (with_reducible refine Kp.drew ?_) | (with_reducible refine Kp.drewN ?_ _) | (with_reducible refine Kp.alloc ?_ _) | (with_reducible refine Kp.setCell ?_ (.inr (by simp)) _))
      · have i1 : (g : Int) < l - r := by omega
        obtain rfl : v = false := hv.out.symm.trans (by have := hg.out; have := hl.out; have := hr.out; simp [does, fits]; omega)
        go_wp2_with fail
        go_ret
        refine ⟨rfl, hC.out.kp0 ?_, ?_⟩
        · repeat (first | (with_reducible exact Kp.refl _ _) | (with_reducible refine Kp.drew ?_) | (with_reducible refine Kp.drewN ?_ _) | (with_reducible refine Kp.alloc ?_ _) | (with_reducible refine Kp.setCell ?_ (.inr (by simp)) _))
        · repeat (first | (with_reducible exact Kp.refl _ _) | (with_reducible refine Kp.drew ?_) | (with_reducible refine Kp.drewN ?_ _) | (with_reducible refine Kp.alloc ?_ _) | (with_reducible refine Kp.setCell ?_ (.inr (by simp)) _))
    · obtain rfl : l = r := by omega
      by_cases h0 : l = 0
      · subst h0
        obtain rfl : v = false := hv.out.symm.trans (by have := hg.out; have := hl.out; have := hr.out; simp [does, fits]; omega)
        go_wp2_with fail
        go_ret
        refine ⟨rfl, hC.out.kp0 ?_, ?_⟩
        · repeat (first | (with_reducible exact Kp.refl _ _) | (with_reducible refine Kp.drew ?_) | (with_reducible refine Kp.drewN ?_ _) | (with_reducible refine Kp.alloc ?_ _) | (with_reducible refine Kp.setCell ?_ (.inr (by simp)) _))
        · repeat (first | (with_reducible exact Kp.refl _ _) | (with_reducible refine Kp.drew ?_) | (with_reducible refine Kp.drewN ?_ _) | (with_reducible refine Kp.alloc ?_ _) | (with_reducible refine Kp.setCell ?_ (.inr (by simp)) _))
      · have i0 : ((l : Int) == 0) = false := by simp; omega
        obtain rfl : v = wk' all k x a b c d e f := hv.out.symm.trans (by
        have hgg := hg.out; have := hl.out; have := hr.out
        have : fits (all - x.o - x.h - x.l) a b c d e f = true := by simp [fits]; omega
        simp [does, wk', this])
        go_wp2_with fail
        
        refine (hc1.out 0 0 _ (hC.out.kp0 ?_)).mono ?_
        · repeat (first | (with_reducible exact Kp.refl _ _) | (with_reducible refine Kp.drew ?_) | (with_reducible refine Kp.drewN ?_ _) | (with_reducible refine Kp.alloc ?_ _) | (with_reducible refine Kp.setCell ?_ (.inr (by simp)) _))
        rintro e1 w1 ⟨rfl, hC1, hK1⟩
        replace hC1 := Lib.hid hC1; replace hK1 := Lib.hid hK1
        go_wp2_with fail
        go_ret
        refine ⟨rfl, hC1.out, Kp.trans (b := _) ?_ hK1.out⟩
        repeat (first | (with_reducible exact Kp.refl _ _) | (with_reducible refine Kp.drew ?_) | (with_reducible refine Kp.drewN ?_ _) | (with_reducible refine Kp.alloc ?_ _) | (with_reducible refine Kp.setCell ?_ (.inr (by simp)) _))
end Go.Proofs.Ytafimdhmdakcaaa
