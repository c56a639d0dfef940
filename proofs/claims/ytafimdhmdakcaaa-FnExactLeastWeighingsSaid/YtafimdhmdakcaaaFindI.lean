/- The program's CanFind returns what the plain law says, for all tasks. No condition. -/
import Derived.Test.YtafimdhmdakcaaaFindH
import Derived.Test.YtafimdhmdakcaaaSpecFindF
import Derived.Deep.RegionWith
set_option linter.unusedVariables false
set_option linter.unusedSimpArgs false
namespace Go.Proofs.Ytafimdhmdakcaaa
open Go Go.RowKit Coins

theorem implKnown (c k : Nat) (n g : Bool) (w : World) (hc : c ≤ 13) (hk : k ≤ 2) :
    Calls Try.prog 67 #[.agg #[.int .i8 c, .int .i8 k, .bool n, .bool g]] w (KnownPost (kOf c k n).o (kOf c k n).h (kOf c k n).l g.toNat w) := by
  have : k = 0 ∨ k = 1 ∨ k = 2 := by omega
  rcases this with rfl | rfl | rfl
  · exact implKnown0 c n g w hc
  · exact implKnown1 c n g w hc
  · exact implKnown2 c n g w hc

theorem kOf_n {c k : Nat} {n : Bool} : ((kOf c k n).n != 0) = n := by
  unfold kOf; split
  · cases n <;> rfl
  · split <;> cases n <;> rfl

/-- What the three calls at the end of CanFind come to. -/
def EndPost (w : World) (v : Bool) (e : Ending) (w' : World) : Prop := e = .returned (BI (v, 0)) ∧ Below w.heap.size w w'

set_option maxHeartbeats 2000000 in
set_option maxRecDepth 100000 in
theorem implCanFind (c k : Int) (n g : Bool) (q : Int) (w : World) (hc : -128 ≤ c) (hc' : c ≤ 127) (hk : -128 ≤ k) (hk' : k ≤ 127) :
    Calls Try.prog 11 #[.agg #[.int .i8 c, .int .i8 k, .bool n, .bool g], .int .i64 q] w fun e w' => e = .returned (BI (canFind c k n g q)) ∧ Below w.heap.size w w' := by
  by_cases hok : okTask c k = true
  · by_cases hq : 0 ≤ q ∧ q ≤ 5
    · obtain ⟨⟨h1, h2⟩, h3, h4⟩ := okTask_iff.1 hok
      obtain ⟨q, rfl⟩ : ∃ m : Nat, q = m := ⟨q.toNat, by omega⟩
      obtain ⟨c, rfl⟩ : ∃ m : Nat, c = m := ⟨c.toNat, by omega⟩
      obtain ⟨k, rfl⟩ : ∃ m : Nat, k = m := ⟨k.toNat, by omega⟩
      have HV : Hid (canFind c k n g q = (can (c + g.toNat) q (kOf c k n), 0)) := Lib.hid (by simp only [canFind, hok, if_true, hq, Int.toNat_natCast]; simp)
      have hg : g.toNat ≤ 1 := by cases g <;> simp
      have hok2 := Lib.hid hok
      clear hok
      have hmm := @run_makeMap Try.prog
      have hkn := fun w => implKnown c k n g w (by omega) (by omega)
      have hkd := kOf_n (c := c) (k := k) (n := n)
      obtain ⟨x, hx⟩ : ∃ x, x = kOf c k n := ⟨_, rfl⟩
      have hxo : Ok x := by rw [hx]; exact kOf_ok (by omega)
      have hxs : x.sum = c := by rw [hx, kOf_sum]
      obtain ⟨all, hall⟩ : ∃ m, m = c + g.toNat := ⟨_, rfl⟩
      have hall14 : all ≤ 14 := by omega
      rw [← hx, ← hall] at HV
      rw [← hx] at hkn hkd
      have hx13 := hxo.sum
      have hgd : all - x.o - x.h - x.l = g.toNat := by simp only [K.sum] at hxs; omega
      have hcanP := fun bm => implCan all bm hall14 q (by omega)
      have hco := fun bm w hM => hcanP bm x w hxo (by omega) hM
      unfold knv at hco
      rw [hgd, hkd] at hco
      have hof := fun a0 a1 a2 a3 c0 c1 c2 c3 w => implOf a0 a1 a2 a3 x.o x.h x.l g.toNat c0 c1 c2 c3 n w (by omega) (by omega) (by omega) (by omega)
      replace hco := Lib.hid hco; replace hkn := Lib.hid hkn; replace hof := Lib.hid hof; replace hx := Lib.hid hx; replace hall := Lib.hid hall; replace hxs := Lib.hid hxs; replace hkd := Lib.hid hkd; replace hgd := Lib.hid hgd
      clear hcanP
      go_enter Try.func11, Try.ntmps11
      go_wp2_with fail
      refine (implValid _ _ _ _ _ hc hc' hk hk').mono ?_
      rintro e1 w1 ⟨rfl, hB1⟩
      rw [show ((decide ((1 : Int) ≤ c) && decide ((c : Int) ≤ 13)) && (decide ((0 : Int) ≤ k) && decide ((k : Int) ≤ 2))) = true from hok2.out]
      have hX1 := blk_below (blk_new _ _) hB1
      obtain ⟨b0, b1, b2, b3⟩ := cells4 hX1
      have hz1 := blk_lt hX1
      replace hX1 := Lib.hid hX1
      have HK1 : Hid (Kp [] w w1) := Lib.hid (((Kp.refl _ _).alloc _).stepBelow hB1)
      replace hB1 := Lib.hid hB1
      go_wp2_with fail
      refine (implWithin _ _ _ _).mono ?_
      rintro e1 w2 ⟨rfl, rfl⟩
      rw [show (decide ((0 : Int) ≤ q) && decide ((q : Int) ≤ 5)) = true from by simp; omega]
      go_wp2_with fail
      go_region_with (first
        | (go_at_call 67; refine (hkn.out _).mono ?_; rintro e w3 ⟨a0, a1, a2, a3, c0, c1, c2, c3, rfl, hB3⟩; have hX3 : w3.heap[w.heap.size]? = some (.cells #[.int .i8 c, .int .i8 k, .bool n, .bool g] 27 (0, 0)) := blk_below (by (repeat (first | (with_reducible exact hX1.out) | (with_reducible refine at_drew ?_) | (with_reducible refine blk_alloc ?_ _)))) hB3; have hx3 := blk_cell hX3 2; have hz3 := blk_lt hX3; replace hX3 := Lib.hid hX3; replace hB3 := Lib.hid hB3)
        | (go_at_call 68; refine (hof.out _ _ _ _ _ _ _ _ _).mono ?_; rintro e w4 ⟨rfl, hB4⟩; replace hB4 := Lib.hid hB4)
        | (go_at_call 66; refine (hco.out _ _ ?_).mono ?_; (refine ⟨[], ?_, fun _ _ h => by simp [look] at h⟩; first | (with_reducible exact MapAt.new _ _) | (with_reducible exact MapAt.drew (MapAt.new _ _)) | (refine MapAt.kp ?_ (Kp.ofBelow (S := []) hB4.out) (by simp); first | (with_reducible exact MapAt.new _ _) | (with_reducible exact MapAt.drew (MapAt.new _ _)) | (refine MapAt.kp ?_ (Kp.ofBelow (S := []) hB3.out) (by simp); first | (with_reducible exact MapAt.new _ _) | (with_reducible exact MapAt.drew (MapAt.new _ _))))); rintro e w5 ⟨rfl, hM5, hK5⟩; replace hM5 := Lib.hid hM5; replace hK5 := Lib.hid hK5))
      all_goals
        go_wp2_with fail
        go_ret2
        refine ⟨by rw [HV.out]; rfl, Kp.below (Kp.transS ?_ hK5.out ?_)⟩
        · (repeat (first | (with_reducible exact HK1.out) | (with_reducible refine Kp.drew ?_) | (with_reducible refine Kp.alloc ?_ _) | (with_reducible refine Kp.stepBelow ?_ hB4.out) | (with_reducible refine Kp.stepBelow ?_ hB3.out)))
        · have h4' := hB4.out.size
          have h3' := hB3.out.size
          have h1' := HK1.out.size
          (try simp at h4')
          (try simp at h3')
          (try simp)
          omega
    · obtain ⟨⟨h1, h2⟩, h3, h4⟩ := okTask_iff.1 hok
      have HV : Hid (canFind c k n g q = (false, 2)) := Lib.hid (by simp only [canFind, hok, if_true, hq, if_false])
      have hok2 := Lib.hid hok
      clear hok
      go_enter Try.func11, Try.ntmps11
      go_wp2_with fail
      refine (implValid _ _ _ _ _ hc hc' hk hk').mono ?_
      rintro e1 w1 ⟨rfl, hB1⟩
      rw [show ((decide ((1 : Int) ≤ c) && decide ((c : Int) ≤ 13)) && (decide ((0 : Int) ≤ k) && decide ((k : Int) ≤ 2))) = true from hok2.out]
      replace hB1 := Lib.hid hB1
      go_wp2_with fail
      refine (implWithin _ _ _ _).mono ?_
      rintro e1 w2 ⟨rfl, rfl⟩
      rw [show (decide ((0 : Int) ≤ q) && decide ((q : Int) ≤ 5)) = false from by simp; omega]
      go_wp2_with fail
      go_ret2
      exact ⟨by rw [HV.out]; rfl, Kp.below (((Kp.refl [] w).alloc _).stepBelow hB1.out)⟩
  · have HV : Hid (canFind c k n g q = (false, 1)) := Lib.hid (by unfold canFind; rw [if_neg hok])
    have hok2 : Hid (okTask c k = false) := Lib.hid (by simpa using hok)
    clear hok
    go_enter Try.func11, Try.ntmps11
    go_wp2_with fail
    refine (implValid _ _ _ _ _ hc hc' hk hk').mono ?_
    rintro e1 w1 ⟨rfl, hB1⟩
    rw [show ((decide ((1 : Int) ≤ c) && decide ((c : Int) ≤ 13)) && (decide ((0 : Int) ≤ k) && decide ((k : Int) ≤ 2))) = false from hok2.out]
    replace hB1 := Lib.hid hB1
    go_wp2_with fail
    go_ret2
    exact ⟨by rw [HV.out]; rfl, Kp.below (((Kp.refl [] w).alloc _).stepBelow hB1.out)⟩
end Go.Proofs.Ytafimdhmdakcaaa
