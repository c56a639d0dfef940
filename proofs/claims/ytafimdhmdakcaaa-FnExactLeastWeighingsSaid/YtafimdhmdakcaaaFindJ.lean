/- The program's LeastWeighings returns what the plain law says, for all tasks. No condition. -/
import Derived.Test.YtafimdhmdakcaaaFindI
set_option linter.unusedVariables false
set_option linter.unusedSimpArgs false
namespace Go.Proofs.Ytafimdhmdakcaaa
open Go Go.RowKit Coins

set_option maxHeartbeats 4000000 in
set_option maxRecDepth 100000 in
theorem implLeast (c k : Int) (n g : Bool) (w : World) (hc : -128 ≤ c) (hc' : c ≤ 127) (hk : -128 ≤ k) (hk' : k ≤ 127) :
    Calls Try.prog 13 #[.agg #[.int .i8 c, .int .i8 k, .bool n, .bool g]] w fun e w' => e = .returned (II (leastOfTask c k n g)) ∧ Below w.heap.size w w' := by
  by_cases hok : okTask c k = true
  · obtain ⟨⟨h1, h2⟩, h3, h4⟩ := okTask_iff.1 hok
    obtain ⟨c, rfl⟩ : ∃ m : Nat, c = m := ⟨c.toNat, by omega⟩
    obtain ⟨k, rfl⟩ : ∃ m : Nat, k = m := ⟨k.toNat, by omega⟩
    have HV : Hid (leastOfTask c k n g = match (List.range 6).find? (fun q => can (c + g.toNat) q (kOf c k n)) with | some q => ((q : Int), 0) | none => (0, 6)) := Lib.hid (by simp only [leastOfTask, hok, if_true, Int.toNat_natCast]; rfl)
    have hg : g.toNat ≤ 1 := by cases g <;> simp
    have hok2 := Lib.hid hok
    clear hok
    have hmm := @run_makeMap Try.prog
    have hkn := fun w => implKnown c k n g w (by omega) (by omega)
    have hkd := kOf_n (c := c) (k := k) (n := n)
    obtain ⟨x, hx⟩ : ∃ x, x = kOf c k n := ⟨_, rfl⟩
    have hxo : Ok x := by rw [hx]; exact kOf_ok (by omega)
    have hxs : x.sum = c := by rw [hx, kOf_sum]
    obtain ⟨all, hall⟩ : ∃ m, m = c + g.toNat := ⟨_, rfl⟩
    have hall14 : all ≤ 14 := by omega
    rw [← hx, ← hall] at HV
    rw [← hx] at hkn hkd
    have hx13 := hxo.sum
    have hgd : all - x.o - x.h - x.l = g.toNat := by simp only [K.sum] at hxs; omega
    have hco := fun bm q hq w hM => implCan all bm hall14 q hq x w hxo (by omega) hM
    unfold knv at hco
    rw [hgd, hkd] at hco
    have hof := fun a0 a1 a2 a3 c0 c1 c2 c3 w => implOf a0 a1 a2 a3 x.o x.h x.l g.toNat c0 c1 c2 c3 n w (by omega) (by omega) (by omega) (by omega)
    replace hco := Lib.hid hco; replace hkn := Lib.hid hkn; replace hof := Lib.hid hof; replace hx := Lib.hid hx; replace hall := Lib.hid hall; replace hxs := Lib.hid hxs; replace hkd := Lib.hid hkd; replace hgd := Lib.hid hgd
    go_enter Try.func13, Try.ntmps13
    go_wp2_with fail
    refine (implValid _ _ _ _ _ hc hc' hk hk').mono ?_
    rintro e1 w1 ⟨rfl, hB1⟩
    rw [show ((decide ((1 : Int) ≤ c) && decide ((c : Int) ≤ 13)) && (decide ((0 : Int) ≤ k) && decide ((k : Int) ≤ 2))) = true from hok2.out]
    have hX1 := blk_below (blk_new _ _) hB1
    have HK1 : Hid (Kp [] w w1) := Lib.hid (((Kp.refl _ _).alloc _).stepBelow hB1)
    replace hX1 := Lib.hid hX1
    clear hB1
    go_wp2_with fail
    go_loopg [8] 6 (fun k' i wr => ∃ q : Nat, q + k' = 6 ∧ i = .int .i64 q ∧ Hid (∀ j, j < q → can all j x = false) ∧ Hid (Kp [] w wr) ∧ Hid (wr.heap[w.heap.size]? = some (.cells #[.int .i8 c, .int .i8 k, .bool n, .bool g] 27 (0, 0))))
    case atStart => exact ⟨0, rfl, rfl, Lib.hid (fun j hj => by omega), HK1, hX1⟩
    case round =>
      obtain ⟨q, hq, rfl, hno, hK, hX⟩ := hrel
      clear HK1 hX1
      obtain ⟨b0, b1, b2, b3⟩ := cells4 hX.out
      have hz1 := blk_lt hX.out
      by_cases hq6 : q ≤ 5
      · obtain ⟨v, hv⟩ : ∃ v, can all q x = v := ⟨_, rfl⟩
        have hco2 := fun bm w hM => hco.out bm q hq6 w hM
        rw [hv] at hco2
        replace hv := Lib.hid hv; replace hco2 := Lib.hid hco2
        go_upto_region 6 with (fail)
        go_cut [18] (fun s wx => s = .bool v ∧ Hid (Kp [] w wx) ∧ Hid (wx.heap[w.heap.size]? = some (.cells #[.int .i8 c, .int .i8 k, .bool n, .bool g] 27 (0, 0))))
        case first =>
          go_region_with (first
            | (go_at_call 67; refine (hkn.out _).mono ?_; rintro e w3 ⟨a0, a1, a2, a3, c0, c1, c2, c3, rfl, hB3⟩; have hX3 : w3.heap[w.heap.size]? = some (.cells #[.int .i8 c, .int .i8 k, .bool n, .bool g] 27 (0, 0)) := blk_below (by (repeat (first | (with_reducible exact hX.out) | (with_reducible refine at_drew ?_) | (with_reducible refine blk_alloc ?_ _)))) hB3; have hx3 := blk_cell hX3 2; have hz3 := blk_lt hX3; replace hX3 := Lib.hid hX3; replace hB3 := Lib.hid hB3)
            | (go_at_call 68; refine (hof.out _ _ _ _ _ _ _ _ _).mono ?_; rintro e w4 ⟨rfl, hB4⟩; replace hB4 := Lib.hid hB4)
            | (go_at_call 66; refine (hco2.out _ _ ?_).mono ?_; (refine ⟨[], ?_, fun _ _ h => by simp [look] at h⟩; first | (with_reducible exact MapAt.new _ _) | (with_reducible exact MapAt.drew (MapAt.new _ _)) | (refine MapAt.kp ?_ (Kp.ofBelow (S := []) hB4.out) (by simp); first | (with_reducible exact MapAt.new _ _) | (with_reducible exact MapAt.drew (MapAt.new _ _)) | (refine MapAt.kp ?_ (Kp.ofBelow (S := []) hB3.out) (by simp); first | (with_reducible exact MapAt.new _ _) | (with_reducible exact MapAt.drew (MapAt.new _ _))))); rintro e w5 ⟨rfl, hM5, hK5⟩; replace hM5 := Lib.hid hM5; replace hK5 := Lib.hid hK5))
          all_goals
            go_wp2_with fail
            go_meet
            have h4' := hB4.out.size
            have h3' := hB3.out.size
            have h1' := hK.out.size
            (try simp at h4')
            (try simp at h3')
            refine ⟨rfl, Lib.hid (Kp.transS ?_ hK5.out ?_), Lib.hid (hK5.out.blk ?_ ?_)⟩
            · (repeat (first | (with_reducible exact hK.out) | (with_reducible refine Kp.drew ?_) | (with_reducible refine Kp.alloc ?_ _) | (with_reducible refine Kp.stepBelow ?_ hB4.out) | (with_reducible refine Kp.stepBelow ?_ hB3.out)))
            · (try simp)
              omega
            · (repeat (first | (with_reducible refine at_drew ?_) | (with_reducible refine blk_alloc ?_ _) | exact blk_below (by (repeat (first | (with_reducible exact hX3.out) | (with_reducible refine at_drew ?_) | (with_reducible refine blk_alloc ?_ _)))) hB4.out))
            · (try simp)
              omega
        case rest =>
          obtain ⟨rfl, hK2, hX2⟩ := hcut
          cases v with
          | false =>
            go_wp2_with fail
            go_roundg (gk - 1)
            case rel => exact ⟨q + 1, by omega, by go_num, Lib.hid (fun j hj => by
              by_cases hjq : j = q
              · rw [hjq]; exact hv.out
              · exact hno.out j (by omega)), hK2, hX2⟩
            case measure => omega
          | true =>
            go_wp2_with fail
            go_ret2
            exact ⟨by rw [HV.out, find_first (by omega) hno.out hv.out]; rfl, Kp.below hK2.out⟩
      · obtain rfl : q = 6 := by omega
        go_wp2_with fail
        go_ret2
        exact ⟨by rw [HV.out, find_none hno.out]; rfl, Kp.below hK.out⟩
  · have HV : Hid (leastOfTask c k n g = (0, 1)) := Lib.hid (by unfold leastOfTask; rw [if_neg hok])
    have hok2 : Hid (okTask c k = false) := Lib.hid (by simpa using hok)
    clear hok
    go_enter Try.func13, Try.ntmps13
    go_wp2_with fail
    refine (implValid _ _ _ _ _ hc hc' hk hk').mono ?_
    rintro e1 w1 ⟨rfl, hB1⟩
    rw [show ((decide ((1 : Int) ≤ c) && decide ((c : Int) ≤ 13)) && (decide ((0 : Int) ≤ k) && decide ((k : Int) ≤ 2))) = false from hok2.out]
    replace hB1 := Lib.hid hB1
    go_wp2_with fail
    go_ret2
    exact ⟨by rw [HV.out]; rfl, Kp.below (((Kp.refl [] w).alloc _).stepBelow hB1.out)⟩
end Go.Proofs.Ytafimdhmdakcaaa
