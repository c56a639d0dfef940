/- The program's search of weighings: what can be found, looked up or searched. Condition: what fewer weighings can find is known. -/
import Derived.Test.YtafimdhmdakcaaaFindF
import Derived.Test.YtafimdhmdakcaaaSpecFindA
set_option linter.unusedVariables false
set_option linter.unusedSimpArgs false
namespace Go.Proofs.Ytafimdhmdakcaaa
open Go Go.RowKit Coins

theorem kOfKey_of {x : K} (hx : Ok x) (j : Nat) : kOfKey (keyOf1 x j) = x := by
  obtain ⟨o, h, l, n⟩ := x
  obtain ⟨_, hn⟩ := hx
  simp only at hn
  have : n = 0 ∨ n = 1 := by omega
  rcases this with rfl | rfl <;> simp [kOfKey, keyOf1]

theorem infoBool : (Try.prog.info? 4).map (fun i => (i.zero, i.size, i.bytes)) = some (some (.bool false), 1, 1) := by kernel_rfl

set_option maxHeartbeats 1000000 in
set_option maxRecDepth 100000 in
theorem implCanFew (all bm k : Nat) (x : K) (w : World) (hk : k ≤ 5) (hx : Ok x) (hM : MI all bm w) (hc : x.cases ≤ 1 ∨ k = 0 ∨ ¬ x.cases ≤ 3 ^ k) :
    Calls Try.prog 66 #[.map (some bm), knv all x, .int .i64 k] w (ICanPost all bm (can all k x) w) := by
  have hcs := implCases all x
  obtain ⟨v, hv⟩ : ∃ v, can all k x = v := ⟨_, rfl⟩
  rw [hv]
  replace hv := Lib.hid hv; replace hM := Lib.hid hM; replace hc := Lib.hid hc; replace hcs := Lib.hid hcs
  unfold knv at hcs ⊢
  go_enter Try.func66, Try.ntmps66
  go_wp2_with fail
  go_loop [7, 13] (fun p i => ∃ j : Nat, j ≤ k ∧ i = .int .i64 j ∧ p = .int .i64 (p3 j)) (fun _ i => k - (intOf i).toNat)
  case atStart => exact ⟨0, Nat.zero_le _, rfl, rfl⟩
  case round =>
    obtain ⟨j, hj, rfl, rfl⟩ := hrel
    have hb := p3_bd j (by omega)
    by_cases hjk : j < k
    · go_wp2_with fail
      go_round
      case rel => exact ⟨j + 1, by omega, by go_num, by rw [p3_succ]⟩
      case measure => simp [intOf]; omega
    · obtain rfl : j = k := by omega
      go_wp2_with fail
      refine (hcs.out _ hx).mono ?_
      rintro e1 w1 ⟨rfl, hB1⟩
      have l0 : w1.cell? ⟨w.heap.size + 1 + 1, 0, none⟩ = some (.int .i64 j) := blk_cell (blk_below (blk_new2 _ _ _ _) hB1) 0
      have HK : Hid (Kp [bm] w w1) := Lib.hid (((((Kp.refl _ _).alloc _).alloc _).alloc _).stepBelow hB1)
      have HK' : Hid (Kp [] w w1) := Lib.hid (((((Kp.refl _ _).alloc _).alloc _).alloc _).stepBelow hB1)
      replace hB1 := Lib.hid hB1
      by_cases h1 : x.cases ≤ 1
      · obtain rfl : v = true := hv.out.symm.trans (can_small all j x h1)
        go_wp2_with fail
        go_ret
        exact ⟨rfl, hM.out.kp HK'.out (by simp), HK.out⟩
      · by_cases h0 : j = 0
        · subst h0
          obtain rfl : v = false := hv.out.symm.trans (by simp [can_zero]; omega)
          go_wp2_with fail
          go_ret
          exact ⟨rfl, hM.out.kp HK'.out (by simp), HK.out⟩
        · have h2 : p3 j < x.cases := by have := hc.out; unfold p3; omega
          have h3 : ((j : Int) == 0) = false := by simp; omega
          obtain rfl : v = false := hv.out.symm.trans (can_large all j x h1 (by have := hc.out; omega))
          go_wp2_with fail
          go_ret
          exact ⟨rfl, hM.out.kp HK'.out (by simp), HK.out⟩

set_option maxHeartbeats 1000000 in
set_option maxRecDepth 100000 in
theorem implCanMore (all bm k : Nat) (hcan : ICanSpec all bm k) (x : K) (w : World) (hk : k + 1 ≤ 5) (hx : Ok x) (hall : x.o + x.h + x.l ≤ all) (h14 : all ≤ 14) (hM : MI all bm w) (hc1 : ¬ x.cases ≤ 1) (hc : x.cases ≤ 3 ^ (k + 1)) :
    Calls Try.prog 66 #[.map (some bm), knv all x, .int .i64 ((k + 1 : Nat) : Int)] w (ICanPost all bm (can all (k + 1) x) w) := by
  have hcs := implCases all x
  have hle : x.cases ≤ p3 (k + 1) := by unfold p3; omega
  have hk0 : ((k : Int) + 1 == 0) = false := by simp; omega
  have hbm := hM.lt
  obtain ⟨v, hv⟩ : ∃ v, can all (k + 1) x = v := ⟨_, rfl⟩
  rw [hv]
  have hvs : some1 all k x = v := by rw [← hv, can_mid all k x hc1 hc]
  replace hvs := Lib.hid hvs
  replace hv := Lib.hid hv; replace hM := Lib.hid hM; replace hc := Lib.hid hc; replace hcs := Lib.hid hcs
  replace hcan := Lib.hid hcan
  unfold knv at hcs ⊢
  go_enter Try.func66, Try.ntmps66
  go_wp2_with fail
  go_loop [7, 13] (fun p i => ∃ j : Nat, j ≤ k + 1 ∧ i = .int .i64 j ∧ p = .int .i64 (p3 j)) (fun _ i => k + 1 - (intOf i).toNat)
  case atStart => exact ⟨0, Nat.zero_le _, rfl, rfl⟩
  case round =>
    obtain ⟨j, hj, rfl, rfl⟩ := hrel
    have hb := p3_bd j (by omega)
    by_cases hjk : j < k + 1
    · go_wp2_with fail
      go_round
      case rel => exact ⟨j + 1, by omega, by go_num, by rw [p3_succ]⟩
      case measure => simp [intOf]; omega
    · obtain rfl : j = k + 1 := by omega
      go_wp2_with fail
      refine (hcs.out _ hx).mono ?_
      rintro e1 w1 ⟨rfl, hB1⟩
      have l0 : w1.cell? ⟨w.heap.size + 1 + 1, 0, none⟩ = some (.int .i64 (k + 1)) := blk_cell (blk_below (blk_new2 _ _ _ _) hB1) 0
      have n0 : w1.cell? ⟨w.heap.size, 0, none⟩ = some (.map (some bm)) := blk_cell (blk_below (blk_alloc (blk_alloc (blk_new _ _) _) _) hB1) 0
      have hX1 := blk_below (blk_alloc (blk_new1 w _ _) _) hB1
      obtain ⟨p0, p1, p2, p3', p4⟩ := cells5 hX1
      have hz1 : w.heap.size < w1.heap.size := by have := hB1.size; simp at this; omega
      have hz2 : w.heap.size + 1 < w1.heap.size := by have := hB1.size; simp at this; omega
      have hz3 : w.heap.size + 1 + 1 < w1.heap.size := by have := hB1.size; simp at this; omega
      have HK : Hid (Kp [bm] w w1) := Lib.hid (((((Kp.refl _ _).alloc _).alloc _).alloc _).stepBelow hB1)
      have HK' : Hid (Kp [] w w1) := Lib.hid (((((Kp.refl _ _).alloc _).alloc _).alloc _).stepBelow hB1)
      replace hB1 := Lib.hid hB1; replace hX1 := Lib.hid hX1
      go_upto_region 12 with (fail)
      have hkv : keyv all (keyOf1 x (k + 1)) = .agg #[.int .i64 x.o, .int .i64 x.h, .int .i64 x.l, .int .i64 ((all - x.o - x.h - x.l : Nat) : Int), .bool (x.n != 0), .int .i64 (k + 1)] := by simp [keyv, keyOf1]
      have hq : kOfKey (keyOf1 x (k + 1)) = x := kOfKey_of hx _
      obtain ⟨mp, hmp, hgood⟩ := hM.out
      obtain ⟨i0, hi, hz, _⟩ := info_parts infoBool
      have hlk := run_lookup_law (keyLaw all) Try.underlying105 hi hz (hmp.kp (HK'.out.alloc (.cells #[.int .i64 x.o, .int .i64 x.h, .int .i64 x.l, .int .i64 ((all - x.o - x.h - x.l : Nat) : Int), .bool (x.n != 0), .int .i64 (k + 1)] 195)) (by simp)) (keyOf1 x (k + 1)) true
      rw [hkv] at hlk
      cases hl : look mp (keyOf1 x (k + 1)) with
      | some u =>
        have hu : u = .bool v := by rw [hgood _ _ hl, hq, ← hv.out]; rfl
        rw [hl, hu] at hlk
        simp only [Option.getD_some, Option.isSome_some, if_true] at hlk
        clear hmp hgood hl hu hq hkv hi hz
        go_wp2_with fail
        go_ret
        exact ⟨rfl, hM.out.kp ((HK'.out.alloc _).alloc _) (by simp), (HK.out.alloc _).alloc _⟩
      | none =>
        rw [hl] at hlk
        simp only [Option.getD_none, Option.isSome_none, if_true] at hlk
        replace hmp := Lib.hid hmp; replace hgood := Lib.hid hgood; replace hl := Lib.hid hl; replace hq := Lib.hid hq; replace hkv := Lib.hid hkv
        clear hi hz
        go_wp2_with fail
        have hC : Hid (CI all k x ⟨bm, w.heap.size, w.heap.size + 1, w.heap.size + 1 + 1, w1.heap.size + 1⟩ false ((w1.alloc (.cells #[.int .i64 x.o, .int .i64 x.h, .int .i64 x.l, .int .i64 ((all - x.o - x.h - x.l : Nat) : Int), .bool (x.n != 0), .int .i64 (k + 1)] 195)).alloc (.cells #[.bool false] 4))) := Lib.hid
          ⟨hM.out.kp ((HK'.out.alloc _).alloc _) (by simp), blk_alloc (blk_alloc (blk_below (blk_alloc (blk_alloc (blk_new _ _) _) _) hB1.out) _) _, blk_alloc (blk_alloc hX1.out _) _, blk_alloc (blk_alloc (blk_below (by exact blk_new2 _ _ _ _) hB1.out) _) _, blk_new1 _ _ _⟩
        have hfo := implForms all k x ⟨bm, w.heap.size, w.heap.size + 1, w.heap.size + 1 + 1, w1.heap.size + 1⟩ hcan.out (by omega) hx hall h14
        rw [hvs.out] at hfo
        replace hfo := Lib.hid hfo
        unfold knv each at hfo
        refine (hfo.out _ hC.out).mono ?_
        rintro e3 w3 ⟨rfl, hC3, hK3⟩
        have n1 : w3.cell? ⟨w.heap.size, 0, none⟩ = some (.map (some bm)) := blk_cell hC3.m 0
        have hbmo : bm ≠ w1.heap.size + 1 := hC3.ne.nmo
        have hbm1 : bm < w1.heap.size := (hM.out.kp HK'.out (by simp)).lt
        have hY := hK3.blk (blk_alloc (blk_new w1 (.cells #[.int .i64 x.o, .int .i64 x.h, .int .i64 x.l, .int .i64 ((all - x.o - x.h - x.l : Nat) : Int), .bool (x.n != 0), .int .i64 (k + 1)] 195)) (.cells #[.bool false] 4)) (by simp; omega)
        obtain ⟨y0, y1, y2, y3, y4, y5⟩ := cells6 hY
        have o1 : w3.cell? ⟨w1.heap.size + 1, 0, none⟩ = some (.bool v) := blk_cell hC3.out 0
        obtain ⟨mp3, hmp3, hgood3⟩ := hC3.mem
        obtain ⟨w4, hup, hmp4, hK4, hsz4⟩ := run_mapUpdate_law (keyLaw all) Try.underlying105 hmp3 (keyOf1 x (k + 1)) (.bool v)
        rw [hkv.out] at hup
        have o4 : w4.cell? ⟨w1.heap.size + 1, 0, none⟩ = some (.bool v) := blk_cell (hK4.blk hC3.out (by simpa using hbmo.symm)) 0
        have HM4 : Hid (MI all bm w4) := Lib.hid ⟨_, hmp4, fun p u hp => by
          rw [look_put] at hp
          by_cases hpk : p = keyOf1 x (k + 1)
          · rw [if_pos hpk] at hp
            injection hp with hp
            rw [← hp, hpk, hq.out, ← hv.out]; rfl
          · rw [if_neg hpk] at hp
            exact hgood3 p u hp⟩
        have HK4 : Hid (Kp [bm] w w4) := Lib.hid (((HK.out.alloc _).alloc _).transS (hK3.trans (hK4.mono (by simp))) (by simp; right; omega))
        clear hK3 hK4 hC3 hmp3 hgood3 hmp4 hY
        go_wp2_with fail
        go_ret
        exact ⟨rfl, HM4.out, HK4.out⟩

theorem implCan (all bm : Nat) (h14 : all ≤ 14) : ∀ k, k ≤ 5 → ICanSpec all bm k
  | 0, hk => fun x w hx hall hM => implCanFew all bm 0 x w hk hx hM (.inr (.inl rfl))
  | k + 1, hk => fun x w hx hall hM => by
    by_cases h1 : x.cases ≤ 1
    · exact implCanFew all bm (k + 1) x w hk hx hM (.inl h1)
    · by_cases h2 : x.cases ≤ 3 ^ (k + 1)
      · exact implCanMore all bm k (implCan all bm h14 k (by omega)) x w hk hx hall h14 hM h1 h2
      · exact implCanFew all bm (k + 1) x w hk hx hM (.inr (.inr h2))
end Go.Proofs.Ytafimdhmdakcaaa
