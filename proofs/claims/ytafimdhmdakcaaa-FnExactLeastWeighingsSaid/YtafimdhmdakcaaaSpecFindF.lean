/- The reference's LeastWeighings returns what the plain law says, for all tasks. No condition. -/
import Derived.Test.YtafimdhmdakcaaaSpecFindE
set_option linter.unusedVariables false
set_option linter.unusedSimpArgs false
namespace Go.Proofs.Ytafimdhmdakcaaa
open Go Go.RowKit Coins

/-- What LeastWeighings answers. -/
def leastOfTask (c k : Int) (n g : Bool) : Int × Int :=
  if okTask c k then match (List.range 6).find? (fun q => can (c.toNat + g.toNat) q (kOf c.toNat k.toNat n)) with | some q => ((q : Int), 0) | none => (0, 6) else (0, 1)

theorem find_first {p : Nat → Bool} {n m : Nat} (hm : m < n) (h : ∀ i, i < m → p i = false) (hp : p m = true) : (List.range n).find? p = some m := by
  rw [List.find?_eq_some_iff_append]
  refine ⟨hp, List.range m, List.range' (m + 1) (n - m - 1), ?_, fun i hi => by simp [h i (List.mem_range.1 hi)]⟩
  rw [List.range_eq_range', List.range_eq_range', show n = m + (n - m - 1 + 1) from by omega, ← List.range'_append_1, Nat.zero_add, List.range'_succ, show m + (n - m - 1 + 1) - m - 1 = n - m - 1 from by omega]

theorem find_none {p : Nat → Bool} {n : Nat} (h : ∀ i, i < n → p i = false) : (List.range n).find? p = none := by
  rw [List.find?_eq_none]
  intro i hi
  simp [h i (List.mem_range.1 hi)]

theorem mem_all {all k : Nat} {s s' : Nat → Int} (h : Mem all 5 s) (h' : Mem all k s') (hs : ∀ i, k < i % 6 → s' i = s i) : Mem all 5 s' := by
  intro x j hx hj
  by_cases hjk : j ≤ k
  · exact h' x j hx hjk
  · rw [hs _ (by rw [place_mod hj]; omega)]
    exact h x j hx hj

set_option maxHeartbeats 1000000 in
set_option maxRecDepth 100000 in
theorem specLeast (c k : Int) (n g : Bool) (w : World) (hc : -128 ≤ c) (hc' : c ≤ 127) (hk : -128 ≤ k) (hk' : k ≤ 127) :
    Calls Try.prog 12 #[.agg #[.int .i8 c, .int .i8 k, .bool n, .bool g]] w fun e w' => e = .returned (II (leastOfTask c k n g)) ∧ Below w.heap.size w w' := by
  by_cases hok : okTask c k = true
  · obtain ⟨⟨h1, h2⟩, h3, h4⟩ := okTask_iff.1 hok
    obtain ⟨c, rfl⟩ : ∃ m : Nat, c = m := ⟨c.toNat, by omega⟩
    obtain ⟨k, rfl⟩ : ∃ m : Nat, k = m := ⟨k.toNat, by omega⟩
    have HV : Hid (leastOfTask c k n g = match (List.range 6).find? (fun q => can (c + g.toNat) q (kOf c k n)) with | some q => ((q : Int), 0) | none => (0, 6)) := Lib.hid (by simp only [leastOfTask, hok, if_true, Int.toNat_natCast])
    have hg : g.toNat ≤ 1 := by cases g <;> simp
    have hok2 := Lib.hid hok
    clear hok
    go_enter Try.func12, Try.ntmps12
    go_wp2_with fail
    refine (specOk _ _ _ _ _ hc hc' hk hk').mono ?_
    rintro e1 w1 ⟨rfl, hB1⟩
    rw [hok2.out]
    have hX1 := blk_below (blk_new _ _) hB1
    obtain ⟨b0, b1, b2, b3⟩ := cells4 hX1
    replace hX1 := Lib.hid hX1
    replace hB1 := Lib.hid hB1
    go_wp2_with fail
    refine (specBegin c k n g _ (by omega) (by omega)).mono ?_
    rintro e3 w3 ⟨gF, gS, L, rfl, hF3, hgS, hK3⟩
    replace hF3 := Lib.hid hF3
    have HK3 := Lib.hid ((((Kp.refl [] w).alloc _).stepBelow hB1.out).trans hK3)
    have hgS' : w.heap.size ≤ gS := by have := hB1.out.size; simp at this; omega
    have hgS3 : gS < w3.heap.size := by obtain ⟨_, A, h2, _⟩ := hF3.out; exact blk_lt h2
    clear hK3 b0 b1 b2 b3
    obtain ⟨x, hx⟩ : ∃ x, x = kOf c k n := ⟨_, rfl⟩
    have hxo : Ok x := by rw [hx]; exact kOf_ok (by omega)
    have hxs : x.sum ≤ c + g.toNat := by rw [hx, kOf_sum]; omega
    obtain ⟨all, hall⟩ : ∃ m, m = c + g.toNat := ⟨_, rfl⟩
    have hall14 : all ≤ 14 := by omega
    rw [← hall] at hxs hF3
    rw [← hx, ← hall] at HV
    rw [← hx]
    clear hx hall
    unfold kval
    go_wp2_with fail
    go_loopg [6] 6 (fun k' i wr => ∃ q : Nat, q + k' = 6 ∧ i = .int .i64 q ∧ Hid (∀ j, j < q → can all j x = false) ∧ Hid (∃ s, FI gF gS L all wr s ∧ Mem all 5 s) ∧ Hid (Kp [gS] w wr) ∧
        Hid (wr.heap[w3.heap.size]? = some (.cells #[.int .i64 x.o, .int .i64 x.h, .int .i64 x.l, .int .i64 x.n] 100 (0, 0))))
    case atStart => exact ⟨0, rfl, rfl, Lib.hid (fun j hj => by omega), Lib.hid ⟨_, hF3.out.kp ((Kp.refl _ _).alloc _), fun _ _ _ _ => .inl rfl⟩, Lib.hid (HK3.out.nil.alloc _), Lib.hid (blk_new _ _)⟩
    case round =>
      obtain ⟨q, hq, rfl, hno, hS, hK, hX⟩ := hrel
      obtain ⟨b0, b1, b2, b3⟩ := cells4 hX.out
      by_cases hq6 : q ≤ 5
      · go_wp2_with fail
        obtain ⟨s, hF, hM⟩ := hS.out
        refine (specCan gF gS L all hall14 q hq6 x s _ hxo hxs hF (hM.mono hq6)).mono ?_
        rintro e4 w4 ⟨rfl, s4, hF4, hM4, hs4, hK4⟩
        have hS4 : Hid (∃ s, FI gF gS L all w4 s ∧ Mem all 5 s) := Lib.hid ⟨s4, hF4, mem_all hM hM4 hs4⟩
        have HK4 := Lib.hid (hK.out.trans hK4)
        have hX4 := Lib.hid (hK4.blk hX.out (by simp; omega))
        clear hF hM hF4 hM4 hs4 hK4
        obtain ⟨v, hv⟩ : ∃ v, can all q x = v := ⟨_, rfl⟩
        rw [hv]
        replace hv := Lib.hid hv
        cases v with
        | false =>
          go_wp2_with fail
          go_roundg (gk - 1)
          case rel => exact ⟨q + 1, by omega, by go_num, Lib.hid (fun j hj => by
            by_cases hjq : j = q
            · rw [hjq]; exact hv.out
            · exact hno.out j (by omega)), hS4, HK4, hX4⟩
          case measure => omega
        | true =>
          go_wp2_with fail
          go_ret2
          exact ⟨by rw [HV.out, find_first (by omega) hno.out hv.out]; rfl, Kp.below ((Kp.refl [] w).transS HK4.out (by simpa using hgS'))⟩
      · obtain rfl : q = 6 := by omega
        go_wp2_with fail
        go_ret2
        exact ⟨by rw [HV.out, find_none hno.out]; rfl, Kp.below ((Kp.refl [] w).transS hK.out (by simpa using hgS'))⟩
  · have HV : Hid (leastOfTask c k n g = (0, 1)) := Lib.hid (by unfold leastOfTask; rw [if_neg hok])
    have hok2 : Hid (okTask c k = false) := Lib.hid (by simpa using hok)
    clear hok
    go_enter Try.func12, Try.ntmps12
    go_wp2_with fail
    refine (specOk _ _ _ _ _ hc hc' hk hk').mono ?_
    rintro e1 w1 ⟨rfl, hB1⟩
    rw [hok2.out]
    replace hB1 := Lib.hid hB1
    go_wp2_with fail
    go_ret2
    exact ⟨by rw [HV.out]; rfl, Kp.below (((Kp.refl [] w).alloc _).stepBelow hB1.out)⟩
end Go.Proofs.Ytafimdhmdakcaaa
