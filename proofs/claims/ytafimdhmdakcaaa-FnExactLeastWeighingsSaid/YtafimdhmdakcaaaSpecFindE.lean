/- The reference's CanFind and LeastWeighings return what the plain law says, for all tasks. No condition. -/
import Derived.Test.YtafimdhmdakcaaaSpecFindD
import Derived.Test.YtafimdhmdakcaaaMake
set_option linter.unusedVariables false
set_option linter.unusedSimpArgs false
namespace Go.Proofs.Ytafimdhmdakcaaa
open Go Go.RowKit Coins

theorem specCan (gF gS L all : Nat) (h14 : all ≤ 14) : ∀ k, k ≤ 5 → CanSpec gF gS L all k
  | 0, _ => specCan_zero gF gS L all
  | k + 1, hk => specCan_of_first gF gS L all k hk (specFirst gF gS L all k (by omega) h14 (specCan gF gS L all h14 k (by omega)))

theorem specIn (n lo hi : Int) (w : World) : Calls Try.prog 62 #[.int .i64 n, .int .i64 lo, .int .i64 hi] w fun e w' => e = .returned (.bool (decide (lo ≤ n) && decide (n ≤ hi))) ∧ w = w' := by
  by_cases h : lo ≤ n
  · by_cases h' : n ≤ hi
    · go_enter Try.func62, Try.ntmps62
      go_wp2
      go_ret
      exact ⟨by simp [h, h'], rfl⟩
    · go_enter Try.func62, Try.ntmps62
      go_wp2
      go_ret
      exact ⟨by simp [h, h'], rfl⟩
  · go_enter Try.func62, Try.ntmps62
    go_wp2
    go_ret
    exact ⟨by simp; omega, rfl⟩

/-- A task is valid. -/
def okTask (c k : Int) : Bool := (decide (1 ≤ c) && decide (c ≤ 13)) && (decide (0 ≤ k) && decide (k ≤ 2))

theorem specOk (c k : Int) (n g : Bool) (w : World) (hc : -128 ≤ c) (hc' : c ≤ 127) (hk : -128 ≤ k) (hk' : k ≤ 127) :
    Calls Try.prog 61 #[.agg #[.int .i8 c, .int .i8 k, .bool n, .bool g]] w fun e w' => e = .returned (.bool (okTask c k)) ∧ Below w.heap.size w w' := by
  obtain ⟨v1, h1⟩ : ∃ v, (decide ((1 : Int) ≤ c) && decide (c ≤ 13)) = v := ⟨_, rfl⟩
  obtain ⟨v2, h2⟩ : ∃ v, (decide ((0 : Int) ≤ k) && decide (k ≤ 2)) = v := ⟨_, rfl⟩
  have hv : okTask c k = (v1 && v2) := by unfold okTask; rw [h1, h2]
  rw [hv]
  replace h1 := Lib.hid h1; replace h2 := Lib.hid h2
  clear hv
  go_enter Try.func61, Try.ntmps61
  go_wp2_with fail
  refine (specIn _ _ _ _).mono ?_
  rintro e1 w1 ⟨rfl, rfl⟩
  rw [h1.out]
  cases v1 with
  | false =>
    go_wp2_with fail
    go_ret
    exact ⟨rfl, (Below.refl _ _).alloc (Nat.le_refl _) _⟩
  | true =>
    go_wp2_with fail
    refine (specIn _ _ _ _).mono ?_
    rintro e1 w1 ⟨rfl, rfl⟩
    rw [h2.out]
    go_wp2_with fail
    go_ret
    exact ⟨rfl, (Below.refl _ _).alloc (Nat.le_refl _) _⟩

/-- The task's coins, as the search begins with them. -/
def kOf (c k : Nat) (n : Bool) : K := if k = 0 then ⟨0, c, 0, n.toNat⟩ else if k = 1 then ⟨0, 0, c, n.toNat⟩ else ⟨c, 0, 0, n.toNat⟩

theorem kOf_ok {c k : Nat} {n : Bool} (hc : c ≤ 13) : Ok (kOf c k n) := by
  have hn : n.toNat ≤ 1 := by cases n <;> simp
  unfold kOf; split
  · exact ⟨by simpa using hc, hn⟩
  · split
    · exact ⟨by simpa using hc, hn⟩
    · exact ⟨by simpa using hc, hn⟩

theorem kOf_sum {c k : Nat} {n : Bool} : (kOf c k n).sum = c := by
  unfold kOf; split
  · simp [K.sum]
  · split <;> simp [K.sum]

def BeginPost (all : Nat) (x : K) (w : World) (e : Ending) (w' : World) : Prop :=
  ∃ gF gS L, e = .returned (.tuple #[.pointer (some ⟨gF, 0, none⟩), kval x]) ∧ FI gF gS L all w' (fun _ => 0) ∧ w.heap.size ≤ gS ∧ Kp [] w w'

theorem infoI8 : (Try.prog.info? 22).map (fun i => (i.zero, i.size, i.bytes)) = some (some (.int .i8 0), 1, 1) := by kernel_rfl

/-- The list of what is known, as it is made. -/
theorem makeSeen : ∃ (L : Nat) (A : Array Value), 32928 ≤ L ∧ A.size = L ∧ (∀ i, i < L → A[i]? = some (.int .i8 0)) ∧
    ∀ w, (Instr.makeSlice 110 (.int .i64 32928) (.int .i64 32928)).run Try.prog w = .ok (.slice (some ⟨w.heap.size, 0, none⟩) L L) (w.alloc (.cells A 22)) := by
  obtain ⟨i0, hi, hz0, hz1, hz2⟩ := info_parts infoI8
  refine ⟨32928, madeCells (Value.int .i8 0).cells 32928, Nat.le_refl _, size_madeCells _ _, fun i hi => made_get rfl _ i hi, fun w => ?_⟩
  exact run_mk _ _ Try.underlying110 hi hz0 hz1 .i64 .i64 32928 (by rw [hz2]; omega) (by omega) w

set_option maxHeartbeats 1000000 in
set_option maxRecDepth 100000 in
theorem specBegin (c k : Nat) (n g : Bool) (w : World) (hc : c ≤ 13) (hk : k ≤ 2) :
    Calls Try.prog 63 #[.agg #[.int .i8 c, .int .i8 k, .bool n, .bool g]] w (BeginPost (c + g.toNat) (kOf c k n) w) := by
  obtain ⟨L, A, hL, hA, hA0, hmk⟩ := makeSeen
  replace hL := Lib.hid hL; replace hA := Lib.hid hA; replace hA0 := Lib.hid hA0
  have hk3 : k = 0 ∨ k = 1 ∨ k = 2 := by omega
  rcases hk3 with rfl | rfl | rfl <;> cases n <;> cases g
  all_goals
    go_enter Try.func63, Try.ntmps63
    go_wp2_with fail
    go_region
    go_wp2_with fail
    go_region
    go_wp2_with fail
    refine bodyPost_ret (v := .tuple #[.pointer (some ⟨w.heap.size + 1 + 1 + 1, 0, none⟩), kval (kOf c _ _)]) (by simp [results, Try.results63, go_sem, kval, kOf]) rfl ⟨_, w.heap.size + 1 + 1, L, rfl, ⟨?_, A, ?_, hA.out, hL, fun i hi => by rw [hA0.out i hi]⟩, by omega, ?_⟩
  all_goals first
    | (simp only [Bool.toNat_false, Bool.toNat_true, Nat.add_zero, Int.natCast_add, Int.cast_ofNat_Int]; (repeat (first | (with_reducible refine at_drew ?_) | ((with_reducible refine at_new ?_); simp; done) | (with_reducible refine blk_alloc ?_ _))); done)
    | ((repeat (first | (with_reducible exact Kp.refl _ _) | (with_reducible refine Kp.drew ?_) | (with_reducible refine Kp.alloc ?_ _))); done)
    | (((repeat (first | (with_reducible refine at_drew ?_) | ((with_reducible refine at_new ?_); simp; done) | (with_reducible refine blk_alloc ?_ _)))); done)

theorem okTask_iff {c k : Int} : okTask c k = true ↔ (1 ≤ c ∧ c ≤ 13) ∧ (0 ≤ k ∧ k ≤ 2) := by simp [okTask]

/-- What CanFind answers. -/
def canFind (c k : Int) (n g : Bool) (q : Int) : Bool × Int :=
  if okTask c k then if 0 ≤ q ∧ q ≤ 5 then (can (c.toNat + g.toNat) q.toNat (kOf c.toNat k.toNat n), 0) else (false, 2) else (false, 1)

def BI (r : Bool × Int) : Value := .tuple #[.bool r.1, .int .i64 r.2]
def II (r : Int × Int) : Value := .tuple #[.int .i64 r.1, .int .i64 r.2]

set_option maxHeartbeats 1000000 in
set_option maxRecDepth 100000 in
theorem specCanFind (c k : Int) (n g : Bool) (q : Int) (w : World) (hc : -128 ≤ c) (hc' : c ≤ 127) (hk : -128 ≤ k) (hk' : k ≤ 127) :
    Calls Try.prog 9 #[.agg #[.int .i8 c, .int .i8 k, .bool n, .bool g], .int .i64 q] w fun e w' => e = .returned (BI (canFind c k n g q)) ∧ Below w.heap.size w w' := by
  by_cases hok : okTask c k = true
  · by_cases hq : 0 ≤ q ∧ q ≤ 5
    · obtain ⟨⟨h1, h2⟩, h3, h4⟩ := okTask_iff.1 hok
      obtain ⟨q, rfl⟩ : ∃ m : Nat, q = m := ⟨q.toNat, by omega⟩
      obtain ⟨c, rfl⟩ : ∃ m : Nat, c = m := ⟨c.toNat, by omega⟩
      obtain ⟨k, rfl⟩ : ∃ m : Nat, k = m := ⟨k.toNat, by omega⟩
      have HV : Hid (canFind c k n g q = (can (c + g.toNat) q (kOf c k n), 0)) := Lib.hid (by simp only [canFind, hok, if_true, hq, Int.toNat_natCast]; simp)
      have hg : g.toNat ≤ 1 := by cases g <;> simp
      have hok2 := Lib.hid hok
      clear hok
      go_enter Try.func9, Try.ntmps9
      go_wp2_with fail
      refine (specOk _ _ _ _ _ hc hc' hk hk').mono ?_
      rintro e1 w1 ⟨rfl, hB1⟩
      rw [hok2.out]
      have hX1 := blk_below (blk_new _ _) hB1
      obtain ⟨b0, b1, b2, b3⟩ := cells4 hX1
      replace hX1 := Lib.hid hX1
      replace hB1 := Lib.hid hB1
      go_wp2_with fail
      refine (specIn _ _ _ _).mono ?_
      rintro e1 w2 ⟨rfl, rfl⟩
      rw [show (decide ((0 : Int) ≤ q) && decide ((q : Int) ≤ 5)) = true from by simp; omega]
      go_wp2_with fail
      refine (specBegin c k n g _ (by omega) (by omega)).mono ?_
      rintro e3 w3 ⟨gF, gS, L, rfl, hF3, hgS, hK3⟩
      replace hF3 := Lib.hid hF3
      have HK3 := Lib.hid ((((Kp.refl [] w).alloc _).stepBelow hB1.out).trans hK3)
      have hgS' : w.heap.size ≤ gS := by have := hB1.out.size; simp at this; omega
      clear hK3
      obtain ⟨x, hx⟩ : ∃ x, x = kOf c k n := ⟨_, rfl⟩
      have hxo : Ok x := by rw [hx]; exact kOf_ok (by omega)
      have hxs : x.sum ≤ c + g.toNat := by rw [hx, kOf_sum]; omega
      rw [← hx] at HV ⊢
      clear hx
      unfold kval
      go_wp2_with fail
      have HF4 := Lib.hid (hF3.out.kp ((Kp.refl _ _).alloc (.cells #[.int .i64 x.o, .int .i64 x.h, .int .i64 x.l, .int .i64 x.n] 100)))
      refine (specCan gF gS L (c + g.toNat) (by omega) q (by omega) x _ _ hxo hxs HF4.out (fun _ _ _ _ => .inl rfl)).mono ?_
      rintro e4 w4 ⟨rfl, s4, hF4, hM4, hs4, hK4⟩
      have HB : Hid (Below w.heap.size w w4) := Lib.hid (Kp.below ((HK3.out.alloc _).transS hK4 (by simpa using hgS')))
      clear hF4 hM4 hs4 hK4
      go_wp2_with fail
      go_ret2
      exact ⟨by rw [HV.out]; rfl, HB.out⟩
    · obtain ⟨⟨h1, h2⟩, h3, h4⟩ := okTask_iff.1 hok
      have HV : Hid (canFind c k n g q = (false, 2)) := Lib.hid (by simp only [canFind, hok, if_true, hq, if_false])
      have hok2 := Lib.hid hok
      clear hok
      go_enter Try.func9, Try.ntmps9
      go_wp2_with fail
      refine (specOk _ _ _ _ _ hc hc' hk hk').mono ?_
      rintro e1 w1 ⟨rfl, hB1⟩
      rw [hok2.out]
      replace hB1 := Lib.hid hB1
      go_wp2_with fail
      refine (specIn _ _ _ _).mono ?_
      rintro e1 w2 ⟨rfl, rfl⟩
      rw [show (decide ((0 : Int) ≤ q) && decide ((q : Int) ≤ 5)) = false from by simp; omega]
      go_wp2_with fail
      go_ret2
      exact ⟨by rw [HV.out]; rfl, Kp.below (((Kp.refl [] w).alloc _).stepBelow hB1.out)⟩
  · have HV : Hid (canFind c k n g q = (false, 1)) := Lib.hid (by unfold canFind; rw [if_neg hok])
    have hok2 : Hid (okTask c k = false) := Lib.hid (by simpa using hok)
    clear hok
    go_enter Try.func9, Try.ntmps9
    go_wp2_with fail
    refine (specOk _ _ _ _ _ hc hc' hk hk').mono ?_
    rintro e1 w1 ⟨rfl, hB1⟩
    rw [hok2.out]
    replace hB1 := Lib.hid hB1
    go_wp2_with fail
    go_ret2
    exact ⟨by rw [HV.out]; rfl, Kp.below (((Kp.refl [] w).alloc _).stepBelow hB1.out)⟩
end Go.Proofs.Ytafimdhmdakcaaa
