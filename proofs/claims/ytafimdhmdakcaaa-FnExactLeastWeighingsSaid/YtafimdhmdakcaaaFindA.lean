/- The program's search of weighings: its small functions return what the plain law says. Conditions: the numbers are as small as the search makes them. -/
import Derived.Test.YtafimdhmdakcaaaProg
import Derived.Test.YtafimdhmdakcaaaMap
import Derived.Test.YtafimdhmdakcaaaCoins
import Derived.Test.YtafimdhmdakcaaaMake
import Derived.WalkLawsBesides
import Derived.WalkSpells
import Derived.KernelRfl
import Derived.BigQuiet
import Derived.StillTailTactics
import Derived.Deep.DeepCutAuto
import Derived.Deep.CutBlock
set_option linter.unusedVariables false
set_option linter.unusedSimpArgs false
namespace Go.Proofs.Ytafimdhmdakcaaa
open Go Go.RowKit Coins

theorem implWithin (n lo hi : Int) (w : World) : Calls Try.prog 65 #[.int .i64 n, .int .i64 lo, .int .i64 hi] w fun e w' => e = .returned (.bool (decide (lo ≤ n) && decide (n ≤ hi))) ∧ w = w' := by
  by_cases h : lo ≤ n
  · by_cases h' : n ≤ hi
    · go_enter Try.func65, Try.ntmps65
      go_wp2
      go_ret
      exact ⟨by simp [h, h'], rfl⟩
    · go_enter Try.func65, Try.ntmps65
      go_wp2
      go_ret
      exact ⟨by simp [h, h'], rfl⟩
  · go_enter Try.func65, Try.ntmps65
    go_wp2
    go_ret
    exact ⟨by simp; omega, rfl⟩

theorem implIsKind (k : Int) (w : World) : Calls Try.prog 111 #[.int .i64 k] w fun e w' => e = .returned (.bool (decide (0 ≤ k) && decide (k ≤ 2))) ∧ w = w' := by
  go_enter Try.func111, Try.ntmps111
  go_wp2_with fail
  refine (implWithin _ _ _ _).mono ?_
  rintro e1 w1 ⟨rfl, rfl⟩
  go_wp2_with fail
  go_ret
  exact ⟨rfl, rfl⟩

theorem implValid (c k : Int) (n g : Bool) (w : World) (hc : -128 ≤ c) (hc' : c ≤ 127) (hk : -128 ≤ k) (hk' : k ≤ 127) :
    Calls Try.prog 46 #[.agg #[.int .i8 c, .int .i8 k, .bool n, .bool g]] w fun e w' => e = .returned (.bool ((decide (1 ≤ c) && decide (c ≤ 13)) && (decide (0 ≤ k) && decide (k ≤ 2)))) ∧ Below w.heap.size w w' := by
  obtain ⟨v1, h1⟩ : ∃ v, (decide ((1 : Int) ≤ c) && decide (c ≤ 13)) = v := ⟨_, rfl⟩
  obtain ⟨v2, h2⟩ : ∃ v, (decide ((0 : Int) ≤ k) && decide (k ≤ 2)) = v := ⟨_, rfl⟩
  rw [h1, h2]
  replace h1 := Lib.hid h1; replace h2 := Lib.hid h2
  go_enter Try.func46, Try.ntmps46
  go_wp2_with fail
  refine (implWithin _ _ _ _).mono ?_
  rintro e1 w1 ⟨rfl, rfl⟩
  rw [h1.out]
  cases v1 with
  | false =>
    go_wp2_with fail
    go_ret
    exact ⟨rfl, (Below.refl _ _).alloc (Nat.le_refl _) _⟩
  | true =>
    go_wp2_with fail
    refine (implIsKind _ _).mono ?_
    rintro e1 w1 ⟨rfl, rfl⟩
    rw [h2.out]
    go_wp2_with fail
    go_ret
    exact ⟨rfl, (Below.refl _ _).alloc (Nat.le_refl _) _⟩

/-- What is known, as the program holds it. -/
def knv (all : Nat) (x : K) : Value := .agg #[.int .i64 x.o, .int .i64 x.h, .int .i64 x.l, .int .i64 ((all - x.o - x.h - x.l : Nat) : Int), .bool (x.n != 0)]

theorem implCases (all : Nat) (x : K) (w : World) (h : Ok x) :
    Calls Try.prog 131 #[knv all x] w fun e w' => e = .returned (.int .i64 x.cases) ∧ Below w.heap.size w w' := by
  obtain ⟨o, h', l, n⟩ := x
  obtain ⟨h1, h2⟩ := h
  simp only at h1 h2
  unfold knv
  simp only
  have hn : n = 0 ∨ n = 1 := by omega
  rcases hn with rfl | rfl
  · go_enter Try.func131, Try.ntmps131
    go_wp2
    go_ret
    exact ⟨by simp [K.cases], (Below.refl _ _).alloc (Nat.le_refl _) _⟩
  · go_enter Try.func131, Try.ntmps131
    go_wp2
    go_ret
    exact ⟨by simp [K.cases], (Below.refl _ _).alloc (Nat.le_refl _) _⟩

/-- A weighing, by how many coins of each sort are on the left and on the right. -/
def fov (a b c d e f : Nat) (g1 g2 : Nat) : Value := .agg #[.int .i64 a, .int .i64 c, .int .i64 e, .int .i64 g1, .int .i64 b, .int .i64 d, .int .i64 f, .int .i64 g2]

def aft' (x : K) (a b c d e f : Nat) (r : Int) : K := if r = -1 then neg a b c d e f else if r = 1 then pos a b c d e f else zer x a b c d e f

set_option maxHeartbeats 2000000 in
set_option maxRecDepth 100000 in
theorem implBehindZero (all : Nat) (x : K) (a b c d e f g1 g2 : Nat) (w : World) (hx : Ok x) (hall : x.o + x.h + x.l ≤ all) (h14 : all ≤ 14) (h1 : a + b ≤ x.o) (h2 : c + d ≤ x.h) (h3 : e + f ≤ x.l) :
    Calls Try.prog 178 #[knv all x, fov a b c d e f g1 g2, .int .i64 0] w fun e' w' => e' = .returned (knv all (zer x a b c d e f)) ∧ Below w.heap.size w w' := by
  obtain ⟨o, h', l, n⟩ := x
  obtain ⟨h4, h5⟩ := hx
  simp only at h1 h2 h3 h4 h5 hall
  obtain ⟨bn, hbn⟩ : ∃ v, (n != 0) = v := ⟨_, rfl⟩
  unfold knv fov zer
  simp only
  rw [hbn]
  replace hbn := Lib.hid hbn
  go_enter Try.func178, Try.ntmps178
  go_wp2_with fail
  refine wp_loop_rounds 4 ?_
  rw [rounds_succ]
  go_wp2_with fail
  refine wp_region_still_tail 17 (by kernel_rfl) (by kernel_rfl) ?_
  change wpStill _ _ (World.drew _) _ _ _
  simp only [List.take_succ_cons, List.take_zero, List.drop_succ_cons, List.drop_zero]
  repeat still_step
  refine wpStill_nil ?_
  change wpList _ _ _ _ _ (World.drew _)
  go_wp2_with fail
  rw [rounds_succ]
  go_wp2_with fail
  refine wp_region_still_tail 17 (by kernel_rfl) (by kernel_rfl) ?_
  change wpStill _ _ (World.drew _) _ _ _
  simp only [List.take_succ_cons, List.take_zero, List.drop_succ_cons, List.drop_zero]
  repeat still_step
  refine wpStill_nil ?_
  change wpList _ _ _ _ _ (World.drew _)
  go_wp2_with fail
  rw [rounds_succ]
  go_wp2_with fail
  refine wp_region_still_tail 17 (by kernel_rfl) (by kernel_rfl) ?_
  change wpStill _ _ (World.drew _) _ _ _
  simp only [List.take_succ_cons, List.take_zero, List.drop_succ_cons, List.drop_zero]
  repeat still_step
  refine wpStill_nil ?_
  change wpList _ _ _ _ _ (World.drew _)
  go_wp2_with fail
  rw [rounds_succ]
  go_wp2_with fail
  refine bodyPost_ret (v := .agg #[.int .i64 ((o - a - b : Nat) : Int), .int .i64 ((h' - c - d : Nat) : Int), .int .i64 ((l - e - f : Nat) : Int), .int .i64 ((all - (o - a - b) - (h' - c - d) - (l - e - f) : Nat) : Int), .bool bn]) ?_ rfl ⟨rfl, ?_⟩
  · simp [results, Try.results178, go_sem]; omega
  · repeat (first | (with_reducible exact Below.refl _ _) | (with_reducible refine Below.drew ?_) | (with_reducible refine Below.setCell ?_ (by simp) _) | (with_reducible refine Below.alloc ?_ (by simp <;> omega) _))

set_option maxHeartbeats 2000000 in
set_option maxRecDepth 100000 in
theorem implBehindNeg (all : Nat) (x : K) (a b c d e f g1 g2 : Nat) (w : World) (hx : Ok x) (hall : x.o + x.h + x.l ≤ all) (h14 : all ≤ 14) (h1 : a + b ≤ x.o) (h2 : c + d ≤ x.h) (h3 : e + f ≤ x.l) :
    Calls Try.prog 178 #[knv all x, fov a b c d e f g1 g2, .int .i64 (-1)] w fun e' w' => e' = .returned (knv all (neg a b c d e f)) ∧ Below w.heap.size w w' := by
  obtain ⟨o, h', l, n⟩ := x
  obtain ⟨h4, h5⟩ := hx
  simp only at h1 h2 h3 h4 h5 hall
  obtain ⟨bn, hbn⟩ : ∃ v, (n != 0) = v := ⟨_, rfl⟩
  unfold knv fov neg
  simp only
  rw [hbn]
  replace hbn := Lib.hid hbn
  go_enter Try.func178, Try.ntmps178
  go_wp2_with fail
  go_region
  all_goals
    go_wp2_with fail
    go_region
    all_goals
      go_wp2_with fail
      refine bodyPost_ret (v := .agg #[.int .i64 0, .int .i64 ((a + c : Nat) : Int), .int .i64 ((b + f : Nat) : Int), .int .i64 ((all - 0 - (a + c) - (b + f) : Nat) : Int), .bool false]) ?_ rfl ⟨rfl, ?_⟩
      · simp [results, Try.results178, go_sem]; omega
      · repeat (first | (with_reducible exact Below.refl _ _) | (with_reducible refine Below.drew ?_) | (with_reducible refine Below.setCell ?_ (by simp) _) | (with_reducible refine Below.alloc ?_ (by simp <;> omega) _))

set_option maxHeartbeats 2000000 in
set_option maxRecDepth 100000 in
theorem implBehindPos (all : Nat) (x : K) (a b c d e f g1 g2 : Nat) (w : World) (hx : Ok x) (hall : x.o + x.h + x.l ≤ all) (h14 : all ≤ 14) (h1 : a + b ≤ x.o) (h2 : c + d ≤ x.h) (h3 : e + f ≤ x.l) :
    Calls Try.prog 178 #[knv all x, fov a b c d e f g1 g2, .int .i64 1] w fun e' w' => e' = .returned (knv all (pos a b c d e f)) ∧ Below w.heap.size w w' := by
  obtain ⟨o, h', l, n⟩ := x
  obtain ⟨h4, h5⟩ := hx
  simp only at h1 h2 h3 h4 h5 hall
  obtain ⟨bn, hbn⟩ : ∃ v, (n != 0) = v := ⟨_, rfl⟩
  unfold knv fov pos
  simp only
  rw [hbn]
  replace hbn := Lib.hid hbn
  go_enter Try.func178, Try.ntmps178
  go_wp2_with fail
  go_region
  all_goals
    go_wp2_with fail
    go_region
    all_goals
      go_wp2_with fail
      go_region
      all_goals
        go_wp2_with fail
        refine bodyPost_ret (v := .agg #[.int .i64 0, .int .i64 ((b + d : Nat) : Int), .int .i64 ((a + e : Nat) : Int), .int .i64 ((all - 0 - (b + d) - (a + e) : Nat) : Int), .bool false]) ?_ rfl ⟨rfl, ?_⟩
        · simp [results, Try.results178, go_sem]; omega
        · repeat (first | (with_reducible exact Below.refl _ _) | (with_reducible refine Below.drew ?_) | (with_reducible refine Below.setCell ?_ (by simp) _) | (with_reducible refine Below.alloc ?_ (by simp <;> omega) _))
end Go.Proofs.Ytafimdhmdakcaaa
