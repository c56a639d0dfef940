/- The reference's search of weighings: its small functions return what the plain law says. Conditions: the numbers are as small as the search makes them. -/
import Derived.Test.YtafimdhmdakcaaaProg
import Derived.Test.YtafimdhmdakcaaaBase
import Derived.Test.YtafimdhmdakcaaaCoins
import Derived.WalkLawsBesides
import Derived.WalkSpells
import Derived.KernelRfl
import Derived.BigQuiet
import Derived.StillTailTactics
set_option linter.unusedVariables false
set_option linter.unusedSimpArgs false
namespace Go.Proofs.Ytafimdhmdakcaaa
open Go Go.RowKit Coins

theorem specCases (x : K) (w : World) (h : Ok x) :
    Calls Try.prog 128 #[.agg #[.int .i64 x.o, .int .i64 x.h, .int .i64 x.l, .int .i64 x.n]] w fun e w' => e = .returned (.int .i64 x.cases) ∧ Below w.heap.size w w' := by
  obtain ⟨o, h', l, n⟩ := x
  obtain ⟨h1, h2⟩ := h
  simp only at h1 h2
  go_enter Try.func128, Try.ntmps128
  go_wp2
  go_ret
  exact ⟨by simp [K.cases], (Below.refl _ _).alloc (Nat.le_refl _) _⟩

theorem specMax (a b : Int) (w : World) :
    Calls Try.prog 174 #[.int .i64 a, .int .i64 b] w fun e w' => e = .returned (.int .i64 (if b < a then a else b)) ∧ w = w' := by
  by_cases h : b < a
  · go_enter Try.func174, Try.ntmps174
    go_wp2
    go_ret
    exact ⟨rfl, rfl⟩
  · go_enter Try.func174, Try.ntmps174
    go_wp2
    go_ret
    exact ⟨rfl, rfl⟩

def p3 (k : Nat) : Int := ((3 ^ k : Nat) : Int)
theorem p3_bd (k : Nat) (h : k ≤ 5) : 1 ≤ p3 k ∧ p3 k ≤ 243 := by
  match k, h with
  | 0, _ => decide
  | 1, _ => decide
  | 2, _ => decide
  | 3, _ => decide
  | 4, _ => decide
  | 5, _ => decide
theorem p3_succ (k : Nat) : p3 (k + 1) = p3 k * 3 := by unfold p3; rw [Nat.pow_succ]; simp

theorem specPower (k : Nat) (w : World) (hk : k ≤ 5) :
    Calls Try.prog 129 #[.int .i64 k] w fun e w' => e = .returned (.int .i64 (p3 k)) ∧ w = w' := by
  go_enter Try.func129, Try.ntmps129
  go_wp2
  go_loop [0, 3] (fun i n => ∃ j : Nat, j ≤ k ∧ i = .int .i64 j ∧ n = .int .i64 (p3 (k - j))) (fun i _ => (intOf i).toNat)
  case atStart => exact ⟨k, Nat.le_refl _, rfl, by simp [p3]⟩
  case round =>
    obtain ⟨j, hj, rfl, rfl⟩ := hrel
    have hb := p3_bd (k - j) (by omega)
    by_cases h0 : 0 < j
    · go_wp2
      go_round
      case rel =>
        refine ⟨j - 1, by omega, by go_num, ?_⟩
        rw [show k - (j - 1) = (k - j) + 1 by omega, p3_succ]
      case measure => simp [intOf]; omega
    · obtain rfl : j = 0 := by omega
      go_wp2
      go_ret
      exact ⟨rfl, rfl⟩

/-- What is known behind a result of a weighing. -/
def aft (x : K) (a b c d e f : Nat) (r : Int) : K := if r = -1 then neg a b c d e f else if r = 1 then pos a b c d e f else zer x a b c d e f

def kval (x : K) : Value := .agg #[.int .i64 x.o, .int .i64 x.h, .int .i64 x.l, .int .i64 x.n]

set_option maxHeartbeats 2000000 in
set_option maxRecDepth 100000 in
theorem specAfter (x : K) (a b c d e f : Nat) (g1 g2 : Int) (r : Int) (w : World) (m : Nat) (hx : Ok x) (h1 : a + b ≤ x.o) (h2 : c + d ≤ x.h) (h3 : e + f ≤ x.l)
    (hr : r = -1 ∨ r = 0 ∨ r = 1)
    (hb : w.heap[m]? = some (.cells #[.int .i64 a, .int .i64 b, .int .i64 c, .int .i64 d, .int .i64 e, .int .i64 f, .int .i64 g1, .int .i64 g2] 191 (0, 0))) :
    Calls Try.prog 204 #[.agg #[.int .i64 x.o, .int .i64 x.h, .int .i64 x.l, .int .i64 x.n], .pointer (some ⟨m, 0, none⟩), .int .i64 r] w fun e' w' =>
      e' = .returned (kval (aft x a b c d e f r)) ∧ Below w.heap.size w w' := by
  have hlt := blk_lt hb
  have c0 : w.cell? ⟨m, 0, none⟩ = some (.int .i64 a) := blk_cell hb 0
  have c1 : w.cell? ⟨m, 1, none⟩ = some (.int .i64 b) := blk_cell hb 1
  have c2 : w.cell? ⟨m, 2, none⟩ = some (.int .i64 c) := blk_cell hb 2
  have c3 : w.cell? ⟨m, 3, none⟩ = some (.int .i64 d) := blk_cell hb 3
  have c4 : w.cell? ⟨m, 4, none⟩ = some (.int .i64 e) := blk_cell hb 4
  have c5 : w.cell? ⟨m, 5, none⟩ = some (.int .i64 f) := blk_cell hb 5
  clear hb
  obtain ⟨o, h', l, n⟩ := x
  obtain ⟨h4, h5⟩ := hx
  simp only at h1 h2 h3 h4 h5
  rcases hr with rfl | rfl | rfl
  · go_enter Try.func204, Try.ntmps204
    go_wp2
    go_region
    go_wp2
    refine bodyPost_ret (v := kval (aft _ a b c d e f (-1))) (by simp [results, Try.results204, go_sem, kval, aft, neg]) rfl ⟨rfl, ?_⟩
    repeat (first | exact Below.refl _ _ | refine Below.drew ?_ | refine Below.setCell ?_ (by simp) _ | refine Below.alloc ?_ (by simp <;> omega) _)
  · go_enter Try.func204, Try.ntmps204
    go_wp2
    refine wp_region_still_tail 38 (by kernel_rfl) (by kernel_rfl) ?_
    change wpStill _ _ (World.drew _) _ _ _
    simp only [List.take_succ_cons, List.take_zero, List.drop_succ_cons, List.drop_zero]
    repeat still_step
    refine wpStill_nil ?_
    change wpList _ _ _ _ _ (World.drew _)
    go_wp2
    refine bodyPost_ret (v := kval (aft _ a b c d e f 0)) (by simp [results, Try.results204, go_sem, kval, aft, zer]; omega) rfl ⟨rfl, ?_⟩
    repeat (first | exact Below.refl _ _ | refine Below.drew ?_ | refine Below.setCell ?_ (by simp) _ | refine Below.alloc ?_ (by simp <;> omega) _)
  · go_enter Try.func204, Try.ntmps204
    go_wp2
    go_region
    go_wp2
    refine bodyPost_ret (v := kval (aft _ a b c d e f 1)) (by simp [results, Try.results204, go_sem, kval, aft, pos]) rfl ⟨rfl, ?_⟩
    repeat (first | exact Below.refl _ _ | refine Below.drew ?_ | refine Below.setCell ?_ (by simp) _ | refine Below.alloc ?_ (by simp <;> omega) _)
end Go.Proofs.Ytafimdhmdakcaaa
