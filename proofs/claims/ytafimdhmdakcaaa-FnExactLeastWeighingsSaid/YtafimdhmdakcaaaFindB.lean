/- The keys of what has been tried: how they are compared. No condition. -/
import Derived.Test.YtafimdhmdakcaaaFindA
set_option linter.unusedVariables false
set_option linter.unusedSimpArgs false
namespace Go.Proofs.Ytafimdhmdakcaaa
open Go Go.RowKit Coins

structure Key where
  o : Nat
  h : Nat
  l : Nat
  n : Bool
  j : Nat
deriving DecidableEq

def keyv (all : Nat) (q : Key) : Value := .agg #[.int .i64 q.o, .int .i64 q.h, .int .i64 q.l, .int .i64 ((all - q.o - q.h - q.l : Nat) : Int), .bool q.n, .int .i64 q.j]

def keyOf1 (x : K) (j : Nat) : Key := ⟨x.o, x.h, x.l, x.n != 0, j⟩

theorem infoInt : (Try.prog.info? 3).map (fun i => (i.zero, i.size, i.bytes)) = some (some (.int .i64 0), 1, 8) := by kernel_rfl

theorem eqA4 (a0 a1 a2 a3 b0 b1 b2 b3 : Int) (d : Nat) (w : World) : (Op.equalIn (d + 2) 107 (.agg #[.int .i64 a0, .int .i64 a1, .int .i64 a2, .int .i64 a3]) (.agg #[.int .i64 b0, .int .i64 b1, .int .i64 b2, .int .i64 b3])).run Try.prog w = .ok (a0 == b0 && a1 == b1 && a2 == b2 && a3 == b3) w := by
  obtain ⟨i0, hi, _⟩ := info_parts infoInt
  rw [run_equalIn_ints (n := 4) (k := .i64) d Try.underlying107 hi (by kernel_rfl) Try.underlying3 (by kernel_rfl) _ _ (fun i => [a0, a1, a2, a3].getD i 0) (fun i => [b0, b1, b2, b3].getD i 0) (fun i hi => by
    match i, hi with
    | 0, _ => exact ⟨rfl, rfl⟩
    | 1, _ => exact ⟨rfl, rfl⟩
    | 2, _ => exact ⟨rfl, rfl⟩
    | 3, _ => exact ⟨rfl, rfl⟩) w]
  simp [List.range, List.range.loop, Bool.and_assoc]

theorem eqKey (all : Nat) (p q : Key) (w : World) : (Op.equal 195 (keyv all p) (keyv all q)).run Try.prog w = .ok (decide (p = q)) w := by
  unfold Op.equal Op.maxDepth keyv
  rw [show (10000 : Nat) = 9996 + 4 from rfl]
  go_simp
  have h : (Op.equalIn 9998 107 (.agg #[.int .i64 p.o, .int .i64 p.h, .int .i64 p.l, .int .i64 ((all - p.o - p.h - p.l : Nat) : Int)]) (.agg #[.int .i64 q.o, .int .i64 q.h, .int .i64 q.l, .int .i64 ((all - q.o - q.h - q.l : Nat) : Int)])).run Try.prog w = _ := eqA4 _ _ _ _ _ _ _ _ 9996 w
  rw [h]
  obtain ⟨o1, h1, l1, n1, j1⟩ := p
  obtain ⟨o2, h2, l2, n2, j2⟩ := q
  simp only [Result.andThen_ok, Key.mk.injEq]
  by_cases e1 : o1 = o2
  · by_cases e2 : h1 = h2
    · by_cases e3 : l1 = l2
      · by_cases e4 : n1 = n2
        · by_cases e5 : j1 = j2
          · subst e1 e2 e3 e4 e5; simp
          · subst e1 e2 e3 e4
            have : ¬ (j1 : Int) = j2 := by omega
            simp [e5, this]
        · subst e1 e2 e3; simp [e4]
      · have : ¬ (l1 : Int) = l2 := by omega
        simp [e3, this]
    · have : ¬ (h1 : Int) = h2 := by omega
      simp [e2, this]
  · have : ¬ (o1 : Int) = o2 := by omega
    simp [e1, this]

theorem keyLaw (all : Nat) : KeyLaw Try.prog 195 (keyv all) where
  eq := eqKey all
  chk := fun q e w => by unfold keyv; kernel_rfl
  bits := fun q => by
    unfold keyv
    simp [Instr.sameBits]
  und := by
    refine ⟨_, Try.underlying195, fun a b => ?_⟩
    unfold keyv
    rfl
end Go.Proofs.Ytafimdhmdakcaaa
