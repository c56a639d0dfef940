/- '==' on arrays of integers, and on structs by their fields. No condition beyond the types' shapes. -/
import Derived.Test.YtafimdhmdakcaaaBase
import Derived.DeepKeys3
set_option linter.unusedVariables false
set_option linter.unusedSimpArgs false
namespace Go.Proofs.Ytafimdhmdakcaaa
open Go Go.RowKit

section
variable {P : Program}

theorem run_eqItems_int (d : Nat) {e : TypeId} {k : IntKind} (he : P.plainKey e = true) (hu : P.underlying e = some (.int k)) (hc : P.cellsOf e = 1) (xs ys : Array Value) (a b : Nat → Int) (w : World) :
    ∀ is : List Nat, (∀ i, i ∈ is → xs[i]? = some (.int k (a i)) ∧ ys[i]? = some (.int k (b i))) →
      (Op.eqItems (d + 1) e (P.cellsOf e) xs ys is).run P w = .ok (is.all fun i => a i == b i) w
  | [], _ => by simp [Op.eqItems]
  | i :: is, h => by
    obtain ⟨h1, h2⟩ := h i (by simp)
    have ih := run_eqItems_int d he hu hc xs ys a b w is (fun j hj => h j (by simp [hj]))
    have p1 := run_part_plain w he (xs := xs) (off := i * P.cellsOf e) (by rw [hc, Nat.mul_one]; exact h1)
    have p2 := run_part_plain w he (xs := ys) (off := i * P.cellsOf e) (by rw [hc, Nat.mul_one]; exact h2)
    simp only [Op.eqItems, Sem.run_bind, p1, p2, Result.andThen_ok, run_equalIn_int w d e k k (a i) (b i) hu]
    by_cases hab : a i = b i
    · simp only [hab, beq_self_eq_true, Bool.not_true, Bool.false_eq_true, if_false, List.all_cons, Bool.true_and]
      exact ih
    · have : (a i == b i) = false := by simpa using hab
      simp [this]

theorem run_equalIn_ints (d : Nat) {t e : TypeId} {n : Nat} {k : IntKind} {ti : TypeInfo} (ht : P.underlying t = some (.array n e)) (hi : P.info? e = some ti) (he : P.plainKey e = true) (hu : P.underlying e = some (.int k)) (hc : P.cellsOf e = 1)
    (xs ys : Array Value) (a b : Nat → Int) (h : ∀ i, i < n → xs[i]? = some (.int k (a i)) ∧ ys[i]? = some (.int k (b i))) (w : World) :
    (Op.equalIn (d + 2) t (.agg xs) (.agg ys)).run P w = .ok ((List.range n).all fun i => a i == b i) w := by
  rw [run_equalIn_array w (d + 1) xs ys ht hi]
  exact run_eqItems_int d he hu hc xs ys a b w _ (fun i hi => h i (List.mem_range.1 hi))

theorem run_eql_ints {t e : TypeId} {n : Nat} {k : IntKind} {ti : TypeInfo} (ht : P.underlying t = some (.array n e)) (hi : P.info? e = some ti) (he : P.plainKey e = true) (hu : P.underlying e = some (.int k)) (hc : P.cellsOf e = 1)
    (xs ys : Array Value) (a b : Nat → Int) (h : ∀ i, i < n → xs[i]? = some (.int k (a i)) ∧ ys[i]? = some (.int k (b i))) (w : World) :
    (binOp .eql t (.agg xs) (.agg ys)).run P w = .ok (.bool ((List.range n).all fun i => a i == b i)) w := by
  rw [run_eql_struct w t xs ys, run_equalIn_ints 9998 ht hi he hu hc xs ys a b h w]
  rfl
end
end Go.Proofs.Ytafimdhmdakcaaa
