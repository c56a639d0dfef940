/- The laws' task is turned into the program's, field by field. No condition. -/
import Derived.Test.YtafimdhmdakcaaaProg
import Derived.Test.YtafimdhmdakcaaaBase
import Derived.WalkLawsBesides
import Derived.KernelRfl
set_option linter.unusedVariables false
set_option linter.unusedSimpArgs false
namespace Go.Proofs.Ytafimdhmdakcaaa
open Go Go.RowKit

set_option maxHeartbeats 1000000 in
theorem lawsToTask (c k : Int) (n g : Bool) (w : World) :
    Calls Try.prog 10 #[.agg #[.int .i8 c, .int .i8 k, .bool n, .bool g]] w fun e w' => e = .returned (.agg #[.int .i8 c, .int .i8 k, .bool n, .bool g]) ∧ Below w.heap.size w w' := by
  go_enter Try.func10, Try.ntmps10
  go_wp2
  refine bodyPost_ret (v := .agg #[.int .i8 c, .int .i8 k, .bool n, .bool g]) (by simp [results, Try.results10, go_sem]) rfl ⟨rfl, ?_⟩
  repeat (first | (with_reducible exact Below.refl _ _) | (with_reducible refine Below.drew ?_) | (with_reducible refine Below.setCell ?_ (by simp) _) | (with_reducible refine Below.alloc ?_ (by simp <;> omega) _))
end Go.Proofs.Ytafimdhmdakcaaa
