/- For every task, the program's LeastWeighings returns what the reference's returns; the arguments read as they did. No condition. -/
import Derived.Test.YtafimdhmdakcaaaRows
import Derived.Test.YtafimdhmdakcaaaFindJ
import Derived.Test.YtafimdhmdakcaaaTask
import Derived.ProofKit
import Derived.OpenShut
import Derived.Lib.SmallJoins
set_option linter.unusedVariables false
set_option linter.unusedSimpArgs false
namespace Go.Proofs.Ytafimdhmdakcaaa.LawLeast
open Go.ChangeShapes Go.WideShapes Go.ChangeAt Go.RowKit Go.Joins

theorem own : ownKnob Try.prog.godebug = none := by kernel_rfl
theorem laidOut : laidOutB Try.prog = true := by kernel_rfl
theorem cellsT : Try.prog.cellsOf 24 = 4 := by kernel_rfl

set_option maxHeartbeats 1000000 in
set_option maxRecDepth 100000 in
theorem walk (c k : Int) (n g : Bool) (w : World) (hc : -128 ≤ c) (hc' : c ≤ 127) (hk : -128 ≤ k) (hk' : k ≤ 127) :
    Calls Try.prog 4 #[.agg #[.int .i8 c, .int .i8 k, .bool n, .bool g]] w fun e w' => e = .returned (.bool true) ∧ Below w.heap.size w w' := by
  obtain ⟨r, hr⟩ : ∃ r, leastOfTask c k n g = r := ⟨_, rfl⟩
  have hs := fun w => specLeast c k n g w hc hc' hk hk'
  have hi := fun w => implLeast c k n g w hc hc' hk hk'
  rw [hr] at hs hi
  clear hr
  obtain ⟨r1, r2⟩ := r
  unfold II at hs hi
  simp only at hs hi
  replace hs := Lib.hid hs; replace hi := Lib.hid hi
  have q1 : (r1 != r1) = false := by simp
  have q2 : (r2 != r2) = false := by simp
  go_enter Try.func4, Try.ntmps4
  go_wp2_with fail
  refine (lawsToTask _ _ _ _ _).mono ?_
  rintro e1 w1 ⟨rfl, hB1⟩
  have hX1 := blk_below (blk_new _ _) hB1
  have HK1 : Hid (Kp [] w w1) := Lib.hid (((Kp.refl _ _).alloc _).stepBelow hB1)
  clear hB1
  replace hX1 := Lib.hid hX1
  go_wp2_with fail
  refine (hs.out _).mono ?_
  rintro e2 w2 ⟨rfl, hB2⟩
  have HK2 := Lib.hid (HK1.out.stepBelow hB2)
  have hX2 := blk_below hX1.out hB2
  obtain ⟨b0, b1, b2, b3⟩ := cells4 hX2
  replace hX2 := Lib.hid hX2
  clear hB2
  go_wp2_with fail
  refine (lawsToTask _ _ _ _ _).mono ?_
  rintro e3 w3 ⟨rfl, hB3⟩
  have HK3 := Lib.hid (HK2.out.stepBelow hB3)
  clear hB3 b0 b1 b2 b3
  go_wp2_with fail
  refine (hi.out _).mono ?_
  rintro e4 w4 ⟨rfl, hB4⟩
  have HK4 := Lib.hid (HK3.out.stepBelow hB4)
  clear hB4
  go_wp2_with fail
  go_ret
  exact ⟨rfl, Kp.below HK4.out⟩

set_option maxRecDepth 100000 in
theorem lifted (os : Os) (started : os.Started) (H : Type) (enc : TypeId × Value → H) :
    ReturnsInHanded {} Try.checked os 4 .any (Rows.fnExactLeastWeighingsSpec.pre6 enc Try.prog Try.f4 Rows.fnExactLeastWeighingsRow.domain false) (Rows.fnExactLeastWeighingsSpec.post enc Try.prog Try.f4 false true false false) := by
  refine returnsInHanded_of_change (C := Try.checked) own started (by kernel_rfl) Try.func4
    (ChangeSpec.witness6 (enc := enc) (C := Try.checked) false ⟨#[], #[.agg #[.int .i8 0, .int .i8 0, .bool false, .bool false]], []⟩ 8 (by kernel_rfl) (by kernel_rfl) (by kernel_rfl) (by kernel_rfl)) ?_
  intro W base args ds gs before hval0 hW hcnd _
  have hval : ∀ (j : Nat) t v, Try.f4.params[j]? = some t → args[j]? = some v → Value.okWide Try.prog W .any base t v := hval0
  have hW' := hW
  obtain ⟨p, q, hA0, hV, rfl, hfz, hnd⟩ := hW
  have hA : DataW.TrodAll enc Try.prog W 0 (fun _ => true) true Try.f4.params.toList args.toList ds p := hA0
  rw [Try.params4] at hA hval
  obtain ⟨v0, d0, rfl, rfl, h0⟩ := trodAll_one hA
  obtain ⟨rfl, rfl⟩ := trodVars_none hV
  have k0 := h0
  have lt0 : ∀ x ∈ p, x.block < W.heap.size := by obtain ⟨m, hm⟩ := k0; exact DataW.trod_lt m _ _ _ hm
  have hd0 : d0 = d0 := rfl
  obtain ⟨c0, c1, c2, c3, y0, y1, y2, y3, m, hv, hd, hp, hy0, hy1, hy2, hy3⟩ := open_agg4 Try.underlying24 (by kernel_rfl) cellsT (hval 0 24 v0 rfl rfl) h0
  obtain ⟨a, e0, _, wa⟩ := DataW.trod_int Try.underlying22 hy0
  obtain ⟨b, e1, _, wb⟩ := DataW.trod_int Try.underlying22 hy1
  obtain ⟨n, e2, _⟩ := DataW.trod_bool Try.underlying4 hy2
  obtain ⟨g, e3, _⟩ := DataW.trod_bool Try.underlying4 hy3
  simp at e0 e1 e2 e3
  subst e0 e1 e2 e3
  subst hv
  clear hA0 hval0
  simp only [List.append_nil] at hW'
  have ba := bounds_i8 wa
  have bb := bounds_i8 wb
  refine (walk a b n g W ba.1 ba.2 bb.1 bb.2).mono fun e W' ⟨he, bel⟩ => ?_
  subst he
  exact ⟨_, rfl, _, _, _, [], _, [], hW', trodAll_mk1 (shut_bool Try.underlying4 _), trodAll_mk1 (Below.trod laidOut (by kernel_rfl) (of_decide_eq_true (by kernel_rfl)) k0 bel lt0), rfl, bel.frame _, fun h => by cases h⟩

theorem over : Rows.fnExactLeastWeighingsRow.holds Try.pinned (OpenSpec.ofChange Rows.fnExactLeastWeighingsSpec) :=
  OpenClaim.holds_of_wide 4 Try.f4 rfl rfl rfl rfl rfl rfl rfl ⟨rfl, rfl, rfl, rfl, rfl⟩ rfl rfl rfl rfl rfl (by kernel_rfl) Try.func4 (by kernel_rfl)
    (of_decide_eq_true (by kernel_rfl)) (by unfold Func.isWrapper; first | (rw [if_pos (by decide +kernel)]; kernel_rfl) | (rw [if_neg (by decide +kernel)]; exact ⟨rfl, rfl⟩))
    (fun os started H enc _ => lifted os started H enc)
end Go.Proofs.Ytafimdhmdakcaaa.LawLeast
namespace Go.Proofs.Ytafimdhmdakcaaa
/-- The statement. -/
theorem fnExactLeastWeighings_holds : Rows.FnExactLeastWeighingsSaid := LawLeast.over
#print axioms fnExactLeastWeighings_holds
end Go.Proofs.Ytafimdhmdakcaaa
