/-
  EvalSums holds of every input: what is added and taken away again is as it was; sameness and less are what they should be. No condition.
-/
import Derived.Test.YtipkaloldlplgaaRows
import Derived.Test.YtipkaloldlplgaaRead
import Derived.Test.YtipkaloldlplgaaOpenA
import Derived.Test.YtipkaloldlplgaaLawSums
namespace Go.Proofs.Ytipkaloldlplgaa.evalSums
open Go.ChangeShapes Go.WideShapes Go.ChangeAt Go.RowKit
set_option linter.unusedVariables false
theorem own : ownKnob Try.prog.godebug = none := by kernel_rfl
set_option maxRecDepth 100000 in
theorem lifted (os : Os) (started : os.Started) (H : Type) (enc : TypeId × Value → H) :
    ReturnsInHanded {} Try.checked os 6 .any (Rows.evalSumsSpec.pre6 enc Try.prog Try.f6 Rows.evalSumsRow.domain false) (Rows.evalSumsSpec.post enc Try.prog Try.f6 false true false false) := by
  refine returnsInHanded_of_change (C := Try.checked) own started (by kernel_rfl) Try.func6
    (ChangeSpec.witness6 (enc := enc) (C := Try.checked) false ⟨#[], #[.agg #[.int .i64 0, .int .i64 0, .int .i64 0, .int .i64 0]], []⟩ 8 (by kernel_rfl) (by kernel_rfl) (by kernel_rfl) (by kernel_rfl)) ?_
  intro W base args ds gs before hval0 hW hcnd _
  have hval : ∀ (j : Nat) t v, Try.f6.params[j]? = some t → args[j]? = some v → Value.okWide Try.prog W .any base t v := hval0
  have hW' := hW
  obtain ⟨p, q, hA0, hV, rfl, hfz, hnd⟩ := hW
  have hA : DataW.TrodAll enc Try.prog W 0 (fun _ => true) true Try.f6.params.toList args.toList ds p := hA0
  rw [Try.params6] at hA hval
  obtain ⟨v0, vs0, d0, ds0, p0, q0, hargs, rfl, rfl, h0, r0⟩ := trodAll_cons hA
  obtain ⟨rfl, rfl, rfl⟩ := trodAll_nil r0
  obtain rfl : args = #[v0] := by cases args; simp_all
  have g0 := Rd.of_trod h0
  have k0 := hval 0 38 v0 rfl rfl
  obtain ⟨a, b, c, d, rfl, wa, wb, wc, wd⟩ := open_arr4 Try.underlying38 Try.underlying2 (by kernel_rfl) (by kernel_rfl) k0 g0
  refine (law_sums ⟨a, b, c, d⟩ W (wf64 wa)).mono fun e W' ⟨he, hg⟩ => ?_
  subst he
  exact ⟨_, rfl, law_post (bt := 4) laidOutX (by kernel_rfl) rfl rfl Try.underlying4 rfl rfl rfl hW' hg⟩
theorem over : Rows.evalSumsRow.holds Try.pinned (OpenSpec.ofChange Rows.evalSumsSpec) :=
  OpenClaim.holds_of_wide 6 Try.f6 rfl rfl rfl rfl rfl rfl rfl ⟨rfl, rfl, rfl, rfl, rfl⟩ rfl rfl rfl rfl rfl (by kernel_rfl) Try.func6 (by kernel_rfl)
    (of_decide_eq_true (by kernel_rfl)) (by unfold Func.isWrapper; first | (rw [if_pos (by decide +kernel)]; kernel_rfl) | (rw [if_neg (by decide +kernel)]; exact ⟨rfl, rfl⟩))
    (fun os started H enc _ => lifted os started H enc)
theorem proved : Rows.EvalSumsSaid :=
  over
#print axioms proved
end Go.Proofs.Ytipkaloldlplgaa.evalSums
