/-
  OpaqueTime holds of every input: who ended ahead of another one's beginning stands ahead of it. No condition.
-/
import Derived.Test.YtnjcebfbfecdeaaRows
import Derived.Test.YtnjcebfbfecdeaaRead
import Derived.Test.YtnjcebfbfecdeaaOpenT
import Derived.Test.YtnjcebfbfecdeaaLawTime
namespace Go.Proofs.Ytnjcebfbfecdeaa.opaqueTime
open Go.ChangeShapes Go.WideShapes Go.ChangeAt Go.RowKit
set_option linter.unusedVariables false
theorem own : ownKnob Try.prog.godebug = none := by kernel_rfl
set_option maxRecDepth 100000 in
theorem lifted (os : Os) (started : os.Started) (H : Type) (enc : TypeId × Value → H) :
    ReturnsInHanded {} Try.checked os 4 .any (Rows.opaqueTimeSpec.pre6 enc Try.prog Try.f4 Rows.opaqueTimeRow.domain false) (Rows.opaqueTimeSpec.post enc Try.prog Try.f4 false true false false) := by
  refine returnsInHanded_of_change (C := Try.checked) own started (by kernel_rfl) Try.func4
    (ChangeSpec.witness6 (enc := enc) (C := Try.checked) false ⟨#[], #[.agg #[.int .i64 0, .int .i64 0, .int .i64 0, .int .i64 0, .bool false, .slice none 0 0, .int .i64 0, .int .i64 0, .int .i64 0, .int .i64 0, .bool false, .slice none 0 0], .int .i64 0], []⟩ 8 (by kernel_rfl) (by kernel_rfl) (by kernel_rfl) (by kernel_rfl)) ?_
  intro W base args ds gs before hval0 hW hcnd _
  have hval : ∀ (j : Nat) t v, Try.f4.params[j]? = some t → args[j]? = some v → Value.okWide Try.prog W .any base t v := hval0
  have hW' := hW
  obtain ⟨p, q, hA0, hV, rfl, hfz, hnd⟩ := hW
  have hA : DataW.TrodAll enc Try.prog W 0 (fun _ => true) true Try.f4.params.toList args.toList ds p := hA0
  rw [Try.params4] at hA hval
  obtain ⟨v0, vs0, d0, ds0, p0, q0, hargs, rfl, rfl, h0, r0⟩ := trodAll_cons hA
  obtain ⟨v1, vs1, d1, ds1, p1, q1, rfl, rfl, rfl, h1, r1⟩ := trodAll_cons r0
  obtain ⟨rfl, rfl, rfl⟩ := trodAll_nil r1
  obtain rfl : args = #[v0, v1] := by cases args; simp_all
  have g0 := Rd.of_trod h0
  have k0 := hval 0 41 v0 rfl rfl
  have g1 := Rd.of_trod h1
  have k1 := hval 1 3 v1 rfl rfl
  obtain ⟨th, fr, lg, en, real, ops, m, th', fr', lg', en', real', ops', m', rfl, w1, w2, w3, w4, ho, w1', w2', w3', w4', ho'⟩ := open_two k0 g0
  obtain ⟨gap, rfl, wg⟩ := open_int0 Try.underlying3 k1 g1
  refine (law_time th fr lg en real ops m th' fr' lg' en' real' ops' m' gap W w1 w2 w3 w4 ho w1' w2' w3' w4' ho').mono fun e W' ⟨he, hg⟩ => ?_
  subst he
  exact ⟨_, rfl, law_post (bt := 4) laidOutX (by kernel_rfl) rfl rfl Try.underlying4 rfl rfl rfl hW' hg⟩
theorem over : Rows.opaqueTimeRow.holds Try.pinned (OpenSpec.ofChange Rows.opaqueTimeSpec) :=
  OpenClaim.holds_of_wide 4 Try.f4 rfl rfl rfl rfl rfl rfl rfl ⟨rfl, rfl, rfl, rfl, rfl⟩ rfl rfl rfl rfl rfl (by kernel_rfl) Try.func4 (by kernel_rfl)
    (of_decide_eq_true (by kernel_rfl)) (by unfold Func.isWrapper; first | (rw [if_pos (by decide +kernel)]; kernel_rfl) | (rw [if_neg (by decide +kernel)]; exact ⟨rfl, rfl⟩))
    (fun os started H enc _ => lifted os started H enc)
theorem proved : Rows.OpaqueTimeSaid :=
  over
#print axioms proved
end Go.Proofs.Ytnjcebfbfecdeaa.opaqueTime
