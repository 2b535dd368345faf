/-
  OpaqueSerial holds of every input: attempts that were done one behind the other are as they may be in that order, and then there is one. No condition.
-/
import Derived.Test.YtnjcebfbfecdeaaRows
import Derived.Test.YtnjcebfbfecdeaaRead
import Derived.Test.YtnjcebfbfecdeaaOpenT
import Derived.Test.YtnjcebfbfecdeaaLawSerial
namespace Go.Proofs.Ytnjcebfbfecdeaa.opaqueSerial
open Go.ChangeShapes Go.WideShapes Go.ChangeAt Go.RowKit
set_option linter.unusedVariables false
theorem own : ownKnob Try.prog.godebug = none := by kernel_rfl
set_option maxRecDepth 100000 in
theorem lifted (os : Os) (started : os.Started) (H : Type) (enc : TypeId × Value → H) :
    ReturnsInHanded {} Try.checked os 6 .any (Rows.opaqueSerialSpec.pre6 enc Try.prog Try.f6 Rows.opaqueSerialRow.domain false) (Rows.opaqueSerialSpec.post enc Try.prog Try.f6 false true false false) := by
  refine returnsInHanded_of_change (C := Try.checked) own started (by kernel_rfl) Try.func6
    (ChangeSpec.witness6 (enc := enc) (C := Try.checked) false ⟨#[], #[.agg #[.int .i64 0, .int .i64 0, .int .i64 0], .slice none 0 0], []⟩ 8 (by kernel_rfl) (by kernel_rfl) (by kernel_rfl) (by kernel_rfl)) ?_
  intro W base args ds gs before hval0 hW hcnd _
  have hval : ∀ (j : Nat) t v, Try.f6.params[j]? = some t → args[j]? = some v → Value.okWide Try.prog W .any base t v := hval0
  have hW' := hW
  obtain ⟨p, q, hA0, hV, rfl, hfz, hnd⟩ := hW
  have hA : DataW.TrodAll enc Try.prog W 0 (fun _ => true) true Try.f6.params.toList args.toList ds p := hA0
  rw [Try.params6] at hA hval
  obtain ⟨v0, vs0, d0, ds0, p0, q0, hargs, rfl, rfl, h0, r0⟩ := trodAll_cons hA
  obtain ⟨v1, vs1, d1, ds1, p1, q1, rfl, rfl, rfl, h1, r1⟩ := trodAll_cons r0
  obtain ⟨rfl, rfl, rfl⟩ := trodAll_nil r1
  obtain rfl : args = #[v0, v1] := by cases args; simp_all
  have g0 := Rd.of_trod h0
  have k0 := hval 0 22 v0 rfl rfl
  have g1 := Rd.of_trod h1
  have k1 := hval 1 23 v1 rfl rfl
  obtain ⟨s0, s1, s2, rfl, ws0, ws1, ws2⟩ := open_arr3 k0 g0
  obtain ⟨n, ms, hn, hu⟩ := open_trys k1 g1
  refine (law_serial s0 s1 s2 v1 n ms W hu).mono fun e W' ⟨he, hg⟩ => ?_
  subst he
  exact ⟨_, rfl, law_post (bt := 4) laidOutX (by kernel_rfl) rfl rfl Try.underlying4 rfl rfl rfl hW' hg⟩
theorem over : Rows.opaqueSerialRow.holds Try.pinned (OpenSpec.ofChange Rows.opaqueSerialSpec) :=
  OpenClaim.holds_of_wide 6 Try.f6 rfl rfl rfl rfl rfl rfl rfl ⟨rfl, rfl, rfl, rfl, rfl⟩ rfl rfl rfl rfl rfl (by kernel_rfl) Try.func6 (by kernel_rfl)
    (of_decide_eq_true (by kernel_rfl)) (by unfold Func.isWrapper; first | (rw [if_pos (by decide +kernel)]; kernel_rfl) | (rw [if_neg (by decide +kernel)]; exact ⟨rfl, rfl⟩))
    (fun os started H enc _ => lifted os started H enc)
theorem proved : Rows.OpaqueSerialSaid :=
  over
#print axioms proved
end Go.Proofs.Ytnjcebfbfecdeaa.opaqueSerial
