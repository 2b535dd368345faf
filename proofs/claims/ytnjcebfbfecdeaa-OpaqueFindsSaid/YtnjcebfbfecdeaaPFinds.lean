/-
  OpaqueFinds holds of every input: the first order in which all is as it may be, or that there is none, is what the reference says. No condition.
-/
import Derived.Test.YtnjcebfbfecdeaaRows
import Derived.Test.YtnjcebfbfecdeaaRead
import Derived.Test.YtnjcebfbfecdeaaOpenT
import Derived.Test.YtnjcebfbfecdeaaLawFinds
namespace Go.Proofs.Ytnjcebfbfecdeaa.opaqueFinds
open Go.ChangeShapes Go.WideShapes Go.ChangeAt Go.RowKit
set_option linter.unusedVariables false
theorem own : ownKnob Try.prog.godebug = none := by kernel_rfl
set_option maxRecDepth 100000 in
theorem lifted (os : Os) (started : os.Started) (H : Type) (enc : TypeId × Value → H) :
    ReturnsInHanded {} Try.checked os 5 .any (Rows.opaqueFindsSpec.pre6 enc Try.prog Try.f5 Rows.opaqueFindsRow.domain false) (Rows.opaqueFindsSpec.post enc Try.prog Try.f5 false true false false) := by
  refine returnsInHanded_of_change (C := Try.checked) own started (by kernel_rfl) Try.func5
    (ChangeSpec.witness6 (enc := enc) (C := Try.checked) false ⟨#[], #[.agg #[.int .i64 0, .int .i64 0, .int .i64 0], .slice none 0 0, .bool false], []⟩ 8 (by kernel_rfl) (by kernel_rfl) (by kernel_rfl) (by kernel_rfl)) ?_
  intro W base args ds gs before hval0 hW hcnd _
  have hval : ∀ (j : Nat) t v, Try.f5.params[j]? = some t → args[j]? = some v → Value.okWide Try.prog W .any base t v := hval0
  have hW' := hW
  obtain ⟨p, q, hA0, hV, rfl, hfz, hnd⟩ := hW
  have hA : DataW.TrodAll enc Try.prog W 0 (fun _ => true) true Try.f5.params.toList args.toList ds p := hA0
  rw [Try.params5] at hA hval
  obtain ⟨v0, vs0, d0, ds0, p0, q0, hargs, rfl, rfl, h0, r0⟩ := trodAll_cons hA
  obtain ⟨v1, vs1, d1, ds1, p1, q1, rfl, rfl, rfl, h1, r1⟩ := trodAll_cons r0
  obtain ⟨v2, vs2, d2, ds2, p2, q2, rfl, rfl, rfl, h2, r2⟩ := trodAll_cons r1
  obtain ⟨rfl, rfl, rfl⟩ := trodAll_nil r2
  obtain rfl : args = #[v0, v1, v2] := by cases args; simp_all
  have g0 := Rd.of_trod h0
  have k0 := hval 0 22 v0 rfl rfl
  have g1 := Rd.of_trod h1
  have k1 := hval 1 23 v1 rfl rfl
  have g2 := Rd.of_trod h2
  have k2 := hval 2 4 v2 rfl rfl
  obtain ⟨s0, s1, s2, rfl, ws0, ws1, ws2⟩ := open_arr3 k0 g0
  obtain ⟨n, ms, hn, hu⟩ := open_trys k1 g1
  obtain ⟨right, rfl⟩ := open_bool0 Try.underlying4 k2 g2
  refine (law_finds s0 s1 s2 v1 n ms right W hu).mono fun e W' ⟨he, hg⟩ => ?_
  subst he
  exact ⟨_, rfl, law_post (bt := 4) laidOutX (by kernel_rfl) rfl rfl Try.underlying4 rfl rfl rfl hW' hg⟩
theorem over : Rows.opaqueFindsRow.holds Try.pinned (OpenSpec.ofChange Rows.opaqueFindsSpec) :=
  OpenClaim.holds_of_wide 5 Try.f5 rfl rfl rfl rfl rfl rfl rfl ⟨rfl, rfl, rfl, rfl, rfl⟩ rfl rfl rfl rfl rfl (by kernel_rfl) Try.func5 (by kernel_rfl)
    (of_decide_eq_true (by kernel_rfl)) (by unfold Func.isWrapper; first | (rw [if_pos (by decide +kernel)]; kernel_rfl) | (rw [if_neg (by decide +kernel)]; exact ⟨rfl, rfl⟩))
    (fun os started H enc _ => lifted os started H enc)
theorem proved : Rows.OpaqueFindsSaid :=
  over
#print axioms proved
end Go.Proofs.Ytnjcebfbfecdeaa.opaqueFinds
