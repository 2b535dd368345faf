/-
  OpaqueAsks holds of every input: which orders may be, in which each reads what it may, and which keep time, is what the reference says. No condition.
-/
import Derived.Test.YtnjcebfbfecdeaaRows
import Derived.Test.YtnjcebfbfecdeaaRead
import Derived.Test.YtnjcebfbfecdeaaOpenT
import Derived.Test.YtnjcebfbfecdeaaLawAsks
namespace Go.Proofs.Ytnjcebfbfecdeaa.opaqueAsks
open Go.ChangeShapes Go.WideShapes Go.ChangeAt Go.RowKit
set_option linter.unusedVariables false
theorem own : ownKnob Try.prog.godebug = none := by kernel_rfl
set_option maxRecDepth 100000 in
theorem lifted (os : Os) (started : os.Started) (H : Type) (enc : TypeId × Value → H) :
    ReturnsInHanded {} Try.checked os 3 .any (Rows.opaqueAsksSpec.pre6 enc Try.prog Try.f3 Rows.opaqueAsksRow.domain false) (Rows.opaqueAsksSpec.post enc Try.prog Try.f3 false true false false) := by
  refine returnsInHanded_of_change (C := Try.checked) own started (by kernel_rfl) Try.func3
    (ChangeSpec.witness6 (enc := enc) (C := Try.checked) false ⟨#[], #[.agg #[.int .i64 0, .int .i64 0, .int .i64 0], .slice none 0 0, .slice none 0 0, .bool false, .bool false, .int .i64 0], []⟩ 8 (by kernel_rfl) (by kernel_rfl) (by kernel_rfl) (by kernel_rfl)) ?_
  intro W base args ds gs before hval0 hW hcnd _
  have hval : ∀ (j : Nat) t v, Try.f3.params[j]? = some t → args[j]? = some v → Value.okWide Try.prog W .any base t v := hval0
  have hW' := hW
  obtain ⟨p, q, hA0, hV, rfl, hfz, hnd⟩ := hW
  have hA : DataW.TrodAll enc Try.prog W 0 (fun _ => true) true Try.f3.params.toList args.toList ds p := hA0
  rw [Try.params3] at hA hval
  obtain ⟨v0, vs0, d0, ds0, p0, q0, hargs, rfl, rfl, h0, r0⟩ := trodAll_cons hA
  obtain ⟨v1, vs1, d1, ds1, p1, q1, rfl, rfl, rfl, h1, r1⟩ := trodAll_cons r0
  obtain ⟨v2, vs2, d2, ds2, p2, q2, rfl, rfl, rfl, h2, r2⟩ := trodAll_cons r1
  obtain ⟨v3, vs3, d3, ds3, p3, q3, rfl, rfl, rfl, h3, r3⟩ := trodAll_cons r2
  obtain ⟨v4, vs4, d4, ds4, p4, q4, rfl, rfl, rfl, h4, r4⟩ := trodAll_cons r3
  obtain ⟨v5, vs5, d5, ds5, p5, q5, rfl, rfl, rfl, h5, r5⟩ := trodAll_cons r4
  obtain ⟨rfl, rfl, rfl⟩ := trodAll_nil r5
  obtain rfl : args = #[v0, v1, v2, v3, v4, v5] := by cases args; simp_all
  have g0 := Rd.of_trod h0
  have k0 := hval 0 22 v0 rfl rfl
  have g1 := Rd.of_trod h1
  have k1 := hval 1 23 v1 rfl rfl
  have g2 := Rd.of_trod h2
  have k2 := hval 2 24 v2 rfl rfl
  have g3 := Rd.of_trod h3
  have k3 := hval 3 4 v3 rfl rfl
  have g4 := Rd.of_trod h4
  have k4 := hval 4 4 v4 rfl rfl
  have g5 := Rd.of_trod h5
  have k5 := hval 5 3 v5 rfl rfl
  obtain ⟨s0, s1, s2, rfl, ws0, ws1, ws2⟩ := open_arr3 k0 g0
  obtain ⟨n, ms, hn, hu⟩ := open_trys k1 g1
  obtain ⟨xs, hx, _⟩ := open_intsAt k2 g2
  obtain ⟨right, rfl⟩ := open_bool0 Try.underlying4 k3 g3
  obtain ⟨raw, rfl⟩ := open_bool0 Try.underlying4 k4 g4
  obtain ⟨sv, rfl, ww⟩ := open_int0 Try.underlying3 k5 g5
  refine (law_asks s0 s1 s2 v1 n ms v2 xs right raw sv W hu hx).mono fun e W' ⟨he, hg⟩ => ?_
  subst he
  exact ⟨_, rfl, law_post (bt := 4) laidOutX (by kernel_rfl) rfl rfl Try.underlying4 rfl rfl rfl hW' hg⟩
theorem over : Rows.opaqueAsksRow.holds Try.pinned (OpenSpec.ofChange Rows.opaqueAsksSpec) :=
  OpenClaim.holds_of_wide 3 Try.f3 rfl rfl rfl rfl rfl rfl rfl ⟨rfl, rfl, rfl, rfl, rfl⟩ rfl rfl rfl rfl rfl (by kernel_rfl) Try.func3 (by kernel_rfl)
    (of_decide_eq_true (by kernel_rfl)) (by unfold Func.isWrapper; first | (rw [if_pos (by decide +kernel)]; kernel_rfl) | (rw [if_neg (by decide +kernel)]; exact ⟨rfl, rfl⟩))
    (fun os started H enc _ => lifted os started H enc)
theorem proved : Rows.OpaqueAsksSaid :=
  over
#print axioms proved
end Go.Proofs.Ytnjcebfbfecdeaa.opaqueAsks
