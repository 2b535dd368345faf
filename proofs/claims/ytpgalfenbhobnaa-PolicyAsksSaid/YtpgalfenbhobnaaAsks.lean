/-
  PolicyAsks holds of every input: what an abort makes of a tally, how long one waits, what an end makes, is what the reference says. No condition.
-/
import Derived.Test.YtpgalfenbhobnaaRows
import Derived.Test.YtpgalfenbhobnaaRead
import Derived.Test.YtpgalfenbhobnaaOpen
import Derived.Test.YtpgalfenbhobnaaWalkD
namespace Go.Proofs.Ytpgalfenbhobnaa.policyAsks
open Go.ChangeShapes Go.WideShapes Go.ChangeAt Go.RowKit
set_option linter.unusedVariables false
theorem own : ownKnob Try.prog.godebug = none := by kernel_rfl
set_option maxRecDepth 100000 in
theorem lifted (os : Os) (started : os.Started) (H : Type) (enc : TypeId × Value → H) :
    ReturnsInHanded {} Try.checked os 4 .any (Rows.policyAsksSpec.pre6 enc Try.prog Try.f4 Rows.policyAsksRow.domain false) (Rows.policyAsksSpec.post enc Try.prog Try.f4 false true false false) := by
  refine returnsInHanded_of_change (C := Try.checked) own started (by kernel_rfl) Try.func4
    (ChangeSpec.witness6 (enc := enc) (C := Try.checked) false ⟨#[], #[.agg #[.int .i64 0, .int .i64 0, .int .i64 0, .int .i64 0, .int .i64 0, .int .i64 0, .int .i64 0, .int .i64 0, .int .i64 0, .int .i64 0], .int .i64 0, .bool false, .int .i64 0, .int .i64 0, .bool false], []⟩ 8 (by kernel_rfl) (by kernel_rfl) (by kernel_rfl) (by kernel_rfl)) ?_
  intro W base args ds gs before hval0 hW hcnd _
  have hval : ∀ (j : Nat) t v, Try.f4.params[j]? = some t → args[j]? = some v → Value.okWide Try.prog W .any base t v := hval0
  have hW' := hW
  obtain ⟨p, q, hA0, hV, rfl, hfz, hnd⟩ := hW
  have hA : DataW.TrodAll enc Try.prog W 0 (fun _ => true) true Try.f4.params.toList args.toList ds p := hA0
  rw [Try.params4] at hA hval
  obtain ⟨v0, vs0, d0, ds0, p0, q0, hargs, rfl, rfl, h0, r0⟩ := trodAll_cons hA
  obtain ⟨v1, vs1, d1, ds1, p1, q1, rfl, rfl, rfl, h1, r1⟩ := trodAll_cons r0
  obtain ⟨v2, vs2, d2, ds2, p2, q2, rfl, rfl, rfl, h2, r2⟩ := trodAll_cons r1
  obtain ⟨v3, vs3, d3, ds3, p3, q3, rfl, rfl, rfl, h3, r3⟩ := trodAll_cons r2
  obtain ⟨v4, vs4, d4, ds4, p4, q4, rfl, rfl, rfl, h4, r4⟩ := trodAll_cons r3
  obtain ⟨v5, vs5, d5, ds5, p5, q5, rfl, rfl, rfl, h5, r5⟩ := trodAll_cons r4
  obtain ⟨rfl, rfl, rfl⟩ := trodAll_nil r5
  obtain rfl : args = #[v0, v1, v2, v3, v4, v5] := by cases args; simp_all
  have g0 := Rd.of_trod h0
  have k0 := hval 0 29 v0 rfl rfl
  have g1 := Rd.of_trod h1
  have k1 := hval 1 3 v1 rfl rfl
  have g2 := Rd.of_trod h2
  have k2 := hval 2 4 v2 rfl rfl
  have g3 := Rd.of_trod h3
  have k3 := hval 3 3 v3 rfl rfl
  have g4 := Rd.of_trod h4
  have k4 := hval 4 3 v4 rfl rfl
  have g5 := Rd.of_trod h5
  have k5 := hval 5 4 v5 rfl rfl
  obtain ⟨a, b, c, d, e, f, g, h, i, j, rfl, wa, wc, wd, we, wf, wg, wh, wi, wj⟩ := open_tally k0 g0
  obtain ⟨cause, rfl, wcause⟩ := open_int0 Try.underlying3 k1 g1
  obtain ⟨near, rfl⟩ := open_bool0 Try.underlying4 k2 g2
  obtain ⟨retry, rfl, wre⟩ := open_int0 Try.underlying3 k3 g3
  obtain ⟨draw, rfl, wdr⟩ := open_int0 Try.underlying3 k4 g4
  obtain ⟨real, rfl⟩ := open_bool0 Try.underlying4 k5 g5
  refine (asks_any a b c d e f g h i j cause retry draw near real W (wf64 wa) (wf64 wc) (wf64 wd) (wf64 we) (wf64 wf) (wf64 wg) (wf64 wh) (wf64 wi) (wf64 wj) (wf64 wdr)).mono fun e W' ⟨he, hg⟩ => ?_
  subst he
  exact ⟨_, rfl, law_post (bt := 4) laidOutX (by kernel_rfl) rfl rfl Try.underlying4 rfl rfl rfl hW' hg⟩
theorem over : Rows.policyAsksRow.holds Try.pinned (OpenSpec.ofChange Rows.policyAsksSpec) :=
  OpenClaim.holds_of_wide 4 Try.f4 rfl rfl rfl rfl rfl rfl rfl ⟨rfl, rfl, rfl, rfl, rfl⟩ rfl rfl rfl rfl rfl (by kernel_rfl) Try.func4 (by kernel_rfl)
    (of_decide_eq_true (by kernel_rfl)) (by unfold Func.isWrapper; first | (rw [if_pos (by decide +kernel)]; kernel_rfl) | (rw [if_neg (by decide +kernel)]; exact ⟨rfl, rfl⟩))
    (fun os started H enc _ => lifted os started H enc)
theorem proved : Rows.PolicyAsksSaid :=
  over
#print axioms proved
end Go.Proofs.Ytpgalfenbhobnaa.policyAsks
