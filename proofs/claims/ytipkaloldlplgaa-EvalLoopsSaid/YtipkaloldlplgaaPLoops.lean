/-
  EvalLoops holds of every input: a loop that counts down ends behind as many rounds as it is told, and no register is turned but its own. No condition.
-/
import Derived.Test.YtipkaloldlplgaaRows
import Derived.Test.YtipkaloldlplgaaRead
import Derived.Test.YtipkaloldlplgaaOpenA
import Derived.Test.YtipkaloldlplgaaLawLoops
namespace Go.Proofs.Ytipkaloldlplgaa.evalLoops
open Go.ChangeShapes Go.WideShapes Go.ChangeAt Go.RowKit
set_option linter.unusedVariables false
theorem own : ownKnob Try.prog.godebug = none := by kernel_rfl
set_option maxRecDepth 100000 in
theorem lifted (os : Os) (started : os.Started) (H : Type) (enc : TypeId × Value → H) :
    ReturnsInHanded {} Try.checked os 7 .any (Rows.evalLoopsSpec.pre6 enc Try.prog Try.f7 Rows.evalLoopsRow.domain false) (Rows.evalLoopsSpec.post enc Try.prog Try.f7 false true false false) := by
  refine returnsInHanded_of_change (C := Try.checked) own started (by kernel_rfl) Try.func7
    (ChangeSpec.witness6 (enc := enc) (C := Try.checked) false ⟨#[], #[.int .i64 0, .int .i64 0, .int .i64 0], []⟩ 8 (by kernel_rfl) (by kernel_rfl) (by kernel_rfl) (by kernel_rfl)) ?_
  intro W base args ds gs before hval0 hW hcnd _
  have hval : ∀ (j : Nat) t v, Try.f7.params[j]? = some t → args[j]? = some v → Value.okWide Try.prog W .any base t v := hval0
  have hW' := hW
  obtain ⟨p, q, hA0, hV, rfl, hfz, hnd⟩ := hW
  have hA : DataW.TrodAll enc Try.prog W 0 (fun _ => true) true Try.f7.params.toList args.toList ds p := hA0
  rw [Try.params7] at hA hval
  obtain ⟨v0, vs0, d0, ds0, p0, q0, hargs, rfl, rfl, h0, r0⟩ := trodAll_cons hA
  obtain ⟨v1, vs1, d1, ds1, p1, q1, rfl, rfl, rfl, h1, r1⟩ := trodAll_cons r0
  obtain ⟨v2, vs2, d2, ds2, p2, q2, rfl, rfl, rfl, h2, r2⟩ := trodAll_cons r1
  obtain ⟨rfl, rfl, rfl⟩ := trodAll_nil r2
  obtain rfl : args = #[v0, v1, v2] := by cases args; simp_all
  have g0 := Rd.of_trod h0
  have k0 := hval 0 3 v0 rfl rfl
  have g1 := Rd.of_trod h1
  have k1 := hval 1 2 v1 rfl rfl
  have g2 := Rd.of_trod h2
  have k2 := hval 2 2 v2 rfl rfl
  obtain ⟨n, rfl, wn⟩ := open_int0 Try.underlying3 k0 g0
  obtain ⟨x, rfl, wx⟩ := open_int0 Try.underlying2 k1 g1
  obtain ⟨y, rfl, wy⟩ := open_int0 Try.underlying2 k2 g2
  refine (law_loops n x y W (wf64 wy)).mono fun e W' ⟨he, hg⟩ => ?_
  subst he
  exact ⟨_, rfl, law_post (bt := 4) laidOutX (by kernel_rfl) rfl rfl Try.underlying4 rfl rfl rfl hW' hg⟩
theorem over : Rows.evalLoopsRow.holds Try.pinned (OpenSpec.ofChange Rows.evalLoopsSpec) :=
  OpenClaim.holds_of_wide 7 Try.f7 rfl rfl rfl rfl rfl rfl rfl ⟨rfl, rfl, rfl, rfl, rfl⟩ rfl rfl rfl rfl rfl (by kernel_rfl) Try.func7 (by kernel_rfl)
    (of_decide_eq_true (by kernel_rfl)) (by unfold Func.isWrapper; first | (rw [if_pos (by decide +kernel)]; kernel_rfl) | (rw [if_neg (by decide +kernel)]; exact ⟨rfl, rfl⟩))
    (fun os started H enc _ => lifted os started H enc)
theorem proved : Rows.EvalLoopsSaid :=
  over
#print axioms proved
end Go.Proofs.Ytipkaloldlplgaa.evalLoops
