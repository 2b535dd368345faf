/-
  EvalMates holds of every input: which blocks belong together, and what is the first that fits none, is what the reference says. No condition.
-/
import Derived.Test.YtipkaloldlplgaaRows
import Derived.Test.YtipkaloldlplgaaRead
import Derived.Test.YtipkaloldlplgaaOpen
import Derived.Test.YtipkaloldlplgaaLawMates
namespace Go.Proofs.Ytipkaloldlplgaa.evalMates
open Go.ChangeShapes Go.WideShapes Go.ChangeAt Go.RowKit
set_option linter.unusedVariables false
theorem own : ownKnob Try.prog.godebug = none := by kernel_rfl
set_option maxRecDepth 100000 in
theorem lifted (os : Os) (started : os.Started) (H : Type) (enc : TypeId × Value → H) :
    ReturnsInHanded {} Try.checked os 4 .any (Rows.evalMatesSpec.pre6 enc Try.prog Try.f4 Rows.evalMatesRow.domain false) (Rows.evalMatesSpec.post enc Try.prog Try.f4 false true false false) := by
  refine returnsInHanded_of_change (C := Try.checked) own started (by kernel_rfl) Try.func4
    (ChangeSpec.witness6 (enc := enc) (C := Try.checked) false ⟨#[], #[.slice none 0 0], []⟩ 8 (by kernel_rfl) (by kernel_rfl) (by kernel_rfl) (by kernel_rfl)) ?_
  intro W base args ds gs before hval0 hW hcnd _
  have hval : ∀ (j : Nat) t v, Try.f4.params[j]? = some t → args[j]? = some v → Value.okWide Try.prog W .any base t v := hval0
  have hW' := hW
  obtain ⟨p, q, hA0, hV, rfl, hfz, hnd⟩ := hW
  have hA : DataW.TrodAll enc Try.prog W 0 (fun _ => true) true Try.f4.params.toList args.toList ds p := hA0
  rw [Try.params4] at hA hval
  obtain ⟨v0, vs0, d0, ds0, p0, q0, hargs, rfl, rfl, h0, r0⟩ := trodAll_cons hA
  obtain ⟨rfl, rfl, rfl⟩ := trodAll_nil r0
  obtain rfl : args = #[v0] := by cases args; simp_all
  have g0 := Rd.of_trod h0
  have k0 := hval 0 31 v0 rfl rfl
  obtain ⟨A, n, cap, zs, rfl, hn1, hn2, hzl, hwz, hcl⟩ := open_ints0 Try.underlying31 Try.underlying3 (show Try.prog.cellsOf 3 = 1 by kernel_rfl) k0 g0
  refine (law_mates A n cap zs W hzl hcl).mono fun e W' ⟨he, hg⟩ => ?_
  subst he
  exact ⟨_, rfl, law_post (bt := 4) laidOutX (by kernel_rfl) rfl rfl Try.underlying4 rfl rfl rfl hW' hg⟩
theorem over : Rows.evalMatesRow.holds Try.pinned (OpenSpec.ofChange Rows.evalMatesSpec) :=
  OpenClaim.holds_of_wide 4 Try.f4 rfl rfl rfl rfl rfl rfl rfl ⟨rfl, rfl, rfl, rfl, rfl⟩ rfl rfl rfl rfl rfl (by kernel_rfl) Try.func4 (by kernel_rfl)
    (of_decide_eq_true (by kernel_rfl)) (by unfold Func.isWrapper; first | (rw [if_pos (by decide +kernel)]; kernel_rfl) | (rw [if_neg (by decide +kernel)]; exact ⟨rfl, rfl⟩))
    (fun os started H enc _ => lifted os started H enc)
theorem proved : Rows.EvalMatesSaid :=
  over
#print axioms proved
end Go.Proofs.Ytipkaloldlplgaa.evalMates
