/-
  PickMix holds of every input: mixed picks are what the reference says, and each thread has its turn within twice as many as there are, less one. No condition.
-/
import Derived.Test.YtbfoeinjopgnpaaRows
import Derived.Test.YtbfoeinjopgnpaaRead
import Derived.Test.YtbfoeinjopgnpaaOpen
import Derived.Test.YtbfoeinjopgnpaaLawMix
namespace Go.Proofs.Ytbfoeinjopgnpaa.pickMix
open Go.ChangeShapes Go.WideShapes Go.ChangeAt Go.RowKit
set_option linter.unusedVariables false
theorem own : ownKnob Try.prog.godebug = none := by kernel_rfl
set_option maxRecDepth 100000 in
theorem lifted (os : Os) (started : os.Started) (H : Type) (enc : TypeId × Value → H) :
    ReturnsInHanded {} Try.checked os 5 .any (Rows.pickMixSpec.pre6 enc Try.prog Try.f5 Rows.pickMixRow.domain false) (Rows.pickMixSpec.post enc Try.prog Try.f5 false true false false) := by
  refine returnsInHanded_of_change (C := Try.checked) own started (by kernel_rfl) Try.func5
    (ChangeSpec.witness6 (enc := enc) (C := Try.checked) false ⟨#[], #[.int .u64 0, .int .i64 0, .int .i64 0, .bool false], []⟩ 8 (by kernel_rfl) (by kernel_rfl) (by kernel_rfl) (by kernel_rfl)) ?_
  intro W base args ds gs before hval0 hW hcnd _
  have hval : ∀ (j : Nat) t v, Try.f5.params[j]? = some t → args[j]? = some v → Value.okWide Try.prog W .any base t v := hval0
  have hW' := hW
  obtain ⟨p, q, hA0, hV, rfl, hfz, hnd⟩ := hW
  have hA : DataW.TrodAll enc Try.prog W 0 (fun _ => true) true Try.f5.params.toList args.toList ds p := hA0
  rw [Try.params5] at hA hval
  obtain ⟨v0, vs0, d0, ds0, p0, q0, hargs, rfl, rfl, h0, r0⟩ := trodAll_cons hA
  obtain ⟨v1, vs1, d1, ds1, p1, q1, rfl, rfl, rfl, h1, r1⟩ := trodAll_cons r0
  obtain ⟨v2, vs2, d2, ds2, p2, q2, rfl, rfl, rfl, h2, r2⟩ := trodAll_cons r1
  obtain ⟨v3, vs3, d3, ds3, p3, q3, rfl, rfl, rfl, h3, r3⟩ := trodAll_cons r2
  obtain ⟨rfl, rfl, rfl⟩ := trodAll_nil r3
  obtain rfl : args = #[v0, v1, v2, v3] := by cases args; simp_all
  have g0 := Rd.of_trod h0
  have k0 := hval 0 34 v0 rfl rfl
  have g1 := Rd.of_trod h1
  have k1 := hval 1 3 v1 rfl rfl
  have g2 := Rd.of_trod h2
  have k2 := hval 2 3 v2 rfl rfl
  have g3 := Rd.of_trod h3
  have k3 := hval 3 4 v3 rfl rfl
  obtain ⟨s, rfl, wS⟩ := open_int0 Try.underlying34 k0 g0
  obtain ⟨T, rfl, wT⟩ := open_int0 Try.underlying3 k1 g1
  obtain ⟨m, rfl, wm⟩ := open_int0 Try.underlying3 k2 g2
  obtain ⟨raw, rfl⟩ := open_bool0 Try.underlying4 k3 g3
  refine (law_mix T m s raw W).mono fun e W' ⟨he, hg⟩ => ?_
  subst he
  exact ⟨_, rfl, law_post (bt := 4) laidOutX (by kernel_rfl) rfl rfl Try.underlying4 rfl rfl rfl hW' hg⟩
theorem over : Rows.pickMixRow.holds Try.pinned (OpenSpec.ofChange Rows.pickMixSpec) :=
  OpenClaim.holds_of_wide 5 Try.f5 rfl rfl rfl rfl rfl rfl rfl ⟨rfl, rfl, rfl, rfl, rfl⟩ rfl rfl rfl rfl rfl (by kernel_rfl) Try.func5 (by kernel_rfl)
    (of_decide_eq_true (by kernel_rfl)) (by unfold Func.isWrapper; first | (rw [if_pos (by decide +kernel)]; kernel_rfl) | (rw [if_neg (by decide +kernel)]; exact ⟨rfl, rfl⟩))
    (fun os started H enc _ => lifted os started H enc)
theorem proved : Rows.PickMixSaid :=
  over
#print axioms proved
end Go.Proofs.Ytbfoeinjopgnpaa.pickMix
