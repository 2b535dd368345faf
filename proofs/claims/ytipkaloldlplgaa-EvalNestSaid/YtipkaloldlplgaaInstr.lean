/-
  An instruction near one that may be: some instruction.
-/
import Derived.Test.YtipkaloldlplgaaTold
set_option linter.unusedVariables false
namespace Go.Proofs.Ytipkaloldlplgaa
open Go.RowKit
theorem umod (x m : Int) (hm : 0 < m) (hm' : m ≤ 4611686018427387904) : ∃ k, 0 ≤ k ∧ k < m ∧ wrap64 ((IntKind.u64.wrap x).tmod m) = k ∧ (IntKind.u64.wrap x).tmod m = k := by
  have h0 : IntKind.u64.wrap x = x % 18446744073709551616 := by
    simp [IntKind.wrap, IntKind.bits, IntKind.signed]
  have h1 : 0 ≤ x % 18446744073709551616 := Int.emod_nonneg _ (by omega)
  have h2 : (IntKind.u64.wrap x).tmod m = (x % 18446744073709551616) % m := by rw [h0, Int.tmod_eq_emod_of_nonneg h1]
  have h3 := Int.emod_nonneg (x % 18446744073709551616) (show m ≠ 0 by omega)
  have h4 := Int.emod_lt_of_pos (x % 18446744073709551616) hm
  refine ⟨_, h3, h4, ?_, h2⟩
  rw [h2]
  generalize (x % 18446744073709551616) % m = y at h3 h4 ⊢
  unfold wrap64; omega
def SomeIns (w : World) (e : Ending) (w' : World) : Prop := ∃ p : Ins, e = .returned (.agg #[.int .i64 p.op, .int .i64 p.a, .int .i64 p.b, .int .i64 p.c, .int .i64 p.n]) ∧ Below w.heap.size w w'
theorem someIns_mk {w w' : World} {a b c d n : Int} (h : Below w.heap.size w w') : SomeIns w (.returned (.agg #[.int .i64 a, .int .i64 b, .int .i64 c, .int .i64 d, .int .i64 n])) w' := ⟨⟨a, b, c, d, n⟩, rfl, h⟩
set_option maxRecDepth 100000 in
set_option maxHeartbeats 1600000 in
theorem instr_raw (k0 k1 k2 k3 n : Int) (w : World) : Calls Try.prog 9 #[.agg #[.int .i64 k0, .int .i64 k1, .int .i64 k2, .int .i64 k3], .int .i64 n, .bool true] w (SomeIns w) := by
  go_enter Try.func9, Try.ntmps9
  go_wp2_with fail
  exact bodyPost_ret (v := .agg #[.int .i64 k0, .int .i64 k1, .int .i64 k2, .int .i64 k3, .int .i64 n]) (by simp [results, Try.results9, go_sem]) rfl ⟨⟨k0, k1, k2, k3, n⟩, rfl, by repeat (first | exact Bre _ | assumption | refine Bdrew ?_ | refine Bal ?_ _ | refine Bset ?_ (by simp) _)⟩
set_option maxRecDepth 100000 in
set_option maxHeartbeats 1600000 in
theorem instr_near (k0 k1 k2 k3 n : Int) (w : World) : Calls Try.prog 9 #[.agg #[.int .i64 k0, .int .i64 k1, .int .i64 k2, .int .i64 k3], .int .i64 n, .bool false] w (SomeIns w) := by
  obtain ⟨q0, a0, b0, c0, d0⟩ := umod k0 22 (by omega) (by omega)
  obtain ⟨q1, a1, b1, c1, d1⟩ := umod k1 4 (by omega) (by omega)
  obtain ⟨q2, a2, b2, c2, d2⟩ := umod k2 4 (by omega) (by omega)
  obtain ⟨q3, a3, b3, c3, d3⟩ := umod k3 4 (by omega) (by omega)
  go_enter Try.func9, Try.ntmps9
  go_wp2_with fail
  go_region
  go_wp2_with fail
  all_goals
    have hbel : ∀ W', Below w.heap.size w W' → ∀ a b c d n : Int, SomeIns w (.returned (.agg #[.int .i64 a, .int .i64 b, .int .i64 c, .int .i64 d, .int .i64 n])) W' := fun _ h _ _ _ _ _ => someIns_mk h
    apply bodyPost_ret (v := .agg #[.int .i64 _, .int .i64 _, .int .i64 _, .int .i64 _, .int .i64 _]) _ rfl (hbel _ (by repeat (first | exact Bre _ | assumption | refine Bdrew ?_ | refine Bal ?_ _ | refine Bset ?_ (by simp <;> omega) _)) _ _ _ _ _)
    rotate_left 5
    · simp [results, Try.results9, go_sem]
      exact ⟨rfl, rfl, rfl, rfl, rfl⟩
theorem instr_any (k0 k1 k2 k3 n : Int) (raw : Bool) (w : World) : Calls Try.prog 9 #[.agg #[.int .i64 k0, .int .i64 k1, .int .i64 k2, .int .i64 k3], .int .i64 n, .bool raw] w (SomeIns w) := by
  cases raw
  · exact instr_near k0 k1 k2 k3 n w
  · exact instr_raw k0 k1 k2 k3 n w
theorem may5 (op a b c n : Int) (w : World) : Calls Try.prog 11 #[.agg #[.int .i64 op, .int .i64 a, .int .i64 b, .int .i64 c, .int .i64 n]] w fun e w' => e = .returned (.bool (mayB ⟨op, a, b, c, n⟩)) ∧ Below w.heap.size w w' := may_any ⟨op, a, b, c, n⟩ w
theorem rmay5 (op a b c n : Int) (w : World) : Calls Try.prog 12 #[.agg #[.int .i64 op, .int .i64 a, .int .i64 b, .int .i64 c, .int .i64 n]] w fun e w' => e = .returned (.bool (mayB ⟨op, a, b, c, n⟩)) ∧ Below w.heap.size w w' := rmay_any ⟨op, a, b, c, n⟩ w
end Go.Proofs.Ytipkaloldlplgaa
