/-
  Arguments that came in: ints, bools, slices of ints.
-/
import Derived.Test.YtnjcebfbfecdeaaRead
namespace Go.Proofs.Ytnjcebfbfecdeaa
open Go.ChangeShapes Go.WideShapes Go.ChangeAt Go.RowKit
theorem open_int0 {w : World} {r : Reach} {b0 t : Nat} {k : IntKind} {v : Value} (ht : Try.prog.underlying t = some (.int k)) (hv : Value.okWide Try.prog w r b0 t v) (h : Rd Try.prog w t v.cells.toList) : ∃ n, v = .int k n ∧ (Lit.int k n).wf = true := by
  obtain ⟨n, hn, hw⟩ := h.int ht
  refine ⟨n, ?_, hw⟩
  simp only [Value.okWide, ht, Cell.okWide] at hv
  cases v <;> simp_all [Cell.ok, Value.cells]
theorem open_bool0 {w : World} {r : Reach} {b0 t : Nat} {v : Value} (ht : Try.prog.underlying t = some .bool) (hv : Value.okWide Try.prog w r b0 t v) (h : Rd Try.prog w t v.cells.toList) : ∃ b, v = .bool b := by
  obtain ⟨n, hn⟩ := h.bool ht
  simp only [Value.okWide, ht, Cell.okWide] at hv
  cases v <;> simp_all [Cell.ok, Value.cells]
theorem open_ints0 {w : World} {r : Reach} {b0 t e : Nat} {k : IntKind} {v : Value} (ht : Try.prog.underlying t = some (.slice e)) (he : Try.prog.underlying e = some (.int k)) (hc : Try.prog.cellsOf e = 1) (hv : Value.okWide Try.prog w r b0 t v) (h : Rd Try.prog w t v.cells.toList) :
    ∃ A n cap, ∃ zs : List Int, v = .slice A n cap ∧ n ≤ cap ∧ cap ≤ maxLen ∧ zs.length = n ∧ (∀ z ∈ zs, (Lit.int k z).wf = true) ∧
      ∀ i, i < n → ∃ b off, A = some ⟨b, off, none⟩ ∧ b < w.heap.size ∧ w.cell? ⟨b, off + i, none⟩ = some (.int k (zs.getD i 0)) := by
  obtain ⟨A, n, cap, zs, h1, h2⟩ := h.ints ht he hc
  obtain ⟨a, l, c, rfl⟩ := okWide_slice ht hv
  simp [Value.cells] at h1
  obtain ⟨rfl, rfl, rfl⟩ := h1
  exact ⟨_, _, _, zs, rfl, h2⟩
end Go.Proofs.Ytnjcebfbfecdeaa
