/-
  Arguments that came in: four ints at a time.
-/
import Derived.Test.YtipkaloldlplgaaOpen
namespace Go.Proofs.Ytipkaloldlplgaa
open Go.ChangeShapes Go.WideShapes Go.ChangeAt Go.RowKit
theorem open_arr4 {w : World} {r : Reach} {b0 t e : Nat} {v : Value} (ht : Try.prog.underlying t = some (.array 4 e)) (he : Try.prog.underlying e = some (.int .i64)) (hc : Try.prog.cellsOf t = 4) (hc1 : Try.prog.cellsOf e = 1)
    (hv : Value.okWide Try.prog w r b0 t v) (h : Rd Try.prog w t v.cells.toList) : ∃ a b c d : Int, v = .agg #[.int .i64 a, .int .i64 b, .int .i64 c, .int .i64 d] ∧ (Lit.int .i64 a).wf = true ∧ (Lit.int .i64 b).wf = true ∧ (Lit.int .i64 c).wf = true ∧ (Lit.int .i64 d).wf = true := by
  obtain ⟨⟨cs⟩, rfl, hsz⟩ : ∃ cs, v = .agg cs ∧ cs.size = 4 := by
    simp only [Value.okWide, ht] at hv
    cases v <;> simp_all
  simp only [Value.cells] at h
  match cs, hsz with
  | [x0, x1, x2, x3], _ =>
    obtain ⟨_, ha⟩ := h.array ht
    have e0 : Rd Try.prog w e [x0] := by simpa [hc1] using ha 0 (by omega)
    have e1 : Rd Try.prog w e [x1] := by simpa [hc1] using ha 1 (by omega)
    have e2 : Rd Try.prog w e [x2] := by simpa [hc1] using ha 2 (by omega)
    have e3 : Rd Try.prog w e [x3] := by simpa [hc1] using ha 3 (by omega)
    obtain ⟨a, ea, wa⟩ := e0.int he
    obtain ⟨b, eb, wb⟩ := e1.int he
    obtain ⟨c, ec, wc⟩ := e2.int he
    obtain ⟨d, ed, wd⟩ := e3.int he
    simp only [List.cons.injEq, and_true] at ea eb ec ed
    subst ea eb ec ed
    exact ⟨a, b, c, d, rfl, wa, wb, wc, wd⟩
end Go.Proofs.Ytipkaloldlplgaa
