/-
  A tally that came in: ten ints.
-/
import Derived.Test.YtpgalfenbhobnaaRead
namespace Go.Proofs.Ytpgalfenbhobnaa
open Go.ChangeShapes Go.WideShapes Go.ChangeAt Go.RowKit
theorem cells3x : Try.prog.cellsOf 3 = 1 := by kernel_rfl
theorem cells27x : Try.prog.cellsOf 27 = 7 := by kernel_rfl
theorem cells29x : Try.prog.cellsOf 29 = 10 := by kernel_rfl
theorem open_tally {w : World} {r : Reach} {b0 : Nat} {v : Value} (hv : Value.okWide Try.prog w r b0 29 v) (h : Rd Try.prog w 29 v.cells.toList) :
    ∃ a b c d e f g h i j : Int, v = .agg #[.int .i64 a, .int .i64 b, .int .i64 c, .int .i64 d, .int .i64 e, .int .i64 f, .int .i64 g, .int .i64 h, .int .i64 i, .int .i64 j] ∧
      (Lit.int .i64 a).wf = true ∧ (Lit.int .i64 c).wf = true ∧ (Lit.int .i64 d).wf = true ∧ (Lit.int .i64 e).wf = true ∧ (Lit.int .i64 f).wf = true ∧ (Lit.int .i64 g).wf = true ∧ (Lit.int .i64 h).wf = true ∧ (Lit.int .i64 i).wf = true ∧ (Lit.int .i64 j).wf = true := by
  obtain ⟨⟨cs⟩, rfl, hsz⟩ := okWide_struct Try.underlying29 hv
  rw [cells29x] at hsz
  simp only [Value.cells] at h
  match cs, hsz with
  | [x0, x1, x2, x3, x4, x5, x6, x7, x8, x9], _ =>
    obtain ⟨_, hf⟩ := h.struct Try.underlying29
    have f0 : Rd Try.prog w 3 [x0] := by simpa [cells3x] using hf 0 _ rfl
    have f1 : Rd Try.prog w 27 [x1, x2, x3, x4, x5, x6, x7] := by simpa [cells27x] using hf 1 _ rfl
    have f2 : Rd Try.prog w 3 [x8] := by simpa [cells3x] using hf 2 _ rfl
    have f3 : Rd Try.prog w 3 [x9] := by simpa [cells3x] using hf 3 _ rfl
    obtain ⟨_, ha⟩ := f1.array Try.underlying27
    have e0 : Rd Try.prog w 3 [x1] := by simpa [cells3x] using ha 0 (by omega)
    have e1 : Rd Try.prog w 3 [x2] := by simpa [cells3x] using ha 1 (by omega)
    have e2 : Rd Try.prog w 3 [x3] := by simpa [cells3x] using ha 2 (by omega)
    have e3 : Rd Try.prog w 3 [x4] := by simpa [cells3x] using ha 3 (by omega)
    have e4 : Rd Try.prog w 3 [x5] := by simpa [cells3x] using ha 4 (by omega)
    have e5 : Rd Try.prog w 3 [x6] := by simpa [cells3x] using ha 5 (by omega)
    have e6 : Rd Try.prog w 3 [x7] := by simpa [cells3x] using ha 6 (by omega)
    obtain ⟨a, ea, wa⟩ := f0.int Try.underlying3
    obtain ⟨b, eb, wb⟩ := e0.int Try.underlying3
    obtain ⟨c, ec, wc⟩ := e1.int Try.underlying3
    obtain ⟨d, ed, wd⟩ := e2.int Try.underlying3
    obtain ⟨e, ee, we⟩ := e3.int Try.underlying3
    obtain ⟨f, ef, wf⟩ := e4.int Try.underlying3
    obtain ⟨g, eg, wg⟩ := e5.int Try.underlying3
    obtain ⟨hh, eh, wh⟩ := e6.int Try.underlying3
    obtain ⟨i, ei, wi⟩ := f2.int Try.underlying3
    obtain ⟨j, ej, wj⟩ := f3.int Try.underlying3
    simp only [List.cons.injEq, and_true] at ea eb ec ed ee ef eg eh ei ej
    subst ea eb ec ed ee ef eg eh ei ej
    exact ⟨a, b, c, d, e, f, g, hh, i, j, rfl, wa, wc, wd, we, wf, wg, wh, wi, wj⟩
theorem open_int0 {w : World} {r : Reach} {b0 t : Nat} {k : IntKind} {v : Value} (ht : Try.prog.underlying t = some (.int k)) (hv : Value.okWide Try.prog w r b0 t v) (h : Rd Try.prog w t v.cells.toList) : ∃ n, v = .int k n ∧ (Lit.int k n).wf = true := by
  obtain ⟨n, hn, hw⟩ := h.int ht
  refine ⟨n, ?_, hw⟩
  simp only [Value.okWide, ht, Cell.okWide] at hv
  cases v <;> simp_all [Cell.ok, Value.cells]
theorem open_bool0 {w : World} {r : Reach} {b0 t : Nat} {v : Value} (ht : Try.prog.underlying t = some .bool) (hv : Value.okWide Try.prog w r b0 t v) (h : Rd Try.prog w t v.cells.toList) : ∃ b, v = .bool b := by
  obtain ⟨n, hn⟩ := h.bool ht
  simp only [Value.okWide, ht, Cell.okWide] at hv
  cases v <;> simp_all [Cell.ok, Value.cells]
theorem open_ints0 {w : World} {r : Reach} {b0 t e : Nat} {k : IntKind} {v : Value} (ht : Try.prog.underlying t = some (.slice e)) (he : Try.prog.underlying e = some (.int k)) (hc : Try.prog.cellsOf e = 1) (hv : Value.okWide Try.prog w r b0 t v) (h : Rd Try.prog w t v.cells.toList) :
    ∃ A n cap, ∃ zs : List Int, v = .slice A n cap ∧ n ≤ cap ∧ cap ≤ maxLen ∧ zs.length = n ∧ (∀ z ∈ zs, (Lit.int k z).wf = true) ∧
      ∀ i, i < n → ∃ b off, A = some ⟨b, off, none⟩ ∧ b < w.heap.size ∧ w.cell? ⟨b, off + i, none⟩ = some (.int k (zs.getD i 0)) := by
  obtain ⟨A, n, cap, zs, h1, h2⟩ := h.ints ht he hc
  obtain ⟨a, l, c, rfl⟩ := okWide_slice ht hv
  simp [Value.cells] at h1
  obtain ⟨rfl, rfl, rfl⟩ := h1
  exact ⟨_, _, _, zs, rfl, h2⟩
end Go.Proofs.Ytpgalfenbhobnaa
