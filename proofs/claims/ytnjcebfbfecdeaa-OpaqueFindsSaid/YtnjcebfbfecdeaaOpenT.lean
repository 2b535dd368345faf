/-
  Arguments that came in: tries, as a row and two at a time; three words.
-/
import Derived.Test.YtnjcebfbfecdeaaOpen
import Derived.Test.YtnjcebfbfecdeaaOuts
set_option linter.unusedVariables false
namespace Go.Proofs.Ytnjcebfbfecdeaa
open Go.ChangeShapes Go.WideShapes Go.ChangeAt Go.RowKit
theorem cells3 : Try.prog.cellsOf 3 = 1 := by kernel_rfl
theorem cells2 : Try.prog.cellsOf 2 = 1 := by kernel_rfl
theorem cells4 : Try.prog.cellsOf 4 = 1 := by kernel_rfl
theorem cells38 : Try.prog.cellsOf 38 = 1 := by kernel_rfl
theorem cells54 : Try.prog.cellsOf 54 = 3 := by kernel_rfl
theorem cells40 : Try.prog.cellsOf 40 = 6 := by kernel_rfl
theorem cells22 : Try.prog.cellsOf 22 = 3 := by kernel_rfl
theorem cells41 : Try.prog.cellsOf 41 = 12 := by kernel_rfl
theorem rd_op {w : World} {ecs : List Value} (h : Rd Try.prog w 54 ecs) : ∃ kd pl val, ecs = [.int .i64 kd, .int .i64 pl, .int .i64 val] ∧ wf64 kd ∧ wf64 pl ∧ wf64 val := by
  obtain ⟨hl, hf⟩ := h.struct Try.underlying54
  rw [cells54] at hl
  match ecs, hl with
  | [x0, x1, x2], _ =>
    have e0 : Rd Try.prog w 3 [x0] := by simpa [cells3] using hf 0 _ rfl
    have e1 : Rd Try.prog w 3 [x1] := by simpa [cells3] using hf 1 _ rfl
    have e2 : Rd Try.prog w 2 [x2] := by simpa [cells2] using hf 2 _ rfl
    obtain ⟨a, ea, wa⟩ := e0.int Try.underlying3
    obtain ⟨b, eb, wb⟩ := e1.int Try.underlying3
    obtain ⟨c, ec, wc⟩ := e2.int Try.underlying2
    simp only [List.cons.injEq, and_true] at ea eb ec
    subst ea eb ec
    exact ⟨a, b, c, rfl, wa, wb, wc⟩
theorem rd_ops {w : World} {cs : List Value} (h : Rd Try.prog w 38 cs) : ∃ v n, cs = [v] ∧ OpsAt w v n := by
  obtain ⟨A, n, cap, rfl, hn, _, hx⟩ := h.slice_at Try.underlying38 (by rw [cells54]; decide)
  refine ⟨_, n, rfl, A, cap, rfl, hn, fun i hi => ?_⟩
  obtain ⟨b, off, ecs, rfl, hb, _, hr, hc⟩ := hx i hi
  obtain ⟨kd, pl, val, rfl, w1, w2, w3⟩ := rd_op hr
  rw [cells54] at hc
  refine ⟨b, off, kd, pl, val, rfl, hb, w1, w2, w3, ?_, ?_, ?_⟩
  · have := hc 0 (by omega); simpa using this
  · have := hc 1 (by omega); simpa [Nat.add_assoc] using this
  · have := hc 2 (by omega); simpa [Nat.add_assoc] using this
theorem rd_try {w : World} {ecs : List Value} (h : Rd Try.prog w 40 ecs) : ∃ th fr lg en real ops m, ecs = [.int .i64 th, .int .i64 fr, .int .i64 lg, .int .i64 en, .bool real, ops] ∧ wf64 th ∧ wf64 fr ∧ wf64 lg ∧ wf64 en ∧ OpsAt w ops m := by
  obtain ⟨hl, hf⟩ := h.struct Try.underlying40
  rw [cells40] at hl
  match ecs, hl with
  | [x0, x1, x2, x3, x4, x5], _ =>
    have e0 : Rd Try.prog w 3 [x0] := by simpa [cells3] using hf 0 _ rfl
    have e1 : Rd Try.prog w 3 [x1] := by simpa [cells3] using hf 1 _ rfl
    have e2 : Rd Try.prog w 3 [x2] := by simpa [cells3] using hf 2 _ rfl
    have e3 : Rd Try.prog w 3 [x3] := by simpa [cells3] using hf 3 _ rfl
    have e4 : Rd Try.prog w 4 [x4] := by simpa [cells4] using hf 4 _ rfl
    have e5 : Rd Try.prog w 38 [x5] := by simpa [cells38] using hf 5 _ rfl
    obtain ⟨a, ea, wa⟩ := e0.int Try.underlying3
    obtain ⟨b, eb, wb⟩ := e1.int Try.underlying3
    obtain ⟨c, ec, wc⟩ := e2.int Try.underlying3
    obtain ⟨d, ed, wd⟩ := e3.int Try.underlying3
    obtain ⟨r, er⟩ := e4.bool Try.underlying4
    obtain ⟨v, m, ev, hm⟩ := rd_ops e5
    simp only [List.cons.injEq, and_true] at ea eb ec ed er ev
    subst ea eb ec ed er ev
    exact ⟨a, b, c, d, r, x5, m, rfl, wa, wb, wc, wd, hm⟩
theorem open_trys {w : World} {r : Reach} {b0 : Nat} {v : Value} (hv : Value.okWide Try.prog w r b0 23 v) (h : Rd Try.prog w 23 v.cells.toList) : ∃ n ms, n ≤ maxLen ∧ TrysAt w v n ms := by
  obtain ⟨A, n, cap, h1, hn, hm, hx⟩ := h.slice_at Try.underlying23 (by rw [cells40]; decide)
  obtain ⟨a, l, c, rfl⟩ := okWide_slice Try.underlying23 hv
  simp [Value.cells] at h1
  obtain ⟨rfl, rfl, rfl⟩ := h1
  have hy : ∀ i, i < l → ∃ m, ∃ b off th fr lg en real ops, a = some ⟨b, off, none⟩ ∧ b < w.heap.size ∧ wf64 th ∧ wf64 fr ∧ wf64 lg ∧ wf64 en ∧ OpsAt w ops m ∧
    w.cell? ⟨b, off + i * 6, none⟩ = some (.int .i64 th) ∧ w.cell? ⟨b, off + i * 6 + 1, none⟩ = some (.int .i64 fr) ∧ w.cell? ⟨b, off + i * 6 + 2, none⟩ = some (.int .i64 lg) ∧ w.cell? ⟨b, off + i * 6 + 3, none⟩ = some (.int .i64 en) ∧
    w.cell? ⟨b, off + i * 6 + 4, none⟩ = some (.bool real) ∧ w.cell? ⟨b, off + i * 6 + 5, none⟩ = some ops := fun i hi => by
    obtain ⟨b, off, ecs, rfl, hb, _, hr, hc⟩ := hx i hi
    obtain ⟨th, fr, lg, en, real, ops, m, rfl, w1, w2, w3, w4, ho⟩ := rd_try hr
    rw [cells40] at hc
    refine ⟨m, b, off, th, fr, lg, en, real, ops, rfl, hb, w1, w2, w3, w4, ho, ?_, ?_, ?_, ?_, ?_, ?_⟩
    · have := hc 0 (by omega); simpa using this
    · have := hc 1 (by omega); simpa [Nat.add_assoc] using this
    · have := hc 2 (by omega); simpa [Nat.add_assoc] using this
    · have := hc 3 (by omega); simpa [Nat.add_assoc] using this
    · have := hc 4 (by omega); simpa [Nat.add_assoc] using this
    · have := hc 5 (by omega); simpa [Nat.add_assoc] using this
  refine ⟨l, fun i => if hi : i < l then Classical.choose (hy i hi) else 0, by omega, a, c, rfl, hn, fun i hi => ?_⟩
  have := Classical.choose_spec (hy i hi)
  simp only [hi, dite_true]
  exact this
theorem open_two {w : World} {r : Reach} {b0 : Nat} {v : Value} (hv : Value.okWide Try.prog w r b0 41 v) (h : Rd Try.prog w 41 v.cells.toList) :
    ∃ th fr lg en real ops m th' fr' lg' en' real' ops' m', v = .agg #[.int .i64 th, .int .i64 fr, .int .i64 lg, .int .i64 en, .bool real, ops, .int .i64 th', .int .i64 fr', .int .i64 lg', .int .i64 en', .bool real', ops'] ∧
      wf64 th ∧ wf64 fr ∧ wf64 lg ∧ wf64 en ∧ OpsAt w ops m ∧ wf64 th' ∧ wf64 fr' ∧ wf64 lg' ∧ wf64 en' ∧ OpsAt w ops' m' := by
  obtain ⟨⟨cs⟩, rfl, hsz⟩ : ∃ cs, v = .agg cs ∧ cs.size = 12 := by
    simp only [Value.okWide, Try.underlying41] at hv
    cases v <;> simp_all [cells41]
  simp only [Value.cells] at h
  match cs, hsz with
  | [x0, x1, x2, x3, x4, x5, x6, x7, x8, x9, x10, x11], _ =>
    obtain ⟨_, ha⟩ := h.array Try.underlying41
    have e0 : Rd Try.prog w 40 [x0, x1, x2, x3, x4, x5] := by simpa [cells40] using ha 0 (by omega)
    have e1 : Rd Try.prog w 40 [x6, x7, x8, x9, x10, x11] := by simpa [cells40] using ha 1 (by omega)
    obtain ⟨th, fr, lg, en, real, ops, m, h0, w1, w2, w3, w4, ho⟩ := rd_try e0
    obtain ⟨th', fr', lg', en', real', ops', m', h0', w1', w2', w3', w4', ho'⟩ := rd_try e1
    simp only [List.cons.injEq, and_true] at h0 h0'
    obtain ⟨rfl, rfl, rfl, rfl, rfl, rfl⟩ := h0
    obtain ⟨rfl, rfl, rfl, rfl, rfl, rfl⟩ := h0'
    exact ⟨_, _, _, _, _, _, m, _, _, _, _, _, _, m', rfl, w1, w2, w3, w4, ho, w1', w2', w3', w4', ho'⟩
theorem open_arr3 {w : World} {r : Reach} {b0 : Nat} {v : Value} (hv : Value.okWide Try.prog w r b0 22 v) (h : Rd Try.prog w 22 v.cells.toList) :
    ∃ a b c : Int, v = .agg #[.int .i64 a, .int .i64 b, .int .i64 c] ∧ wf64 a ∧ wf64 b ∧ wf64 c := by
  obtain ⟨⟨cs⟩, rfl, hsz⟩ : ∃ cs, v = .agg cs ∧ cs.size = 3 := by
    simp only [Value.okWide, Try.underlying22] at hv
    cases v <;> simp_all [cells22]
  simp only [Value.cells] at h
  match cs, hsz with
  | [x0, x1, x2], _ =>
    obtain ⟨_, ha⟩ := h.array Try.underlying22
    have e0 : Rd Try.prog w 2 [x0] := by simpa [cells2] using ha 0 (by omega)
    have e1 : Rd Try.prog w 2 [x1] := by simpa [cells2] using ha 1 (by omega)
    have e2 : Rd Try.prog w 2 [x2] := by simpa [cells2] using ha 2 (by omega)
    obtain ⟨a, ea, wa⟩ := e0.int Try.underlying2
    obtain ⟨b, eb, wb⟩ := e1.int Try.underlying2
    obtain ⟨c, ec, wc⟩ := e2.int Try.underlying2
    simp only [List.cons.injEq, and_true] at ea eb ec
    subst ea eb ec
    exact ⟨a, b, c, rfl, wa, wb, wc⟩
theorem open_intsAt {w : World} {r : Reach} {b0 : Nat} {v : Value} (hv : Value.okWide Try.prog w r b0 24 v) (h : Rd Try.prog w 24 v.cells.toList) : ∃ zs : List Int, IntsAt w v zs ∧ ∀ z ∈ zs, wf64 z := by
  obtain ⟨A, n, cap, zs, rfl, hn, _, hl, hw, hc⟩ := open_ints0 Try.underlying24 Try.underlying3 cells3 hv h
  refine ⟨zs, ⟨A, cap, by rw [hl], by omega, fun i x hi => ?_⟩, hw⟩
  have hil : i < zs.length := (List.getElem?_eq_some_iff.1 hi).1
  obtain ⟨b, off, h1, h2, h3⟩ := hc i (by omega)
  refine ⟨b, off, h1, h2, ?_⟩
  rw [h3, List.getD, hi]; rfl
end Go.Proofs.Ytnjcebfbfecdeaa
