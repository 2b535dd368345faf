/-
  Picks that came in: a slice of structs.
-/
import Derived.Test.YtbfoeinjopgnpaaOpen
import Derived.Test.YtbfoeinjopgnpaaPk
namespace Go.Proofs.Ytbfoeinjopgnpaa
open Go.ChangeShapes Go.WideShapes Go.ChangeAt Go.RowKit
theorem cells3p : Try.prog.cellsOf 3 = 1 := by kernel_rfl
theorem cells4p : Try.prog.cellsOf 4 = 1 := by kernel_rfl
theorem cells29p : Try.prog.cellsOf 29 = 3 := by kernel_rfl
theorem rd_none {P : Program} {w : World} {t e : TypeId} {n cap : Nat} (ht : P.underlying t = some (.slice e)) (h : Rd P w t [.slice none n cap]) : n = 0 ∧ cap = 0 := by
  obtain ⟨H, enc, sp, hd, fuel, x, h⟩ := h
  rcases DataW.trod_slice ht h with ⟨h1, _⟩ | ⟨a, len, cap', elems, rest, n', _, h1, _⟩
  · simpa using h1
  · simp at h1
def Pk.fits (p : Pk) : Prop := (Lit.int .i64 p.t).wf = true ∧ (Lit.int .i64 p.d).wf = true
theorem pick_cells {w : World} {ecs : List Value} (h : Rd Try.prog w 29 ecs) : ∃ p : Pk, ecs = p.cells ∧ p.fits := by
  obtain ⟨hl, hf⟩ := h.struct Try.underlying29
  rw [cells29p] at hl
  match ecs, hl with
  | [x0, x1, x2], _ =>
    have f0 : Rd Try.prog w 3 [x0] := by simpa [cells3p] using hf 0 _ rfl
    have f1 : Rd Try.prog w 4 [x1] := by simpa [cells4p] using hf 1 _ rfl
    have f2 : Rd Try.prog w 3 [x2] := by simpa [cells3p] using hf 2 _ rfl
    obtain ⟨t, et, wt⟩ := f0.int Try.underlying3
    obtain ⟨a, ea⟩ := f1.bool Try.underlying4
    obtain ⟨d, ed, wd⟩ := f2.int Try.underlying3
    simp at et ea ed
    subst et ea ed
    exact ⟨⟨t, a, d⟩, rfl, wt, wd⟩
theorem open_picks {w : World} {r : Reach} {b0 : Nat} {v : Value} (hv : Value.okWide Try.prog w r b0 25 v) (h : Rd Try.prog w 25 v.cells.toList) :
    ∃ (A : Option Addr) (l : List Pk) (cap : Nat), v = .slice A l.length cap ∧ (A = none → l = [] ∧ cap = 0) ∧ (∀ p ∈ l, p.fits) ∧
      ∀ i p, l[i]? = some p → ∃ b off, A = some ⟨b, off, none⟩ ∧ b < w.heap.size ∧ ∀ j, j < 3 → w.cell? ⟨b, off + (i * 3 + j), none⟩ = p.cells[j]? := by
  have h0 := h
  obtain ⟨A, n, cap, h1, h2, h3, h4⟩ := h.slice_at Try.underlying25 (by rw [cells29p]; omega)
  obtain ⟨a, l, c, rfl⟩ := okWide_slice Try.underlying25 hv
  simp [Value.cells] at h1
  obtain ⟨rfl, rfl, rfl⟩ := h1
  have hx : ∀ i, i < l → ∃ b off, ∃ p : Pk, a = some ⟨b, off, none⟩ ∧ b < w.heap.size ∧ p.fits ∧ ∀ j, j < 3 → w.cell? ⟨b, off + (i * 3 + j), none⟩ = p.cells[j]? := fun i hi => by
    obtain ⟨b, off, ecs, rfl, q2, q3, q4, q5⟩ := h4 i hi
    obtain ⟨p, rfl, hp⟩ := pick_cells q4
    rw [cells29p] at q5
    exact ⟨b, off, p, rfl, q2, hp, q5⟩
  have hn : a = none → l = 0 ∧ c = 0 := fun e => by subst e; exact rd_none Try.underlying25 h0
  clear h4 h2 h3 h h0 hv
  have hz : ∃ ps : List Pk, ps.length = l ∧ (∀ p ∈ ps, p.fits) ∧ ∀ i p, ps[i]? = some p → ∃ b off, a = some ⟨b, off, none⟩ ∧ b < w.heap.size ∧ ∀ j, j < 3 → w.cell? ⟨b, off + (i * 3 + j), none⟩ = p.cells[j]? := by
    clear hn
    induction l with
    | zero => exact ⟨[], rfl, fun _ h => by simp at h, fun i p hi => by simp at hi⟩
    | succ n ih =>
      obtain ⟨ps, e1, e2, e3⟩ := ih (fun i hi => hx i (by omega))
      obtain ⟨b, off, p, r1, r2, r3, r4⟩ := hx n (by omega)
      refine ⟨ps ++ [p], by simp [e1], fun y hy => ?_, fun i q hi => ?_⟩
      · rcases List.mem_append.1 hy with h | h
        · exact e2 y h
        · simp at h; subst h; exact r3
      · by_cases hin : i < n
        · rw [List.getElem?_append_left (by omega)] at hi
          exact e3 i q hi
        · have hlt := (List.getElem?_eq_some_iff.1 hi).1
          simp at hlt
          have : i = n := by omega
          subst this
          rw [List.getElem?_append_right (by omega)] at hi
          simp [e1] at hi
          subst hi
          exact ⟨b, off, r1, r2, r4⟩
  obtain ⟨ps, e1, e2, e3⟩ := hz
  subst e1
  exact ⟨a, ps, c, rfl, fun e => ⟨List.eq_nil_of_length_eq_zero (hn e).1, (hn e).2⟩, e2, e3⟩
end Go.Proofs.Ytbfoeinjopgnpaa
