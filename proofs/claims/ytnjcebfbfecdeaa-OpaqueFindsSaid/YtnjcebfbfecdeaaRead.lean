/-
  What an argument is made of: read as data, without the data: cells, one by one.
-/
import Derived.Test.YtnjcebfbfecdeaaPost
import Derived.Deep.Slices
import Derived.Lib.SmallJoins
namespace Go.Proofs.Ytnjcebfbfecdeaa
open Go.ChangeShapes Go.WideShapes Go.ChangeAt Go.RowKit
/-- These cells can be read as a value of type t. -/
def Rd (P : Program) (w : World) (t : TypeId) (cs : List Value) : Prop :=
  ∃ (H : Type) (enc : TypeId × Value → H) (spare : Nat → Bool) (held : Bool) (fuel : Nat) (x : DataW H × List MemPlace), DataW.trod enc P w 0 spare held fuel t cs = some x
section
variable {P : Program} {w : World} {t : TypeId} {cs : List Value}
theorem Rd.of_trod {H : Type} {enc : TypeId × Value → H} {spare : Nat → Bool} {held : Bool} {v : Value} {d : DataW H} {ps : List MemPlace} (h : DataW.Trod enc P w 0 spare held t v d ps) : Rd P w t v.cells.toList := by
  obtain ⟨fuel, hf⟩ := h
  exact ⟨H, enc, spare, held, fuel, _, hf⟩
theorem Rd.int {k : IntKind} (ht : P.underlying t = some (.int k)) (h : Rd P w t cs) : ∃ n, cs = [.int k n] ∧ (Lit.int k n).wf = true := by
  obtain ⟨H, enc, sp, hd, fuel, x, h⟩ := h
  obtain ⟨n, h1, _, h2⟩ := DataW.trod_int ht h
  exact ⟨n, h1, h2⟩
theorem Rd.bool (ht : P.underlying t = some .bool) (h : Rd P w t cs) : ∃ b, cs = [.bool b] := by
  obtain ⟨H, enc, sp, hd, fuel, x, h⟩ := h
  obtain ⟨n, h1, _⟩ := DataW.trod_bool ht h
  exact ⟨n, h1⟩
theorem Rd.struct {fs : Array Field} (ht : P.underlying t = some (.struct fs)) (h : Rd P w t cs) :
    cs.length = P.cellsOf t ∧ ∀ (i : Nat) (f : Field), fs[i]? = some f → Rd P w f.type ((cs.drop f.offset).take (P.cellsOf f.type)) := by
  obtain ⟨H, enc, sp, hd, fuel, x, h⟩ := h
  obtain ⟨xs, n, _, _, hl, hlen, hf⟩ := DataW.trod_struct ht h
  refine ⟨hl, fun i f hi => ?_⟩
  have h1 := hf i f hi
  have hlt : i < xs.length := by rw [hlen]; exact (Array.getElem?_eq_some_iff.1 hi).1
  rw [List.getElem?_eq_getElem hlt] at h1
  exact ⟨H, enc, sp, hd, n, _, h1⟩
theorem Rd.array {n : Nat} {e : TypeId} (ht : P.underlying t = some (.array n e)) (h : Rd P w t cs) :
    cs.length = P.cellsOf t ∧ ∀ i, i < n → Rd P w e ((cs.drop (i * P.cellsOf e)).take (P.cellsOf e)) := by
  obtain ⟨H, enc, sp, hd, fuel, x, h⟩ := h
  obtain ⟨xs, m, _, _, hl, hlen, hf⟩ := DataW.trod_array ht h
  refine ⟨hl, fun i hi => ?_⟩
  have h1 := hf i hi
  rw [List.getElem?_eq_getElem (by omega)] at h1
  exact ⟨H, enc, sp, hd, m, _, h1⟩
theorem Rd.slice {e : TypeId} (ht : P.underlying t = some (.slice e)) (h : Rd P w t cs) :
    ∃ A len cap, cs = [.slice A len cap] ∧ len ≤ cap ∧ cap ≤ maxLen ∧ (A = none → len = 0) ∧ ∀ a, A = some a → ∀ i, i < len → ∃ ecs, w.cells? 0 (a.add (i * P.cellsOf e)) (P.cellsOf e) = some ecs ∧ Rd P w e ecs := by
  obtain ⟨H, enc, sp, hd, fuel, x, h⟩ := h
  rcases DataW.trod_slice ht h with ⟨rfl, _⟩ | ⟨a, len, cap, elems, rest, n, _, rfl, _, hb, hl, hm, hlen, hel, _, _⟩
  · exact ⟨none, 0, 0, rfl, Nat.le_refl _, Nat.zero_le _, fun _ => rfl, fun a h => by cases h⟩
  · refine ⟨some a, len, cap, rfl, hl, hm, fun h => (by cases h), fun a' ha i hi => ?_⟩
    obtain rfl := Option.some.inj ha
    have h1 := hel i hi
    rw [List.getElem?_eq_getElem (by omega)] at h1
    obtain ⟨ecs, h2, h3⟩ := Option.bind_eq_some_iff.1 h1
    exact ⟨ecs, h2, H, enc, sp, hd, n, _, h3⟩
/-- Cells of a place: each of them. -/
theorem cells_at {a : Addr} {n : Nat} {cs : List Value} (h : w.cells? 0 a n = some cs) (hn : 0 < n) : a = ⟨a.block, a.off, none⟩ ∧ a.block < w.heap.size ∧ cs.length = n ∧ ∀ i, i < n → w.cell? ⟨a.block, a.off + i, none⟩ = cs[i]? := by
  have hb := World.cells?_block h hn
  obtain ⟨_, hl, hi⟩ := World.cells?_some h
  have hs : a.spot = none := by
    have h0 := hi 0 hn
    rw [List.getElem?_eq_getElem (by omega)] at h0
    simpa [Addr.add] using World.cell?_spot h0
  obtain ⟨b, o, s⟩ := a
  simp only at hs
  subst hs
  exact ⟨rfl, hb, hl, fun i hlt => by rw [← hi i hlt, add_plain]⟩
theorem add_block (a : Addr) (k : Nat) : (a.add k).block = a.block := by unfold Addr.add; split <;> rfl
theorem Rd.slice_at {e : TypeId} (ht : P.underlying t = some (.slice e)) (hc : 0 < P.cellsOf e) (h : Rd P w t cs) :
    ∃ A len cap, cs = [.slice A len cap] ∧ len ≤ cap ∧ cap ≤ maxLen ∧ ∀ i, i < len → ∃ b off ecs, A = some ⟨b, off, none⟩ ∧ b < w.heap.size ∧ ecs.length = P.cellsOf e ∧ Rd P w e ecs ∧
      ∀ j, j < P.cellsOf e → w.cell? ⟨b, off + (i * P.cellsOf e + j), none⟩ = ecs[j]? := by
  obtain ⟨A, n, cap, rfl, h1, h2, h3, h4⟩ := h.slice ht
  refine ⟨A, n, cap, rfl, h1, h2, fun i hi => ?_⟩
  cases A with
  | none => have := h3 rfl; omega
  | some a =>
    obtain ⟨ecs0, g0, _⟩ := h4 a rfl 0 (by omega)
    obtain ⟨q1, q2, _, _⟩ := cells_at g0 hc
    have ha : a = ⟨a.block, a.off, none⟩ := by simpa [Addr.add] using q1
    obtain ⟨ecs, g1, g2⟩ := h4 a rfl i hi
    obtain ⟨_, p2, p3, p4⟩ := cells_at g1 hc
    rw [ha, add_plain] at p2 p4
    refine ⟨a.block, a.off, ecs, by rw [← ha], by simpa using p2, p3, g2, fun j hj => ?_⟩
    rw [← p4 j hj, Nat.add_assoc]
/-- A slice of ints, as a walk wants it. -/
theorem Rd.ints {e : TypeId} {k : IntKind} (ht : P.underlying t = some (.slice e)) (he : P.underlying e = some (.int k)) (hc : P.cellsOf e = 1) (h : Rd P w t cs) :
    ∃ A n cap, ∃ zs : List Int, cs = [.slice A n cap] ∧ n ≤ cap ∧ cap ≤ maxLen ∧ zs.length = n ∧ (∀ z ∈ zs, (Lit.int k z).wf = true) ∧
      ∀ i, i < n → ∃ b off, A = some ⟨b, off, none⟩ ∧ b < w.heap.size ∧ w.cell? ⟨b, off + i, none⟩ = some (.int k (zs.getD i 0)) := by
  obtain ⟨A, n, cap, rfl, h1, h2, h4⟩ := h.slice_at ht (by omega)
  have hx : ∀ i, i < n → ∃ b off z, A = some ⟨b, off, none⟩ ∧ b < w.heap.size ∧ w.cell? ⟨b, off + i, none⟩ = some (.int k z) ∧ (Lit.int k z).wf = true := fun i hi => by
    obtain ⟨b, off, ecs, rfl, q2, q3, q4, q5⟩ := h4 i hi
    obtain ⟨z, rfl, hz⟩ := q4.int he
    have := q5 0 (by omega)
    exact ⟨b, off, z, rfl, q2, by simpa [hc] using this, hz⟩
  have hz : ∃ zs : List Int, zs.length = n ∧ (∀ z ∈ zs, (Lit.int k z).wf = true) ∧ ∀ i, i < n → ∃ b off, A = some ⟨b, off, none⟩ ∧ b < w.heap.size ∧ w.cell? ⟨b, off + i, none⟩ = some (.int k (zs.getD i 0)) := by
    clear h4 h1 h
    induction n with
    | zero => exact ⟨[], rfl, fun _ h => by simp at h, fun i hi => by omega⟩
    | succ n ih =>
      obtain ⟨zs, e1, e2, e3⟩ := ih (fun i hi => hx i (by omega))
      obtain ⟨b, off, z, r1, r2, r3, r4⟩ := hx n (by omega)
      refine ⟨zs ++ [z], by simp [e1], fun y hy => ?_, fun i hi => ?_⟩
      · rcases List.mem_append.1 hy with h | h
        · exact e2 y h
        · simp at h; subst h; exact r4
      · by_cases hin : i < n
        · obtain ⟨b', off', s1, s2, s3⟩ := e3 i hin
          refine ⟨b', off', s1, s2, ?_⟩
          rw [s3]; simp [List.getElem?_append_left (show i < zs.length by omega)]
        · have : i = n := by omega
          subst this
          refine ⟨b, off, r1, r2, ?_⟩
          rw [r3]; simp [← e1]
  obtain ⟨zs, e1, e2, e3⟩ := hz
  exact ⟨A, n, cap, zs, rfl, h1, h2, e1, e2, e3⟩
end
end Go.Proofs.Ytnjcebfbfecdeaa
