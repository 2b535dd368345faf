/-
  Instructions in memory; blocks that belong together, as plain functions.
-/
import Derived.Test.YtipkaloldlplgaaMay
import Derived.Laws.OwnMore
set_option linter.unusedVariables false
namespace Go.Proofs.Ytipkaloldlplgaa
open Go.RowKit
def insCells (l : List Ins) : List Value := l.flatMap Ins.cells
theorem insCells_len (l : List Ins) : (insCells l).length = l.length * 5 := by
  induction l with
  | nil => rfl
  | cons p l ih => simp only [insCells, List.flatMap_cons, List.length_append, List.length_cons] at *; rw [ih]; simp [Ins.cells]; omega
theorem insCells_snoc (l : List Ins) (p : Ins) : insCells (l ++ [p]) = insCells l ++ p.cells := by simp [insCells]
theorem insCells_get (l : List Ins) (i : Nat) (p : Ins) (h : l[i]? = some p) (j : Nat) (hj : j < 5) : (insCells l)[i * 5 + j]? = p.cells[j]? := by
  induction l generalizing i with
  | nil => simp at h
  | cons q l ih =>
    simp only [insCells, List.flatMap_cons]
    cases i with
    | zero =>
      simp at h; subst h
      rw [List.getElem?_append_left (by simp [Ins.cells]; omega)]; simp
    | succ i =>
      rw [List.getElem?_append_right (by simp [Ins.cells]; omega)]
      have := ih i (by simpa using h)
      rw [← this]
      simp only [insCells, Ins.cells, List.length_cons, List.length_nil]
      congr 1; omega
/-- A slice value reads as these instructions. -/
def InsAt (w : World) (v : Value) (l : List Ins) : Prop :=
  ∃ A cap, v = .slice A l.length cap ∧ ∀ i p, l[i]? = some p → ∃ b off, A = some ⟨b, off, none⟩ ∧ b < w.heap.size ∧
    w.cell? ⟨b, off + i * 5, none⟩ = some (.int .i64 p.op) ∧ w.cell? ⟨b, off + i * 5 + 1, none⟩ = some (.int .i64 p.a) ∧ w.cell? ⟨b, off + i * 5 + 2, none⟩ = some (.int .i64 p.b) ∧
    w.cell? ⟨b, off + i * 5 + 3, none⟩ = some (.int .i64 p.c) ∧ w.cell? ⟨b, off + i * 5 + 4, none⟩ = some (.int .i64 p.n)
theorem InsAt.th {w w' : World} {v : Value} {l : List Ins} (h : InsAt w v l) (hb : Below w.heap.size w w') : InsAt w' v l := by
  obtain ⟨A, cap, rfl, h⟩ := h
  refine ⟨A, cap, rfl, fun i p hi => ?_⟩
  obtain ⟨b, off, rfl, hlt, h1, h2, h3, h4, h5⟩ := h i p hi
  exact ⟨b, off, rfl, Nat.lt_of_lt_of_le hlt hb.size, (hb.cell hlt).trans h1, (hb.cell hlt).trans h2, (hb.cell hlt).trans h3, (hb.cell hlt).trans h4, (hb.cell hlt).trans h5⟩
theorem InsAt.own {w : World} {base : Nat} {v : Value} {l : List Ins} (h : w.ownsRow base 24 5 v l.length (insCells l)) : InsAt w v l := by
  rcases h.2 with ⟨rfl, h0⟩ | ⟨g, cap, cur, rfl, hb, hg, hc1, hc2, hs, ht⟩
  · have : l = [] := List.eq_nil_of_length_eq_zero h0
    subst this
    exact ⟨none, 0, rfl, fun i p hi => by simp at hi⟩
  · refine ⟨some ⟨g, 0, none⟩, cap, rfl, fun i p hi => ⟨g, 0, rfl, (h.lt g rfl).2, ?_, ?_, ?_, ?_, ?_⟩⟩
    all_goals have hil : i < l.length := (List.getElem?_eq_some_iff.1 hi).1
    · rw [h.cellAt _ (by omega), Nat.zero_add, show i * 5 = i * 5 + 0 from rfl, insCells_get l i p hi 0 (by omega)]; rfl
    · rw [h.cellAt _ (by omega), Nat.zero_add, insCells_get l i p hi 1 (by omega)]; rfl
    · rw [h.cellAt _ (by omega), Nat.zero_add, insCells_get l i p hi 2 (by omega)]; rfl
    · rw [h.cellAt _ (by omega), Nat.zero_add, insCells_get l i p hi 3 (by omega)]; rfl
    · rw [h.cellAt _ (by omega), Nat.zero_add, insCells_get l i p hi 4 (by omega)]; rfl
theorem own_th {w w' : World} {base e sz n : Nat} {v : Value} {xs : List Value} (h : w.ownsRow base e sz v n xs) (hb : Below w.heap.size w w') : w'.ownsRow base e sz v n xs :=
  ⟨h.1, h.2.imp id (fun ⟨g, cap, cur, h1, h2, h3, h4⟩ => ⟨g, cap, cur, h1, h2, (hb.block g (Array.getElem?_eq_some_iff.1 h3).1).trans h3, h4⟩)⟩
theorem own_form {w : World} {base e sz n : Nat} {v : Value} {xs : List Value} (h : w.ownsRow base e sz v n xs) : ∃ A c, v = .slice A n c := by
  rcases h.2 with ⟨rfl, rfl⟩ | ⟨g, cap, cur, rfl, _⟩
  · exact ⟨_, _, rfl⟩
  · exact ⟨_, _, rfl⟩
/-- One that is open: its place, its last place, its op. -/
structure Ent where
  pos : Nat
  last : Nat
  op : Int
def opn (op : Int) : Int := if op = 19 ∨ op = 20 then 18 else if op = 22 then 21 else 13
abbrev St := List Int × List Ent
def mstep (s : St) (op : Int) : Option St :=
  if op = 18 ∨ op = 21 ∨ op = 13 then some (s.1 ++ [-1], ⟨s.1.length, s.1.length, op⟩ :: s.2)
  else if op = 19 ∨ op = 20 ∨ op = 22 ∨ op = 14 then
    match s.2 with
    | [] => none
    | t :: st =>
      if t.op ≠ opn op ∨ (op = 19 ∧ t.last ≠ t.pos) then none
      else if op = 19 then some ((s.1 ++ [-1]).set t.last s.1.length, ⟨t.pos, s.1.length, t.op⟩ :: st)
      else if op = 20 then some ((s.1 ++ [-1]).set t.last s.1.length, st)
      else some (((s.1 ++ [-1]).set t.last s.1.length).set s.1.length t.pos, st)
  else some (s.1 ++ [-1], s.2)
def mend (s : St) : Option (List Int) × Int := match s.2 with | [] => (some s.1, -1) | t :: _ => (none, t.pos)
def mgo : List Int → St → Option (List Int) × Int
  | [], s => mend s
  | op :: l, s => match mstep s op with | none => (none, s.1.length) | some s' => mgo l s'
def mres (ops : List Int) : Option (List Int) × Int := mgo ops ([], [])
def stCells (st : List Ent) : List Value := st.reverse.flatMap fun t => [.int .i64 t.pos, .int .i64 t.last]
theorem stCells_cons (t : Ent) (st : List Ent) : stCells (t :: st) = stCells st ++ [.int .i64 t.pos, .int .i64 t.last] := by simp [stCells]
theorem stCells_len (st : List Ent) : (stCells st).length = st.length * 2 := by
  induction st with
  | nil => rfl
  | cons t st ih => rw [stCells_cons, List.length_append, ih]; simp; omega
/-- What has been said, and nothing behind it. -/
def mCells (m : List Int) (n : Nat) : List Value := (m ++ List.replicate (n - m.length) 0).map (Value.int .i64)
theorem mCells_nil (n : Nat) : mCells [] n = List.replicate n (.int .i64 0) := by simp [mCells]
theorem mCells_full (m : List Int) : mCells m m.length = m.map (Value.int .i64) := by simp [mCells]
theorem mCells_snoc (m : List Int) (n : Nat) (x : Int) (h : m.length < n) : (mCells m n).set m.length (.int .i64 x) = mCells (m ++ [x]) n := by
  obtain ⟨k, hk⟩ : ∃ k, n - m.length = k + 1 := ⟨n - m.length - 1, by omega⟩
  simp only [mCells, hk, List.map_append, List.replicate_succ, List.length_append, List.length_cons, List.length_nil]
  rw [List.set_append_right _ _ (by simp), show n - (m.length + (0 + 1)) = k by omega]
  simp
theorem mCells_set (m : List Int) (n i : Nat) (x : Int) (h : i < m.length) : (mCells m n).set i (.int .i64 x) = mCells (m.set i x) n := by
  simp only [mCells, List.length_set, List.map_append]
  rw [List.set_append_left _ _ (by simpa using h), List.map_set]
theorem mCells_at (m : List Int) (n : Nat) (h : m.length < n) : (mCells m n)[m.length]? = some (.int .i64 0) := by
  obtain ⟨k, hk⟩ : ∃ k, n - m.length = k + 1 := ⟨n - m.length - 1, by omega⟩
  simp [mCells, hk, List.replicate_succ]
theorem mCells_get (m : List Int) (n i : Nat) (h : i < m.length) : (mCells m n)[i]? = some (.int .i64 (m.getD i 0)) := by
  simp only [mCells, List.map_append]
  rw [List.getElem?_append_left (by simpa using h)]
  simp [List.getD, h]
theorem mCells_len (m : List Int) (n : Nat) (h : m.length ≤ n) : (mCells m n).length = n := by simp [mCells]; omega
theorem own_cut {w : World} {base e sz g n n' cap : Nat} {xs : List Value} (h : w.ownsRow base e sz (.slice (some ⟨g, 0, none⟩) n cap) n xs) (hn : n' ≤ n) : w.ownsRow base e sz (.slice (some ⟨g, 0, none⟩) n' cap) n' (xs.take (n' * sz)) := by
  have hm : n' * sz ≤ n * sz := Nat.mul_le_mul_right _ hn
  rcases h.2 with ⟨h', _⟩ | ⟨g', cap', cur, h', hb, hg, hnc, hcm, hcs, htake⟩
  · simp at h'
  · simp only [Value.slice.injEq, Option.some.injEq, Addr.mk.injEq, and_true, true_and] at h'
    obtain ⟨rfl, rfl⟩ := h'
    refine ⟨by rw [List.length_take, h.1]; omega, .inr ⟨g, cap, cur, rfl, hb, hg, by omega, hcm, hcs, ?_⟩⟩
    rw [← htake, List.take_take]; congr 1; omega
theorem info24 : (Try.prog.info? 24).map (fun i => (i.zero, i.size, i.bytes)) = some (some (.agg #[.int .i64 0, .int .i64 0, .int .i64 0, .int .i64 0, .int .i64 0]), 5, 40) := by kernel_rfl
theorem info52 : (Try.prog.info? 52).map (fun i => (i.zero, i.size, i.bytes)) = some (some (.agg #[.int .i64 0, .int .i64 0]), 2, 16) := by kernel_rfl
theorem info3 : (Try.prog.info? 3).map (fun i => (i.zero, i.size, i.bytes)) = some (some (.int .i64 0), 1, 8) := by kernel_rfl
end Go.Proofs.Ytipkaloldlplgaa
