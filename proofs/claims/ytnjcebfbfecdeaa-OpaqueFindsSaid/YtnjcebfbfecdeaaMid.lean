/-
  An attempt in the making: its box, its own words, its three rows, and one element more.
-/
import Derived.Test.YtnjcebfbfecdeaaOuts
set_option linter.unusedVariables false
namespace Go.Proofs.Ytnjcebfbfecdeaa
open Go.RowKit Go.Maps
theorem nd3 {a b c : List Nat} : (a ++ (b ++ c)).Nodup ↔ (a.Nodup ∧ b.Nodup ∧ c.Nodup) ∧ (∀ y ∈ a, y ∉ b) ∧ (∀ y ∈ a, y ∉ c) ∧ (∀ y ∈ b, y ∉ c) := by
  rw [List.nodup_append, List.nodup_append]
  constructor
  · rintro ⟨h1, ⟨h2, h3, h4⟩, h5⟩
    exact ⟨⟨h1, h2, h3⟩, fun y hy hz => h5 y hy y (List.mem_append_left _ hz) rfl, fun y hy hz => h5 y hy y (List.mem_append_right _ hz) rfl, fun y hy hz => h4 y hy y hz rfl⟩
  · rintro ⟨⟨h1, h2, h3⟩, h4, h5, h6⟩
    refine ⟨h1, ⟨h2, h3, fun y hy z hz e => h6 y hy (e ▸ hz)⟩, fun y hy z hz e => ?_⟩
    subst e
    rcases List.mem_append.1 hz with hz | hz
    · exact h4 y hy hz
    · exact h5 y hy hz
structure Mid (w : World) (B b11 b12 : Nat) (g : Int → Int) (r : Row) : Prop where
  cells : w.rowIs b11 33 12 (fun j => r.cells.getD j undef)
  own : w.rowIs b12 22 3 (fun j => .int .i64 (g j))
  o : r.own w B
  nd : r.bl.Nodup
theorem Mid.ne {w : World} {B b11 b12 : Nat} {g : Int → Int} {r : Row} (h : Mid w B b11 b12 g r) : b11 ≠ b12 := by
  intro e; subst e
  obtain ⟨c1, e1, _⟩ := h.cells
  obtain ⟨c2, e2, _⟩ := h.own
  rw [e1] at e2; simp at e2
theorem Mid.th {w w' : World} {B b11 b12 : Nat} {g : Int → Int} {r : Row} (h : Mid w B b11 b12 g r) (hb : Below w.heap.size w w') : Mid w' B b11 b12 g r :=
  ⟨h.cells.of_block (hb.block _ h.cells.lt), h.own.of_block (hb.block _ h.own.lt), Row.own_same h.o (fun k hk => hb.block k (Row.own_lt h.o k hk).2), h.nd⟩
theorem Mid.put {w : World} {B b11 b12 : Nat} {g : Int → Int} {r : Row} (h : Mid w B b11 b12 g r) (h2 : b12 < B) (q : Nat) (x : Int) :
    Mid (w.setCell ⟨b12, q, none⟩ (.int .i64 x)) B b11 b12 (upd g q x) r := by
  refine ⟨h.cells.setOther h.ne _, (h.own.set q _).congr (fun i hi => ?_), Row.own_same h.o (fun k hk => ?_), h.nd⟩
  · by_cases e : i = q
    · subst e; simp [upd]
    · rw [if_neg e]
      have : (i : Int) ≠ (q : Int) := by omega
      simp [upd, this]
  · have := Row.own_lt h.o k hk
    exact heap_setCell_other w ⟨b12, q, none⟩ k _ (by show k ≠ b12; omega)
theorem set_get (r r' : Row) (j : Nat) (u : Value) (h : r'.cells = r.cells.set j u) (i : Nat) (hi : i < 12) : (if i = j then u else r.cells.getD i undef) = r'.cells.getD i undef := by
  rw [h]
  by_cases e : i = j
  · subst e
    simp [List.getD, Row.cells_len, hi]
  · rw [if_neg e]
    simp [List.getD, Ne.symm e]
theorem box_set {w : World} {b11 : Nat} {r : Row} (hc : w.rowIs b11 33 12 (fun j => r.cells.getD j undef)) (r' : Row) (j : Nat) (u : Value) (h : r'.cells = r.cells.set j u) :
    (w.setCell ⟨b11, j, none⟩ u).rowIs b11 33 12 (fun j => r'.cells.getD j undef) :=
  (hc.set j u).congr (fun i hi => set_get r r' j u h i hi)
theorem ob_at (v : Value) (x : Nat) (h : v.ownBlock = some x) : ob v = [x] := by unfold ob; rw [h]; rfl
theorem ob_nd (v : Value) : (ob v).Nodup := by unfold ob; cases v.ownBlock <;> simp
section
variable {w w1 w2 : World} {B b11 b12 n x c : Nat} {g : Int → Int} {p : Att} {vr vw vs : Value} {row : Option Nat}
theorem far_of (hgrow : w1.grownBy w2 row) (hb : Below w.heap.size w w1) (k : Nat) (hk : k < w.heap.size) (hne : some k ≠ row) : w2.heap[k]? = w.heap[k]? :=
  (hgrow.block k (Nat.lt_of_lt_of_le hk hb.size) hne).trans (hb.block k hk)
theorem Mid.far {v : Value} (h : Mid w B b11 b12 g ⟨p, vr, vw, vs⟩) (h1 : b11 < B) (h2 : b12 < B) (hb : Below w.heap.size w w1) (hgrow : w1.grownBy w2 v.ownBlock) (hv : ∀ k, v.ownBlock = some k → B ≤ k) :
    w2.rowIs b11 33 12 (fun j => (Row.cells ⟨p, vr, vw, vs⟩).getD j undef) ∧ w2.rowIs b12 22 3 (fun j => .int .i64 (g j)) :=
  ⟨h.cells.of_block (far_of hgrow hb b11 h.cells.lt (fun e => by have := hv b11 e.symm; omega)), h.own.of_block (far_of hgrow hb b12 h.own.lt (fun e => by have := hv b12 e.symm; omega))⟩
theorem Mid.addR (h : Mid w B b11 b12 g ⟨p, vr, vw, vs⟩) (h1 : b11 < B) (h2 : b12 < B) (hB : B ≤ w.heap.size) (hb : Below w.heap.size w w1) (y : Wd)
    (hown : w2.ownsRow B 51 2 (.slice (some ⟨x, 0, none⟩) (p.reads.length + 1) c) (p.reads.length + 1) (wdCells p.reads ++ wdC y)) (hgrow : w1.grownBy w2 vr.ownBlock) (hat : vr.ownBlock = some x ∨ w.heap.size ≤ x) :
    Mid (w2.setCell ⟨b11, 8, none⟩ (.slice (some ⟨x, 0, none⟩) (p.reads.length + 1) c)) B b11 b12 g ⟨{ p with reads := p.reads ++ [y] }, (.slice (some ⟨x, 0, none⟩) (p.reads.length + 1) c), vw, vs⟩ := by
  have hv := fun k (e : vr.ownBlock = some k) => h.o.1.lt k e
  have hset : ∀ k, B ≤ k → (w2.setCell ⟨b11, 8, none⟩ (.slice (some ⟨x, 0, none⟩) (p.reads.length + 1) c)).heap[k]? = w2.heap[k]? := fun k hk => heap_setCell_other w2 ⟨b11, 8, none⟩ k _ (by show k ≠ b11; omega)
  have hnd := h.nd
  simp only [Row.bl] at hnd
  rw [nd3] at hnd
  obtain ⟨_, n1, n2, n3⟩ := hnd
  have hc2 : w2.rowIs b11 33 12 (fun j => (Row.cells ⟨p, vr, vw, vs⟩).getD j undef) := h.cells.of_block (far_of hgrow hb b11 h.cells.lt (fun e => by have := hv b11 e.symm; omega))
  have ho2 : w2.rowIs b12 22 3 (fun j => .int .i64 (g j)) := h.own.of_block (far_of hgrow hb b12 h.own.lt (fun e => by have := hv b12 e.symm; omega))
  refine ⟨box_set hc2 _ 8 _ rfl, ho2.setOther (fun e => h.ne e.symm) _, ⟨?_, ?_, ?_⟩, ?_⟩
  · have := own_same hown (w' := w2.setCell ⟨b11, 8, none⟩ (.slice (some ⟨x, 0, none⟩) (p.reads.length + 1) c)) (fun k hk => hset k (hown.lt k hk).1)
    simp only [List.length_append, List.length_cons, List.length_nil, Nat.zero_add, wdCells, List.flatMap_append, List.flatMap_cons, List.flatMap_nil, List.append_nil] at this ⊢
    exact this
  · exact own_same h.o.2.1 (fun k hk => by
      have h3 := h.o.2.1.lt k hk
      rw [hset k h3.1]
      exact far_of hgrow hb k h3.2 (fun e => n1 k (mem_ob.2 e.symm) (mem_ob.2 hk)))
  · exact own_same h.o.2.2 (fun k hk => by
      have h3 := h.o.2.2.lt k hk
      rw [hset k h3.1]
      exact far_of hgrow hb k h3.2 (fun e => n2 k (mem_ob.2 e.symm) (mem_ob.2 hk)))
  · show (ob (.slice (some ⟨x, 0, none⟩) (p.reads.length + 1) c) ++ (ob vw ++ ob vs)).Nodup
    have z1 : x ∉ ob vw := fun hx0 => by
      have hx := mem_ob.1 hx0
      rcases hat with e | e
      · exact n1 x (mem_ob.2 e) (mem_ob.2 hx)
      · have := h.o.2.1.lt x hx; omega
    have z2 : x ∉ ob vs := fun hx0 => by
      have hx := mem_ob.1 hx0
      rcases hat with e | e
      · exact n2 x (mem_ob.2 e) (mem_ob.2 hx)
      · have := h.o.2.2.lt x hx; omega
    rw [nd3, ob_at (.slice (some ⟨x, 0, none⟩) (p.reads.length + 1) c) x rfl]
    exact ⟨⟨by simp, ob_nd _, ob_nd _⟩, fun y hy => by simp at hy; subst hy; exact z1, fun y hy => by simp at hy; subst hy; exact z2, n3⟩
theorem Mid.addW (h : Mid w B b11 b12 g ⟨p, vr, vw, vs⟩) (h1 : b11 < B) (h2 : b12 < B) (hB : B ≤ w.heap.size) (hb : Below w.heap.size w w1) (y : Wd)
    (hown : w2.ownsRow B 51 2 (.slice (some ⟨x, 0, none⟩) (p.writes.length + 1) c) (p.writes.length + 1) (wdCells p.writes ++ wdC y)) (hgrow : w1.grownBy w2 vw.ownBlock) (hat : vw.ownBlock = some x ∨ w.heap.size ≤ x) :
    Mid (w2.setCell ⟨b11, 9, none⟩ (.slice (some ⟨x, 0, none⟩) (p.writes.length + 1) c)) B b11 b12 g ⟨{ p with writes := p.writes ++ [y] }, vr, (.slice (some ⟨x, 0, none⟩) (p.writes.length + 1) c), vs⟩ := by
  have hv := fun k (e : vw.ownBlock = some k) => h.o.2.1.lt k e
  have hset : ∀ k, B ≤ k → (w2.setCell ⟨b11, 9, none⟩ (.slice (some ⟨x, 0, none⟩) (p.writes.length + 1) c)).heap[k]? = w2.heap[k]? := fun k hk => heap_setCell_other w2 ⟨b11, 9, none⟩ k _ (by show k ≠ b11; omega)
  have hnd := h.nd
  simp only [Row.bl] at hnd
  rw [nd3] at hnd
  obtain ⟨_, n1, n2, n3⟩ := hnd
  have hc2 : w2.rowIs b11 33 12 (fun j => (Row.cells ⟨p, vr, vw, vs⟩).getD j undef) := h.cells.of_block (far_of hgrow hb b11 h.cells.lt (fun e => by have := hv b11 e.symm; omega))
  have ho2 : w2.rowIs b12 22 3 (fun j => .int .i64 (g j)) := h.own.of_block (far_of hgrow hb b12 h.own.lt (fun e => by have := hv b12 e.symm; omega))
  refine ⟨box_set hc2 _ 9 _ rfl, ho2.setOther (fun e => h.ne e.symm) _, ⟨?_, ?_, ?_⟩, ?_⟩
  · exact own_same h.o.1 (fun k hk => by
      have h3 := h.o.1.lt k hk
      rw [hset k h3.1]
      exact far_of hgrow hb k h3.2 (fun e => n1 k (mem_ob.2 hk) (mem_ob.2 e.symm)))
  · have := own_same hown (w' := w2.setCell ⟨b11, 9, none⟩ (.slice (some ⟨x, 0, none⟩) (p.writes.length + 1) c)) (fun k hk => hset k (hown.lt k hk).1)
    simp only [List.length_append, List.length_cons, List.length_nil, Nat.zero_add, wdCells, List.flatMap_append, List.flatMap_cons, List.flatMap_nil, List.append_nil] at this ⊢
    exact this
  · exact own_same h.o.2.2 (fun k hk => by
      have h3 := h.o.2.2.lt k hk
      rw [hset k h3.1]
      exact far_of hgrow hb k h3.2 (fun e => n3 k (mem_ob.2 e.symm) (mem_ob.2 hk)))
  · show (ob vr ++ (ob (.slice (some ⟨x, 0, none⟩) (p.writes.length + 1) c) ++ ob vs)).Nodup
    have z0 : x ∉ ob vr := fun hx0 => by
      have hx := mem_ob.1 hx0
      rcases hat with e | e
      · exact n1 x (mem_ob.2 hx) (mem_ob.2 e)
      · have := h.o.1.lt x hx; omega
    have z2 : x ∉ ob vs := fun hx0 => by
      have hx := mem_ob.1 hx0
      rcases hat with e | e
      · exact n3 x (mem_ob.2 e) (mem_ob.2 hx)
      · have := h.o.2.2.lt x hx; omega
    rw [nd3, ob_at (.slice (some ⟨x, 0, none⟩) (p.writes.length + 1) c) x rfl]
    exact ⟨⟨ob_nd _, by simp, ob_nd _⟩, fun y hy hy2 => by simp at hy2; subst hy2; exact z0 hy, n2, fun y hy => by simp at hy; subst hy; exact z2⟩
theorem Mid.addS (h : Mid w B b11 b12 g ⟨p, vr, vw, vs⟩) (h1 : b11 < B) (h2 : b12 < B) (hB : B ≤ w.heap.size) (hb : Below w.heap.size w w1) (y : Int)
    (hown : w2.ownsRow B 3 1 (.slice (some ⟨x, 0, none⟩) (p.seen.length + 1) c) (p.seen.length + 1) (intCells p.seen ++ [.int .i64 y])) (hgrow : w1.grownBy w2 vs.ownBlock) (hat : vs.ownBlock = some x ∨ w.heap.size ≤ x) :
    Mid (w2.setCell ⟨b11, 10, none⟩ (.slice (some ⟨x, 0, none⟩) (p.seen.length + 1) c)) B b11 b12 g ⟨{ p with seen := p.seen ++ [y] }, vr, vw, (.slice (some ⟨x, 0, none⟩) (p.seen.length + 1) c)⟩ := by
  have hv := fun k (e : vs.ownBlock = some k) => h.o.2.2.lt k e
  have hset : ∀ k, B ≤ k → (w2.setCell ⟨b11, 10, none⟩ (.slice (some ⟨x, 0, none⟩) (p.seen.length + 1) c)).heap[k]? = w2.heap[k]? := fun k hk => heap_setCell_other w2 ⟨b11, 10, none⟩ k _ (by show k ≠ b11; omega)
  have hnd := h.nd
  simp only [Row.bl] at hnd
  rw [nd3] at hnd
  obtain ⟨_, n1, n2, n3⟩ := hnd
  have hc2 : w2.rowIs b11 33 12 (fun j => (Row.cells ⟨p, vr, vw, vs⟩).getD j undef) := h.cells.of_block (far_of hgrow hb b11 h.cells.lt (fun e => by have := hv b11 e.symm; omega))
  have ho2 : w2.rowIs b12 22 3 (fun j => .int .i64 (g j)) := h.own.of_block (far_of hgrow hb b12 h.own.lt (fun e => by have := hv b12 e.symm; omega))
  refine ⟨box_set hc2 _ 10 _ rfl, ho2.setOther (fun e => h.ne e.symm) _, ⟨?_, ?_, ?_⟩, ?_⟩
  · exact own_same h.o.1 (fun k hk => by
      have h3 := h.o.1.lt k hk
      rw [hset k h3.1]
      exact far_of hgrow hb k h3.2 (fun e => n2 k (mem_ob.2 hk) (mem_ob.2 e.symm)))
  · exact own_same h.o.2.1 (fun k hk => by
      have h3 := h.o.2.1.lt k hk
      rw [hset k h3.1]
      exact far_of hgrow hb k h3.2 (fun e => n3 k (mem_ob.2 hk) (mem_ob.2 e.symm)))
  · have := own_same hown (w' := w2.setCell ⟨b11, 10, none⟩ (.slice (some ⟨x, 0, none⟩) (p.seen.length + 1) c)) (fun k hk => hset k (hown.lt k hk).1)
    simp only [List.length_append, List.length_cons, List.length_nil, Nat.zero_add, intCells, List.map_append, List.map_cons, List.map_nil] at this ⊢
    exact this
  · show (ob vr ++ (ob vw ++ ob (.slice (some ⟨x, 0, none⟩) (p.seen.length + 1) c))).Nodup
    have z0 : x ∉ ob vr := fun hx0 => by
      have hx := mem_ob.1 hx0
      rcases hat with e | e
      · exact n2 x (mem_ob.2 hx) (mem_ob.2 e)
      · have := h.o.1.lt x hx; omega
    have z1 : x ∉ ob vw := fun hx0 => by
      have hx := mem_ob.1 hx0
      rcases hat with e | e
      · exact n3 x (mem_ob.2 hx) (mem_ob.2 e)
      · have := h.o.2.1.lt x hx; omega
    rw [nd3, ob_at (.slice (some ⟨x, 0, none⟩) (p.seen.length + 1) c) x rfl]
    exact ⟨⟨ob_nd _, ob_nd _, by simp⟩, n1, fun y hy hy2 => by simp at hy2; subst hy2; exact z0 hy, fun y hy hy2 => by simp at hy2; subst hy2; exact z1 hy⟩
end
/-! ### The plain facts -/
def wordsI (f : Int → Int) (l : List Att) : Int → Int := l.foldl appS f
/-- The plain facts of an attempt, so many of its tries done. -/
structure Part (k : Nat) (f : Int → Int) (right : Bool) (p : Att) : Prop where
  n1 : p.reads.length + p.writes.length = k
  n2 : p.seen.length = p.reads.length
  rd : ∀ x ∈ p.reads, 0 ≤ x.pl ∧ x.pl < 3
  wr : ∀ x ∈ p.writes, 0 ≤ x.pl ∧ x.pl < 3 ∧ 0 ≤ x.val ∧ x.val < 3
  sn : ∀ x ∈ p.seen, 0 ≤ x ∧ x ≤ k
  lg : right = true → ∀ j, j < p.reads.length → legK f p j
structure AttOk (f : Int → Int) (right : Bool) (i : Nat) (l : List Att) (p : Att) : Prop where
  k : ∃ k, k ≤ 6 ∧ Part k (wordsI f (l.take i)) right p
  tr : p.tr = (i : Int) + 1
def Good (f : Int → Int) (right : Bool) (l : List Att) : Prop := ∀ i p, l[i]? = some p → AttOk f right i l p
theorem Part.nil (f : Int → Int) (right : Bool) (p : Att) (h1 : p.reads = []) (h2 : p.writes = []) (h3 : p.seen = []) : Part 0 f right p :=
  ⟨by simp [h1, h2], by simp [h1, h3], by simp [h1], by simp [h2], by simp [h3], fun _ j hj => by simp [h1] at hj⟩
theorem putS_snoc (f : Int → Int) (ws : List Wd) (y : Wd) : putS f (ws ++ [y]) = upd (putS f ws) y.pl y.val := by simp [putS, List.foldl_append]
theorem putS_at (f : Int → Int) (ws : List Wd) (x : Int) : putS f ws x = wantS f ws x := by
  unfold putS wantS
  suffices ∀ (ws : List Wd) (f : Int → Int) (a : Int), f x = a → ws.foldl (fun g y => upd g y.pl y.val) f x = ws.foldl (fun acc p => if p.pl = x then p.val else acc) a by exact this ws f _ rfl
  intro ws
  induction ws with
  | nil => intro f a h; exact h
  | cons y ws ih =>
    intro f a h
    rw [List.foldl_cons, List.foldl_cons]
    refine ih _ _ ?_
    unfold upd
    by_cases e : y.pl = x
    · rw [if_pos e.symm, if_pos e]
    · rw [if_neg (fun e' => e e'.symm), if_neg e]; exact h
theorem wantS_congr {f g : Int → Int} {x : Int} (h : f x = g x) (ws : List Wd) : wantS f ws x = wantS g ws x := by unfold wantS; rw [h]
theorem putS_congr {f g : Int → Int} {x : Int} (h : f x = g x) (ws : List Wd) : putS f ws x = putS g ws x := by rw [putS_at, putS_at, wantS_congr h]
theorem legK_w {f : Int → Int} {p : Att} {j k : Nat} (y : Wd) (h : legK f p j) (hj : j < p.seen.length) (hs : ∀ x ∈ p.seen, 0 ≤ x ∧ x ≤ p.writes.length) : legK f { p with writes := p.writes ++ [y] } j := by
  have hx : p.seen[j]? = some p.seen[j] := List.getElem?_eq_getElem hj
  have hs' := hs _ (List.mem_of_getElem? hx)
  unfold legK seenN at *
  simp only [hx] at *
  rw [h]
  congr 1
  rw [List.length_append, show min (p.seen[j]).toNat (p.writes.length + [y].length) = min (p.seen[j]).toNat p.writes.length by omega]
  rw [List.take_append_of_le_length (by omega)]
theorem legK_r {f : Int → Int} {p : Att} {j : Nat} (y : Wd) (s : Int) (h : legK f p j) (hj : j < p.reads.length) (hn : p.seen.length = p.reads.length) : legK f { p with reads := p.reads ++ [y], seen := p.seen ++ [s] } j := by
  unfold legK seenN at *
  simp only [List.getD, List.getElem?_append_left hj, List.getElem?_append_left (show j < p.seen.length by omega)] at *
  exact h
theorem legK_n {f : Int → Int} {p : Att} (y : Wd) (hn : p.seen.length = p.reads.length) (hy : y.val = putS f p.writes y.pl) : legK f { p with reads := p.reads ++ [y], seen := p.seen ++ [(p.writes.length : Int)] } p.reads.length := by
  unfold legK seenN
  have h1 : (p.reads ++ [y])[p.reads.length]? = some y := by simp
  have h2 : (p.seen ++ [(p.writes.length : Int)])[p.reads.length]? = some (p.writes.length : Int) := by rw [← hn]; simp
  simp only [List.getD, h1, h2, Option.getD_some]
  rw [hy, putS_at]
  simp
theorem Part.congr {k : Nat} {f g : Int → Int} {right : Bool} {p : Att} (h : Part k f right p) (he : ∀ j : Nat, j < 3 → f j = g j) : Part k g right p := by
  refine ⟨h.n1, h.n2, h.rd, h.wr, h.sn, fun hr j hj => ?_⟩
  have h1 := h.lg hr j hj
  have hx : p.reads.getD j dW ∈ p.reads := by
    rw [List.getD, List.getElem?_eq_getElem hj]; exact List.getElem_mem hj
  have hb := h.rd _ hx
  unfold legK at *
  generalize p.reads.getD j dW = y at *
  obtain ⟨q, hq⟩ := Int.eq_ofNat_of_zero_le hb.1
  rw [h1]
  exact wantS_congr (by rw [hq]; exact he q (by omega)) _
theorem wordsI_snoc (f : Int → Int) (l : List Att) (p : Att) : wordsI f (l ++ [p]) = appS (wordsI f l) p := by simp [wordsI, List.foldl_append]
/-- Numbers seen are no more than the writes. -/
structure Part2 (k : Nat) (f : Int → Int) (right : Bool) (p : Att) : Prop where
  a : Part k f right p
  s : ∀ x ∈ p.seen, 0 ≤ x ∧ x ≤ p.writes.length
theorem Part2.nil (f : Int → Int) (right : Bool) (p : Att) (h1 : p.reads = []) (h2 : p.writes = []) (h3 : p.seen = []) : Part2 0 f right p := ⟨Part.nil f right p h1 h2 h3, by simp [h3]⟩
theorem Part2.addW {k : Nat} {f : Int → Int} {right : Bool} {p : Att} (h : Part2 k f right p) (y : Wd) (h1 : 0 ≤ y.pl ∧ y.pl < 3) (h2 : 0 ≤ y.val ∧ y.val < 3) : Part2 (k + 1) f right { p with writes := p.writes ++ [y] } := by
  obtain ⟨h, hs⟩ := h
  refine ⟨⟨by have := h.n1; simp; omega, h.n2, h.rd, fun x hx => ?_, fun x hx => by have := h.sn x hx; omega, fun hr j hj => legK_w (k := k) y (h.lg hr j hj) (by rw [h.n2]; exact hj) hs⟩, fun x hx => by have := hs x hx; simp; omega⟩
  rcases List.mem_append.1 hx with hx | hx
  · exact h.wr x hx
  · simp at hx; subst hx; exact ⟨h1.1, h1.2, h2.1, h2.2⟩
theorem Part2.addR {k : Nat} {f : Int → Int} {right : Bool} {p : Att} (h : Part2 k f right p) (y : Wd) (h1 : 0 ≤ y.pl ∧ y.pl < 3) (h2 : right = true → y.val = putS f p.writes y.pl) :
    Part2 (k + 1) f right { p with reads := p.reads ++ [y], seen := p.seen ++ [(p.writes.length : Int)] } := by
  obtain ⟨h, hs⟩ := h
  refine ⟨⟨by have := h.n1; simp; omega, by have := h.n2; simp; omega, fun x hx => ?_, h.wr, fun x hx => ?_, fun hr j hj => ?_⟩, fun x hx => ?_⟩
  · rcases List.mem_append.1 hx with hx | hx
    · exact h.rd x hx
    · simp at hx; subst hx; exact h1
  · rcases List.mem_append.1 hx with hx | hx
    · have := h.sn x hx; omega
    · simp at hx; subst hx
      have := h.n1; omega
  · have hj' : j < p.reads.length + 1 := by simpa using hj
    by_cases e : j = p.reads.length
    · subst e; exact legK_n y h.n2 (h2 hr)
    · exact legK_r y _ (h.lg hr j (by omega)) (by omega) h.n2
  · rcases List.mem_append.1 hx with hx | hx
    · exact hs x hx
    · simp at hx; subst hx; simp
theorem Good.add {f : Int → Int} {right : Bool} {l : List Att} {p : Att} {k : Nat} (h : Good f right l) (hk : k ≤ 6) (hp : Part k (wordsI f l) right p) (ht : p.tr = (l.length : Int) + 1) : Good f right (l ++ [p]) := by
  intro i q hq
  by_cases e : i < l.length
  · rw [List.getElem?_append_left e] at hq
    have := h i q hq
    refine ⟨?_, this.tr⟩
    rw [List.take_append_of_le_length (by omega)]
    exact this.k
  · have hi : i = l.length := by
      have := (List.getElem?_eq_some_iff.1 hq).1
      simp at this; omega
    subst hi
    simp at hq; subst hq
    exact ⟨⟨k, hk, by simpa using hp⟩, ht⟩
end Go.Proofs.Ytnjcebfbfecdeaa
