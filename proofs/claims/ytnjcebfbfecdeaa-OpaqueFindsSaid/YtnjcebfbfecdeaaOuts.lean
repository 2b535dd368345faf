/-
  Rows of attempts that a call owns, and what came in as tries.
-/
import Derived.Test.YtnjcebfbfecdeaaTold
import Derived.Deep.AppendLies
set_option linter.unusedVariables false
namespace Go.Proofs.Ytnjcebfbfecdeaa
open Go.RowKit Go.Maps
theorem own_th {w w' : World} {base e sz n : Nat} {v : Value} {xs : List Value} (h : w.ownsRow base e sz v n xs) (hb : Below w.heap.size w w') : w'.ownsRow base e sz v n xs :=
  ⟨h.1, h.2.imp id (fun ⟨g, cap, cur, h1, h2, h3, h4⟩ => ⟨g, cap, cur, h1, h2, (hb.block g (Array.getElem?_eq_some_iff.1 h3).1).trans h3, h4⟩)⟩
theorem own_form {w : World} {base e sz n : Nat} {v : Value} {xs : List Value} (h : w.ownsRow base e sz v n xs) : ∃ A c, v = .slice A n c ∧ n ≤ c := by
  rcases h.2 with ⟨rfl, rfl⟩ | ⟨g, cap, cur, rfl, _, _, h1, _⟩
  · exact ⟨_, _, rfl, Nat.le_refl _⟩
  · exact ⟨_, _, rfl, h1⟩
theorem own_same {w w' : World} {base e sz n : Nat} {v : Value} {xs : List Value} (h : w.ownsRow base e sz v n xs) (hs : ∀ g, v.ownBlock = some g → w'.heap[g]? = w.heap[g]?) : w'.ownsRow base e sz v n xs := by
  refine ⟨h.1, ?_⟩
  rcases h.2 with h0 | ⟨g, cap, cur, rfl, h2, h3, h4⟩
  · exact .inl h0
  · exact .inr ⟨g, cap, cur, rfl, h2, (hs g rfl).trans h3, h4⟩
theorem own_base {w : World} {base base' e sz n : Nat} {v : Value} {xs : List Value} (h : w.ownsRow base e sz v n xs) (hb : base' ≤ base) : w.ownsRow base' e sz v n xs := by
  refine ⟨h.1, ?_⟩
  rcases h.2 with h0 | ⟨g, cap, cur, rfl, h2, h3⟩
  · exact .inl h0
  · exact .inr ⟨g, cap, cur, rfl, Nat.le_trans hb h2, h3⟩
/-- Owns as many elements as there are: the value is a slice of them, and where a place is its cells are. -/
theorem own_at {w : World} {base e sz n : Nat} {v : Value} {xs : List Value} (h : w.ownsRow base e sz v n xs) (i : Nat) (hi : i < n) :
    ∃ b, v.ownBlock = some b ∧ (∀ A c m, v = .slice A m c → A = some ⟨b, 0, none⟩) ∧ b < w.heap.size ∧ ∀ j, j < n * sz → w.cell? ⟨b, j, none⟩ = xs[j]? := by
  have h' := h
  rcases h.2 with ⟨_, h0⟩ | ⟨g, cap, cur, rfl, h2, h3, h4⟩
  · omega
  · refine ⟨g, rfl, fun A c m he => ?_, (h.lt g rfl).2, fun j hj => h.cellAt j hj⟩
    simp only [Value.slice.injEq] at he
    exact he.1.symm
theorem flat_len {α : Type} (f : α → List Value) (sz : Nat) (hf : ∀ x, (f x).length = sz) (l : List α) : (l.flatMap f).length = l.length * sz := by
  induction l with
  | nil => simp
  | cons x l ih => rw [List.flatMap_cons, List.length_append, ih, hf, List.length_cons, Nat.add_mul]; omega
theorem flat_get {α : Type} (f : α → List Value) (sz : Nat) (hf : ∀ x, (f x).length = sz) (l : List α) (i : Nat) (x : α) (h : l[i]? = some x) (j : Nat) (hj : j < sz) : (l.flatMap f)[i * sz + j]? = (f x)[j]? := by
  induction l generalizing i with
  | nil => simp at h
  | cons q l ih =>
    rw [List.flatMap_cons]
    cases i with
    | zero =>
      simp at h; subst h
      rw [Nat.zero_mul, Nat.zero_add, List.getElem?_append_left (by rw [hf]; exact hj)]
    | succ i =>
      have hl : (f q).length ≤ (i + 1) * sz + j := by rw [hf, Nat.add_mul]; omega
      rw [List.getElem?_append_right hl, hf, ← ih i (by simpa using h)]
      congr 1
      rw [Nat.add_mul]; omega
theorem flat_set {α : Type} (f : α → List Value) (sz : Nat) (hf : ∀ x, (f x).length = sz) (l : List α) (i : Nat) (x y : α) (h : l[i]? = some x) (j : Nat) (hj : j < sz) (u : Value) (hy : f y = (f x).set j u) : (l.flatMap f).set (i * sz + j) u = (l.set i y).flatMap f := by
  induction l generalizing i with
  | nil => simp at h
  | cons q l ih =>
    rw [List.flatMap_cons]
    cases i with
    | zero =>
      simp at h; subst h
      rw [Nat.zero_mul, Nat.zero_add, List.set_append_left _ _ (by rw [hf]; exact hj), List.set_cons_zero, List.flatMap_cons, hy]
    | succ i =>
      have hl : (f q).length ≤ (i + 1) * sz + j := by rw [hf, Nat.add_mul]; omega
      rw [List.set_append_right _ _ hl, hf, List.set_cons_succ, List.flatMap_cons, ← ih i (by simpa using h)]
      congr 2
      rw [Nat.add_mul]; omega
def wdC (x : Wd) : List Value := [.int .i64 x.pl, .int .i64 x.val]
theorem wdC_len (x : Wd) : (wdC x).length = 2 := rfl
def wdCells (l : List Wd) : List Value := l.flatMap wdC
def intCells (l : List Int) : List Value := l.map (Value.int .i64)
theorem wds_own {w : World} {base : Nat} {v : Value} {l : List Wd} (h : w.ownsRow base 51 2 v l.length (wdCells l)) : WdsAt w v l := by
  obtain ⟨A, c, rfl, hc⟩ := own_form h
  refine ⟨A, c, rfl, hc, fun i p hi => ?_⟩
  have hil : i < l.length := (List.getElem?_eq_some_iff.1 hi).1
  obtain ⟨b, hb, hA, hlt, hcell⟩ := own_at h i hil
  refine ⟨b, 0, hA _ _ _ rfl, hlt, ?_, ?_⟩
  · rw [Nat.zero_add, hcell _ (by omega)]
    exact flat_get wdC 2 wdC_len l i p hi 0 (by omega)
  · rw [Nat.zero_add, hcell _ (by omega)]
    exact flat_get wdC 2 wdC_len l i p hi 1 (by omega)
theorem ints_own {w : World} {base : Nat} {v : Value} {l : List Int} (h : w.ownsRow base 3 1 v l.length (intCells l)) : IntsAt w v l := by
  obtain ⟨A, c, rfl, hc⟩ := own_form h
  refine ⟨A, c, rfl, hc, fun i p hi => ?_⟩
  have hil : i < l.length := (List.getElem?_eq_some_iff.1 hi).1
  obtain ⟨b, hb, hA, hlt, hcell⟩ := own_at h i hil
  refine ⟨b, 0, hA _ _ _ rfl, hlt, ?_⟩
  rw [Nat.zero_add, hcell _ (by omega), intCells, List.getElem?_map, hi]; rfl
/-- An attempt and its three rows. -/
structure Row where
  p : Att
  vr : Value
  vw : Value
  vs : Value
def Row.cells (r : Row) : List Value := attCells r.p r.vr r.vw r.vs
theorem Row.cells_len (r : Row) : r.cells.length = 12 := rfl
def rowCells (l : List Row) : List Value := l.flatMap Row.cells
def Row.own (w : World) (base : Nat) (r : Row) : Prop :=
  w.ownsRow base 51 2 r.vr r.p.reads.length (wdCells r.p.reads) ∧ w.ownsRow base 51 2 r.vw r.p.writes.length (wdCells r.p.writes) ∧ w.ownsRow base 3 1 r.vs r.p.seen.length (intCells r.p.seen)
def ob (v : Value) : List Nat := v.ownBlock.toList
def Row.bl (r : Row) : List Nat := ob r.vr ++ (ob r.vw ++ ob r.vs)
theorem mem_ob {v : Value} {g : Nat} : g ∈ ob v ↔ v.ownBlock = some g := by
  unfold ob; cases v.ownBlock <;> simp [eq_comm]
theorem Row.own_same {w w' : World} {base : Nat} {r : Row} (h : r.own w base) (hs : ∀ g ∈ r.bl, w'.heap[g]? = w.heap[g]?) : r.own w' base := by
  obtain ⟨h1, h2, h3⟩ := h
  exact ⟨Ytnjcebfbfecdeaa.own_same h1 (fun g hg => hs g (by simp [Row.bl, mem_ob, hg])), Ytnjcebfbfecdeaa.own_same h2 (fun g hg => hs g (by simp [Row.bl, mem_ob, hg])), Ytnjcebfbfecdeaa.own_same h3 (fun g hg => hs g (by simp [Row.bl, mem_ob, hg]))⟩
theorem Row.own_lt {w : World} {base : Nat} {r : Row} (h : r.own w base) (g : Nat) (hg : g ∈ r.bl) : base ≤ g ∧ g < w.heap.size := by
  obtain ⟨h1, h2, h3⟩ := h
  simp only [Row.bl, List.mem_append, mem_ob] at hg
  rcases hg with hg | hg | hg
  · exact h1.lt g hg
  · exact h2.lt g hg
  · exact h3.lt g hg
theorem Row.own_base {w : World} {base base' : Nat} {r : Row} (h : r.own w base) (hb : base' ≤ base) : r.own w base' :=
  ⟨Ytnjcebfbfecdeaa.own_base h.1 hb, Ytnjcebfbfecdeaa.own_base h.2.1 hb, Ytnjcebfbfecdeaa.own_base h.2.2 hb⟩
structure Outs (w : World) (base : Nat) (v : Value) (l : List Row) : Prop where
  out : w.ownsRow base 33 12 v l.length (rowCells l)
  each : ∀ r ∈ l, r.own w base
  nd : (ob v ++ l.flatMap Row.bl).Nodup
theorem Outs.lt {w : World} {base : Nat} {v : Value} {l : List Row} (h : Outs w base v l) (g : Nat) (hg : g ∈ ob v ++ l.flatMap Row.bl) : base ≤ g ∧ g < w.heap.size := by
  rcases List.mem_append.1 hg with hg | hg
  · exact h.out.lt g (mem_ob.1 hg)
  · obtain ⟨r, hr, hg⟩ := List.mem_flatMap.1 hg
    exact Row.own_lt (h.each r hr) g hg
theorem Outs.same {w w' : World} {base : Nat} {v : Value} {l : List Row} (h : Outs w base v l) (hs : ∀ g ∈ ob v ++ l.flatMap Row.bl, w'.heap[g]? = w.heap[g]?) : Outs w' base v l :=
  ⟨own_same h.out (fun g hg => hs g (List.mem_append_left _ (mem_ob.2 hg))), fun r hr => Row.own_same (h.each r hr) (fun g hg => hs g (List.mem_append_right _ (List.mem_flatMap.2 ⟨r, hr, hg⟩))), h.nd⟩
theorem Outs.th {w w' : World} {base : Nat} {v : Value} {l : List Row} (h : Outs w base v l) (hb : Below w.heap.size w w') : Outs w' base v l :=
  h.same (fun g hg => hb.block g (h.lt g hg).2)
theorem Outs.mono {w : World} {base base' : Nat} {v : Value} {l : List Row} (h : Outs w base v l) (hb : base' ≤ base) : Outs w base' v l :=
  ⟨own_base h.out hb, fun r hr => Row.own_base (h.each r hr) hb, h.nd⟩
theorem Outs.nil (w : World) (base : Nat) : Outs w base (.slice none 0 0) [] := ⟨World.ownsRow_nil _ _ _ _, by simp, by simp [ob, Value.ownBlock]⟩
/-- One more attempt, whose rows lie behind all that was there. -/
theorem Outs.add {w w1 w2 : World} {base B g : Nat} {v v' : Value} {l : List Row} {r : Row} (h : Outs w base v l) (hb : Below w.heap.size w w1) (hbB : base ≤ B) (hB : ∀ k ∈ ob v ++ l.flatMap Row.bl, k < B) (hr : r.own w1 B) (hn : r.bl.Nodup)
    (hown : w2.ownsRow base 33 12 v' (l.length + 1) (rowCells l ++ r.cells)) (hgrow : w1.grownBy w2 v.ownBlock) (hv' : v'.ownBlock = some g) (hat : v.ownBlock = some g ∨ w1.heap.size ≤ g) : Outs w2 base v' (l ++ [r]) := by
  have hsz := hb.size
  have hlt := h.lt
  have hnd := h.nd
  rw [List.nodup_append] at hnd
  have hold : ∀ q ∈ l, ∀ k ∈ q.bl, w2.heap[k]? = w.heap[k]? := fun q hq k hk => by
    have hk' : k ∈ l.flatMap Row.bl := List.mem_flatMap.2 ⟨q, hq, hk⟩
    have h1 := hlt k (List.mem_append_right _ hk')
    rw [hgrow.block k (by omega) (fun e => hnd.2.2 k (mem_ob.2 e.symm) k hk' rfl)]
    exact hb.block k h1.2
  have hnew : ∀ k ∈ r.bl, w2.heap[k]? = w1.heap[k]? := fun k hk => by
    have h1 := Row.own_lt hr k hk
    refine hgrow.block k h1.2 (fun e => ?_)
    have := hB k (List.mem_append_left _ (mem_ob.2 e.symm))
    omega
  refine ⟨?_, fun q hq => ?_, ?_⟩
  · rw [List.length_append, rowCells, List.flatMap_append, List.flatMap_cons, List.flatMap_nil, List.append_nil]; exact hown
  · rcases List.mem_append.1 hq with hq | hq
    · exact Row.own_same (h.each q hq) (hold q hq)
    · simp at hq; subst hq
      exact Row.own_base (Row.own_same hr hnew) hbB
  · have hg : ob v' = [g] := by unfold ob; rw [hv']; rfl
    rw [hg, List.flatMap_append, List.flatMap_cons, List.flatMap_nil, List.append_nil, List.nodup_append]
    refine ⟨by simp, ?_, ?_⟩
    · rw [List.nodup_append]
      refine ⟨hnd.2.1, hn, fun a ha b hb' e => ?_⟩
      subst e
      have h1 := hB a (List.mem_append_right _ ha)
      have h2 := Row.own_lt hr a hb'
      omega
    · intro a ha b hb' e
      subst e
      simp at ha; subst ha
      rcases hat with hat | hat
      · rcases List.mem_append.1 hb' with h1 | h1
        · exact hnd.2.2 a (mem_ob.2 hat) a h1 rfl
        · have h2 := hB a (List.mem_append_left _ (mem_ob.2 hat))
          have h3 := Row.own_lt hr a h1
          omega
      · rcases List.mem_append.1 hb' with h1 | h1
        · have h2 := hlt a (List.mem_append_right _ h1)
          omega
        · have h3 := Row.own_lt hr a h1
          omega
theorem Outs.atts {w : World} {base : Nat} {v : Value} {l : List Row} (h : Outs w base v l) : AttsAt w v (l.map Row.p) := by
  obtain ⟨A, c, rfl, hc⟩ := own_form h.out
  refine ⟨A, c, by simp, by simpa using hc, fun i p hi => ?_⟩
  rw [List.getElem?_map] at hi
  obtain ⟨r, hr, rfl⟩ := Option.map_eq_some_iff.1 hi
  have hil : i < l.length := (List.getElem?_eq_some_iff.1 hr).1
  obtain ⟨b, hb, hA, hlt, hcell⟩ := own_at h.out i hil
  have he := h.each r (List.mem_of_getElem? hr)
  refine ⟨b, 0, r.vr, r.vw, r.vs, hA _ _ _ rfl, hlt, ⟨wds_own he.1, wds_own he.2.1, ints_own he.2.2⟩, fun j u hu => ?_⟩
  have hj : j < 12 := (List.getElem?_eq_some_iff.1 hu).1
  rw [Nat.zero_add, hcell _ (by omega), rowCells, flat_get Row.cells 12 Row.cells_len l i r hr j hj]
  exact hu
/-- A field other than the three rows is stored anew. -/
theorem Outs.put {w : World} {base b : Nat} {v : Value} {l : List Row} (h : Outs w base v l) (hb : v.ownBlock = some b) (i j : Nat) (r : Row) (p : Att) (u : Value) (hi : l[i]? = some r) (hj : j < 12)
    (hp : attCells p r.vr r.vw r.vs = r.cells.set j u) (h1 : p.reads = r.p.reads) (h2 : p.writes = r.p.writes) (h3 : p.seen = r.p.seen) :
    Outs (w.setCell ⟨b, i * 12 + j, none⟩ u) base v (l.set i ⟨p, r.vr, r.vw, r.vs⟩) := by
  have hil : i < l.length := (List.getElem?_eq_some_iff.1 hi).1
  obtain ⟨A, c, rfl, hc⟩ := own_form h.out
  obtain ⟨b', hb', hA, _⟩ := own_at h.out i hil
  obtain rfl : b' = b := by rw [hb'] at hb; exact Option.some.inj hb
  obtain rfl := hA _ _ _ rfl
  have hst := h.out.stored (i * 12 + j) u
  have hnd := h.nd
  have hbl : ∀ r' ∈ l.set i ⟨p, r.vr, r.vw, r.vs⟩, ∃ q ∈ l, r'.bl = q.bl ∧ (r'.own w base ↔ q.own w base) := fun r' hr' => by
    rcases List.mem_or_eq_of_mem_set hr' with hr' | rfl
    · exact ⟨r', hr', rfl, Iff.rfl⟩
    · exact ⟨r, List.mem_of_getElem? hi, rfl, by unfold Row.own; simp only [h1, h2, h3]⟩
  have hfl : (l.set i ⟨p, r.vr, r.vw, r.vs⟩).flatMap Row.bl = l.flatMap Row.bl := by
    have : (l.set i ⟨p, r.vr, r.vw, r.vs⟩).map Row.bl = l.map Row.bl := by
      rw [List.map_set]
      apply List.ext_getElem?
      intro k
      rw [List.getElem?_set]
      split
      · rename_i e; subst e
        rw [if_pos (by simpa using hil), List.getElem?_map, hi]; rfl
      · rfl
    rw [List.flatMap_def, List.flatMap_def, this]
  rw [List.nodup_append] at hnd
  refine ⟨?_, fun r' hr' => ?_, ?_⟩
  · rw [List.length_set]
    have := hst.1
    rwa [rowCells, flat_set Row.cells 12 Row.cells_len l i r ⟨p, r.vr, r.vw, r.vs⟩ hi j hj u hp] at this
  · obtain ⟨q, hq, he, hiff⟩ := hbl r' hr'
    refine Row.own_same (hiff.2 (h.each q hq)) (fun g hg => ?_)
    rw [he] at hg
    have hg' : g ∈ l.flatMap Row.bl := List.mem_flatMap.2 ⟨q, hq, hg⟩
    refine hst.2.block g (Row.own_lt (h.each q hq) g hg).2 (fun e => ?_)
    obtain rfl := Option.some.inj e
    exact hnd.2.2 g (by simp [ob, Value.ownBlock]) g hg' rfl
  · rw [hfl]; exact h.nd
theorem Outs.below {W w : World} {base b : Nat} {v : Value} {l : List Row} (h : Outs w base v l) (hW : Below W.heap.size W w) (hb : v.ownBlock = some b) (hbase : W.heap.size ≤ base) (o : Nat) (u : Value) : Below W.heap.size W (w.setCell ⟨b, o, none⟩ u) :=
  Bset hW (Nat.le_trans hbase (h.out.lt b hb).1) u
/-! ### Tries -/
def OpsAt (w : World) (v : Value) (n : Nat) : Prop :=
  ∃ A cap, v = .slice A n cap ∧ n ≤ cap ∧ ∀ i, i < n → ∃ b off kd pl val, A = some ⟨b, off, none⟩ ∧ b < w.heap.size ∧ wf64 kd ∧ wf64 pl ∧ wf64 val ∧
    w.cell? ⟨b, off + i * 3, none⟩ = some (.int .i64 kd) ∧ w.cell? ⟨b, off + i * 3 + 1, none⟩ = some (.int .i64 pl) ∧ w.cell? ⟨b, off + i * 3 + 2, none⟩ = some (.int .i64 val)
theorem OpsAt.th {w w' : World} {v : Value} {n : Nat} (h : OpsAt w v n) (hb : Below w.heap.size w w') : OpsAt w' v n := by
  obtain ⟨A, cap, rfl, hc, h⟩ := h
  refine ⟨A, cap, rfl, hc, fun i hi => ?_⟩
  obtain ⟨b, off, kd, pl, val, h0, h1, h2, h3, h4, h5, h6, h7⟩ := h i hi
  exact ⟨b, off, kd, pl, val, h0, Nat.lt_of_lt_of_le h1 hb.size, h2, h3, h4, (hb.cell (p := ⟨b, _, none⟩) h1).trans h5, (hb.cell (p := ⟨b, _, none⟩) h1).trans h6, (hb.cell (p := ⟨b, _, none⟩) h1).trans h7⟩
def TrysAt (w : World) (v : Value) (n : Nat) (ms : Nat → Nat) : Prop :=
  ∃ A cap, v = .slice A n cap ∧ n ≤ cap ∧ ∀ i, i < n → ∃ b off th fr lg en real ops, A = some ⟨b, off, none⟩ ∧ b < w.heap.size ∧ wf64 th ∧ wf64 fr ∧ wf64 lg ∧ wf64 en ∧ OpsAt w ops (ms i) ∧
    w.cell? ⟨b, off + i * 6, none⟩ = some (.int .i64 th) ∧ w.cell? ⟨b, off + i * 6 + 1, none⟩ = some (.int .i64 fr) ∧ w.cell? ⟨b, off + i * 6 + 2, none⟩ = some (.int .i64 lg) ∧ w.cell? ⟨b, off + i * 6 + 3, none⟩ = some (.int .i64 en) ∧
    w.cell? ⟨b, off + i * 6 + 4, none⟩ = some (.bool real) ∧ w.cell? ⟨b, off + i * 6 + 5, none⟩ = some ops
theorem TrysAt.th {w w' : World} {v : Value} {n : Nat} {ms : Nat → Nat} (h : TrysAt w v n ms) (hb : Below w.heap.size w w') : TrysAt w' v n ms := by
  obtain ⟨A, cap, rfl, hc, h⟩ := h
  refine ⟨A, cap, rfl, hc, fun i hi => ?_⟩
  obtain ⟨b, off, th, fr, lg, en, real, ops, h0, h1, h2, h3, h4, h5, h6, a0, a1, a2, a3, a4, a5⟩ := h i hi
  exact ⟨b, off, th, fr, lg, en, real, ops, h0, Nat.lt_of_lt_of_le h1 hb.size, h2, h3, h4, h5, h6.th hb, (hb.cell (p := ⟨b, _, none⟩) h1).trans a0, (hb.cell (p := ⟨b, _, none⟩) h1).trans a1, (hb.cell (p := ⟨b, _, none⟩) h1).trans a2, (hb.cell (p := ⟨b, _, none⟩) h1).trans a3, (hb.cell (p := ⟨b, _, none⟩) h1).trans a4, (hb.cell (p := ⟨b, _, none⟩) h1).trans a5⟩
end Go.Proofs.Ytnjcebfbfecdeaa
