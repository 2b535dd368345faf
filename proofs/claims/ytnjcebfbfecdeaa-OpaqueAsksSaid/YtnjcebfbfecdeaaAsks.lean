/-
  Numbers seen laid anew in memory.
-/
import Derived.Test.YtnjcebfbfecdeaaTurned
import Derived.Test.YtnjcebfbfecdeaaRLegal
import Derived.Test.YtnjcebfbfecdeaaRTime
set_option linter.unusedVariables false
namespace Go.Proofs.Ytnjcebfbfecdeaa
open Go.RowKit Go.Maps
theorem intCells_set (l : List Int) (j : Nat) (x : Int) : (intCells l).set j (.int .i64 x) = intCells (l.set j x) := by simp [intCells, List.map_set]
/-- A number seen is stored anew. -/
theorem Outs.sn {w : World} {base g : Nat} {v : Value} {l : List Row} (h : Outs w base v l) (i j : Nat) (r : Row) (x : Int) (hi : l[i]? = some r) (hj : j < r.p.seen.length) (hg : r.vs.ownBlock = some g) :
    Outs (w.setCell ⟨g, j, none⟩ (.int .i64 x)) base v (l.set i ⟨{ r.p with seen := r.p.seen.set j x }, r.vr, r.vw, r.vs⟩) := by
  have hil : i < l.length := (List.getElem?_eq_some_iff.1 hi).1
  have hr := h.each r (List.mem_of_getElem? hi)
  obtain ⟨A, c, hvr, hc⟩ := own_form hr.2.2
  obtain ⟨g', hg', hA, _⟩ := own_at hr.2.2 j hj
  obtain rfl : g' = g := by rw [hg'] at hg; exact Option.some.inj hg
  have hAe := hA _ _ _ hvr
  subst hAe
  have hr1 := hr.2.2
  rw [hvr] at hr1
  have hst := hr1.stored j (.int .i64 x)
  have hnd := h.nd
  rw [List.nodup_append] at hnd
  have hgin : g' ∈ r.bl := by simp [Row.bl, mem_ob, hg]
  have hoth : ∀ k, k ≠ g' → (w.setCell ⟨g', j, none⟩ (.int .i64 x)).heap[k]? = w.heap[k]? := fun k hk => heap_setCell_other w ⟨g', j, none⟩ k _ hk
  have hfl : (l.set i ⟨{ r.p with seen := r.p.seen.set j x }, r.vr, r.vw, r.vs⟩).flatMap Row.bl = l.flatMap Row.bl := by
    have : (l.set i ⟨{ r.p with seen := r.p.seen.set j x }, r.vr, r.vw, r.vs⟩).map Row.bl = l.map Row.bl := by
      rw [List.map_set]
      apply List.ext_getElem?
      intro k
      rw [List.getElem?_set]
      split
      · rename_i e; subst e
        rw [if_pos (by simpa using hil), List.getElem?_map, hi]; rfl
      · rfl
    rw [List.flatMap_def, List.flatMap_def, this]
  have hce : rowCells (l.set i ⟨{ r.p with seen := r.p.seen.set j x }, r.vr, r.vw, r.vs⟩) = rowCells l := by
    have : (l.set i ⟨{ r.p with seen := r.p.seen.set j x }, r.vr, r.vw, r.vs⟩).map Row.cells = l.map Row.cells := by
      rw [List.map_set]
      apply List.ext_getElem?
      intro k
      rw [List.getElem?_set]
      split
      · rename_i e; subst e
        rw [if_pos (by simpa using hil), List.getElem?_map, hi]; rfl
      · rfl
    rw [rowCells, rowCells, List.flatMap_def, List.flatMap_def, this]
  refine ⟨?_, fun r' hr' => ?_, ?_⟩
  · rw [List.length_set, hce]
    exact own_same h.out (fun k hk => hoth k (fun e => hnd.2.2 k (mem_ob.2 hk) k (List.mem_flatMap.2 ⟨r, List.mem_of_getElem? hi, e ▸ hgin⟩) rfl))
  · obtain ⟨k, hk⟩ := List.getElem?_of_mem hr'
    by_cases e : i = k
    · subst e
      rw [List.getElem?_set_self hil] at hk
      cases hk
      have hbl : r.bl.Nodup := by
        rw [List.Nodup, List.pairwise_flatMap] at hnd
        exact hnd.2.1.1 r (List.mem_of_getElem? hi)
      simp only [Row.bl] at hbl
      rw [nd3] at hbl
      obtain ⟨_, n1, n2, n3⟩ := hbl
      refine ⟨own_same hr.1 (fun k hk => hoth k (fun e => n2 k (mem_ob.2 hk) (by rw [e]; exact mem_ob.2 hg))), own_same hr.2.1 (fun k hk => hoth k (fun e => n3 k (mem_ob.2 hk) (by rw [e]; exact mem_ob.2 hg))), ?_⟩
      have h1 := hst.1
      rw [intCells_set] at h1
      show World.ownsRow _ _ _ _ r.vs _ _
      rw [List.length_set, hvr]
      exact h1
    · rw [List.getElem?_set_ne e] at hk
      refine Row.own_same (h.each r' (List.mem_of_getElem? hk)) (fun q hq => hoth q (fun e' => ?_))
      exact bl_apart hnd.2.1 i k r r' hi hk e g' hgin (e' ▸ hq)
  · rw [hfl]; exact h.nd
/-- The numbers seen are struck. -/
theorem Outs.nl {w : World} {base b : Nat} {v : Value} {l : List Row} (h : Outs w base v l) (hb : v.ownBlock = some b) (i : Nat) (r : Row) (hi : l[i]? = some r) :
    Outs (w.setCell ⟨b, i * 12 + 10, none⟩ (.slice none 0 0)) base v (l.set i ⟨{ r.p with seen := [] }, r.vr, r.vw, .slice none 0 0⟩) := by
  have hil : i < l.length := (List.getElem?_eq_some_iff.1 hi).1
  obtain ⟨A, c, rfl, hc⟩ := own_form h.out
  obtain ⟨b', hb', hA, _⟩ := own_at h.out i hil
  obtain rfl : b' = b := by rw [hb'] at hb; exact Option.some.inj hb
  obtain rfl := hA _ _ _ rfl
  have hst := h.out.stored (i * 12 + 10) (.slice none 0 0)
  have hnd := h.nd
  rw [List.nodup_append] at hnd
  have hsub : List.Sublist ((l.set i ⟨{ r.p with seen := [] }, r.vr, r.vw, .slice none 0 0⟩).flatMap Row.bl) (l.flatMap Row.bl) := by
    have hl : l.set i ⟨{ r.p with seen := [] }, r.vr, r.vw, .slice none 0 0⟩ = l.take i ++ ⟨{ r.p with seen := [] }, r.vr, r.vw, .slice none 0 0⟩ :: l.drop (i + 1) := List.set_eq_take_append_cons_drop ▸ by rw [if_pos hil]
    have hl2 : l = l.take i ++ r :: l.drop (i + 1) := by
      have e : l[i] = r := (List.getElem?_eq_some_iff.1 hi).2
      rw [← e, ← List.drop_eq_getElem_cons hil, List.take_append_drop]
    rw [hl]
    conv => rhs; rw [hl2]
    rw [List.flatMap_append, List.flatMap_append, List.flatMap_cons, List.flatMap_cons]
    refine (List.Sublist.refl _).append (List.Sublist.append ?_ (List.Sublist.refl _))
    unfold Row.bl
    refine (List.Sublist.refl _).append ((List.Sublist.refl _).append ?_)
    have : ob (Value.slice none 0 0) = [] := rfl
    rw [this]
    exact List.nil_sublist _
  refine ⟨?_, fun r' hr' => ?_, ?_⟩
  · rw [List.length_set]
    have := hst.1
    rwa [rowCells, flat_set Row.cells 12 Row.cells_len l i r ⟨{ r.p with seen := [] }, r.vr, r.vw, .slice none 0 0⟩ hi 10 (by decide) (.slice none 0 0) rfl] at this
  · have hoth : ∀ q ∈ l, ∀ k ∈ q.bl, (w.setCell ⟨b', i * 12 + 10, none⟩ (.slice none 0 0)).heap[k]? = w.heap[k]? := fun q hq k hk => by
      refine hst.2.block k (Row.own_lt (h.each q hq) k hk).2 (fun e => ?_)
      obtain rfl := Option.some.inj e
      exact hnd.2.2 k (by simp [ob, Value.ownBlock]) k (List.mem_flatMap.2 ⟨q, hq, hk⟩) rfl
    rcases List.mem_or_eq_of_mem_set hr' with hr' | rfl
    · exact Row.own_same (h.each r' hr') (hoth r' hr')
    · have hr := Row.own_same (h.each r (List.mem_of_getElem? hi)) (hoth r (List.mem_of_getElem? hi))
      exact ⟨hr.1, hr.2.1, World.ownsRow_nil _ _ _ _⟩
  · exact h.nd.sublist ((List.Sublist.refl _).append hsub)
theorem fine_set {l : List Row} (h : ∀ p ∈ l.map Row.p, Fine p) (i : Nat) (r : Row) (hr : Fine r.p) : ∀ p ∈ (l.set i r).map Row.p, Fine p := by
  intro p hp
  obtain ⟨q, hq, rfl⟩ := List.mem_map.1 hp
  rcases List.mem_or_eq_of_mem_set hq with hq | rfl
  · exact h _ (List.mem_map.2 ⟨q, hq, rfl⟩)
  · exact hr
theorem Fine.seen {p : Att} (h : Fine p) (s : List Int) (hs : s.length ≤ p.seen.length) (t : Int) : Fine { p with seen := s, tr := t } := ⟨h.rd, h.wr, h.l1, h.l2, Nat.le_trans hs h.l3⟩
end Go.Proofs.Ytnjcebfbfecdeaa
