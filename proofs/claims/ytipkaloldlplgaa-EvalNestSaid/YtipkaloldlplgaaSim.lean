/-
  The program's and the reference's blocks belong together alike: plain law.
-/
import Derived.Test.YtipkaloldlplgaaRMates
set_option linter.unusedVariables false
namespace Go.Proofs.Ytipkaloldlplgaa
theorem getD_snoc (m : List Int) (x : Int) (i : Nat) : (m ++ [x]).getD i 0 = if i = m.length then x else m.getD i 0 := by
  simp only [List.getD]
  by_cases h : i < m.length
  · rw [List.getElem?_append_left h, if_neg (by omega)]
  · by_cases e : i = m.length
    · subst e; simp
    · rw [if_neg e, List.getElem?_eq_none (by simp; omega), List.getElem?_eq_none (by omega)]
theorem getD_set (m : List Int) (j i : Nat) (x : Int) (hj : j < m.length) : (m.set j x).getD i 0 = if i = j then x else m.getD i 0 := by
  simp only [List.getD, List.getElem?_set]
  by_cases e : i = j
  · subst e; simp [hj]
  · simp [e, Ne.symm e]
/-- How the reference has an open block. -/
def re (t : Ent) : Nat × Int := (t.last, if t.last = t.pos then t.op else 19)
def GoodE (m : List Int) (t : Ent) : Prop :=
  t.pos ≤ t.last ∧ t.last < m.length ∧ (t.op = 18 ∨ t.op = 21 ∨ t.op = 13) ∧ (t.last ≠ t.pos → t.op = 18 ∧ m.getD t.pos 0 = t.last ∧ ∀ i, i < m.length → m.getD i 0 = t.last → i = t.pos)
def Sorted : List Ent → Prop
  | [] => True
  | t :: st => (∀ s ∈ st, s.last < t.pos) ∧ Sorted st
structure Good (s : St) : Prop where
  ents : ∀ t ∈ s.2, GoodE s.1 t
  vals : ∀ i, i < s.1.length → s.1.getD i 0 < s.1.length
  sorted : Sorted s.2
/-- What a step makes of the places. -/
theorem good_keep {m m' : List Int} {t : Ent} (h : GoodE m t) (hl : m'.length = m.length + 1) (hk : ∀ i, i < m.length → (m'.getD i 0 = m.getD i 0 ∨ (m'.getD i 0 = m.length ∧ t.last < i))) (hn : m'.getD m.length 0 ≠ t.last) : GoodE m' t := by
  obtain ⟨h1, h2, h3, h4⟩ := h
  refine ⟨h1, by omega, h3, fun hne => ?_⟩
  obtain ⟨a, b, c⟩ := h4 hne
  refine ⟨a, ?_, fun i hi hv => ?_⟩
  · rcases hk t.pos (by omega) with h | ⟨_, h⟩
    · rw [h, b]
    · omega
  · by_cases e : i = m.length
    · subst e; exact absurd hv hn
    · rcases hk i (by omega) with h | ⟨h, _⟩
      · rw [h] at hv; exact c i (by omega) hv
      · rw [h] at hv; omega
theorem ffR_find (m : List Int) (p q : Nat) (hq : m.getD q 0 = p) (hu : ∀ i, i < p → m.getD i 0 = p → i = q) : ∀ (f k : Nat), k + f ≤ p → k ≤ q → q < k + f → ffR m p f k = q
  | 0, k, _, h1, h2 => by omega
  | f + 1, k, h0, h1, h2 => by
    rw [ffR]
    by_cases e : m.getD k 0 = p
    · rw [if_pos e]; exact hu k (by omega) e
    · rw [if_neg e]
      refine ffR_find m p q hq hu f (k + 1) (by omega) ?_ (by omega)
      rcases Nat.lt_or_ge k q with h | h
      · omega
      · have : k = q := by omega
        subst this; exact absurd hq e
theorem end_same (s : St) (h : Good s) : mend s = rend (s.1, s.2.map re) := by
  obtain ⟨m, st⟩ := s
  cases st with
  | nil => rfl
  | cons t st =>
    obtain ⟨h1, h2, h3, h4⟩ := h.ents t (by simp)
    have h2 : t.last < m.length := h2
    simp only [mend, rend, List.map_cons, re]
    by_cases e : t.last = t.pos
    · simp only [e, if_true]
      rw [if_neg (by rcases h3 with h | h | h <;> rw [h] <;> decide)]
    · obtain ⟨a, b, c⟩ := h4 e
      simp only [e, if_false, if_true]
      rw [ffR_find m t.last t.pos b (fun i hi hv => c i (by show i < m.length; omega) hv) t.last 0 (by omega) (by omega) (by omega)]
theorem step_same (s : St) (op : Int) (h : Good s) : (mstep s op).map (fun s' => ((s'.1, s'.2.map re) : RSt)) = rstep (s.1, s.2.map re) op ∧ ∀ s', mstep s op = some s' → Good s' := by
  obtain ⟨m, st⟩ := s
  have hv := h.vals
  simp only at hv
  by_cases c0 : op = 18 ∨ op = 21 ∨ op = 13
  · simp only [mstep, rstep, if_pos c0]
    refine ⟨by simp [re], fun s' hs => ?_⟩
    obtain rfl := Option.some.inj hs
    refine ⟨fun t ht => ?_, fun i hi => ?_, ⟨fun s hs => ?_, h.sorted⟩⟩
    · rcases List.mem_cons.1 ht with rfl | ht
      · exact ⟨Nat.le_refl _, by simp, c0, fun hne => absurd rfl hne⟩
      · refine good_keep (h.ents t ht) (by simp) (fun i hi => Or.inl ?_) ?_
        · rw [getD_snoc, if_neg (by simp only at hi; omega)]
        · rw [getD_snoc, if_pos rfl]; omega
    · simp only [List.length_append, List.length_cons, List.length_nil] at hi ⊢
      rw [getD_snoc]
      split
      · omega
      · have := hv i (by omega); omega
    · exact (h.ents s hs).2.1
  by_cases c1 : op = 19 ∨ op = 20 ∨ op = 22 ∨ op = 14
  · simp only [mstep, rstep, if_neg c0, if_pos c1]
    cases st with
    | nil => exact ⟨rfl, fun s' hs => by simp at hs⟩
    | cons t st =>
      obtain ⟨h1, h2, h3, h4⟩ := h.ents t (by simp)
      have hso := h.sorted
      simp only at h2
      simp only [List.map_cons, re]
      have hlen : (m ++ [(-1 : Int)]).length = m.length + 1 := by simp
      have hg1 : ∀ i, ((m ++ [(-1 : Int)]).set t.last (m.length : Int)).getD i 0 = if i = t.last then (m.length : Int) else if i = m.length then -1 else m.getD i 0 := fun i => by
        rw [getD_set _ _ _ _ (by omega), getD_snoc]
      have hg2 : ∀ i, (((m ++ [(-1 : Int)]).set t.last (m.length : Int)).set m.length (t.pos : Int)).getD i 0 = if i = m.length then (t.pos : Int) else if i = t.last then (m.length : Int) else m.getD i 0 := fun i => by
        rw [getD_set _ _ _ _ (by simp), hg1]
        by_cases e : i = m.length
        · simp [e]
        · simp [e]
      have keep1 : ∀ s ∈ st, GoodE ((m ++ [(-1 : Int)]).set t.last (m.length : Int)) s := fun s hs => by
        have hlt := hso.1 s hs
        refine good_keep (h.ents s (List.mem_cons_of_mem _ hs)) (by simp) (fun i hi => ?_) ?_
        · simp only at hi
          rw [hg1]
          by_cases e : i = t.last
          · right; rw [if_pos e]; exact ⟨rfl, by omega⟩
          · left; rw [if_neg e, if_neg (by omega)]
        · simp only
          rw [hg1, if_neg (by omega), if_pos rfl]; omega
      have keep2 : ∀ s ∈ st, GoodE (((m ++ [(-1 : Int)]).set t.last (m.length : Int)).set m.length (t.pos : Int)) s := fun s hs => by
        have hlt := hso.1 s hs
        refine good_keep (h.ents s (List.mem_cons_of_mem _ hs)) (by simp) (fun i hi => ?_) ?_
        · simp only at hi
          rw [hg2, if_neg (by omega)]
          by_cases e : i = t.last
          · right; rw [if_pos e]; exact ⟨rfl, by omega⟩
          · left; rw [if_neg e]
        · simp only
          rw [hg2, if_pos rfl]; omega
      have v1 : ∀ i, i < m.length + 1 → ((m ++ [(-1 : Int)]).set t.last (m.length : Int)).getD i 0 < (m.length : Int) + 1 := fun i hi => by
        rw [hg1]
        split
        · omega
        · split
          · omega
          · have := hv i (by omega); omega
      have v2 : ∀ i, i < m.length + 1 → (((m ++ [(-1 : Int)]).set t.last (m.length : Int)).set m.length (t.pos : Int)).getD i 0 < (m.length : Int) + 1 := fun i hi => by
        rw [hg2]
        split
        · omega
        · split
          · omega
          · have := hv i (by omega); omega
      rcases c1 with rfl | rfl | rfl | rfl
      · by_cases e : t.last = t.pos
        · by_cases e2 : t.op = 18
          · have hp : m.length ≠ t.pos := by omega
            simp [opn, fitsR, e, e2]
            rw [e] at hg1 keep1 v1
            refine ⟨by simp only [re]; rw [if_neg hp], fun s hs => ?_, fun i hi => by have := v1 i (by simpa using hi); simpa using this, hso⟩
            rcases List.mem_cons.1 hs with rfl | hs
            · refine ⟨by simp only; omega, by simp, Or.inl rfl, fun _ => ⟨rfl, by rw [hg1, if_pos rfl], fun i hi hvi => ?_⟩⟩
              simp only at hvi hi ⊢
              rw [hg1] at hvi
              by_cases e3 : i = t.pos
              · exact e3
              · rw [if_neg e3] at hvi
                split at hvi
                · omega
                · have := hv i (by simp at hi; omega); omega
            · exact keep1 s hs
          · simp [opn, fitsR, e, e2]
        · obtain ⟨a, b, c⟩ := h4 e
          simp [opn, fitsR, e, a]
      · by_cases e2 : t.op = 18
        · have hf : fitsR 20 (if t.last = t.pos then t.op else 19) = true := by
            split <;> simp [fitsR, e2]
          simp [opn, e2]
          simp [e2] at hf
          simp [hf]
          exact ⟨keep1, fun i hi => by have := v1 i (by simpa using hi); simpa using this, hso.2⟩
        · have e : t.last = t.pos := by
            by_cases e : t.last = t.pos
            · exact e
            · exact absurd (h4 e).1 e2
          have e3 : t.op ≠ 19 := by rcases h3 with h | h | h <;> rw [h] <;> decide
          simp [opn, fitsR, e, e2, e3]
      · by_cases e2 : t.op = 21
        · have e : t.last = t.pos := by
            by_cases e : t.last = t.pos
            · exact e
            · have := (h4 e).1; omega
          simp [opn, fitsR, e, e2]
          rw [e] at keep2 v2
          exact ⟨keep2, fun i hi => by have := v2 i (by simpa using hi); simpa using this, hso.2⟩
        · by_cases e : t.last = t.pos
          · simp [opn, fitsR, e, e2]
          · simp [opn, fitsR, e, e2]
      · by_cases e2 : t.op = 13
        · have e : t.last = t.pos := by
            by_cases e : t.last = t.pos
            · exact e
            · have := (h4 e).1; omega
          simp [opn, fitsR, e, e2]
          rw [e] at keep2 v2
          exact ⟨keep2, fun i hi => by have := v2 i (by simpa using hi); simpa using this, hso.2⟩
        · by_cases e : t.last = t.pos
          · simp [opn, fitsR, e, e2]
          · simp [opn, fitsR, e, e2]
  · simp only [mstep, rstep, if_neg c0, if_neg c1]
    refine ⟨rfl, fun s' hs => ?_⟩
    obtain rfl := Option.some.inj hs
    refine ⟨fun t ht => ?_, fun i hi => ?_, h.sorted⟩
    · refine good_keep (h.ents t ht) (by simp) (fun i hi => Or.inl ?_) ?_
      · rw [getD_snoc, if_neg (by simp only at hi; omega)]
      · rw [getD_snoc, if_pos rfl]; omega
    · simp only [List.length_append, List.length_cons, List.length_nil] at hi ⊢
      rw [getD_snoc]
      split
      · omega
      · have := hv i (by omega); omega
theorem go_same : ∀ (l : List Int) (s : St), Good s → mgo l s = rgo l (s.1, s.2.map re)
  | [], s, h => end_same s h
  | op :: l, s, h => by
    obtain ⟨h1, h2⟩ := step_same s op h
    rw [mgo, rgo, ← h1]
    cases hs : mstep s op with
    | none => rfl
    | some s' => exact go_same l s' (h2 s' hs)
theorem res_same (l : List Int) : mres l = rres l := go_same l ([], []) ⟨fun t ht => by simp at ht, fun i hi => by simp at hi, trivial⟩
end Go.Proofs.Ytipkaloldlplgaa
