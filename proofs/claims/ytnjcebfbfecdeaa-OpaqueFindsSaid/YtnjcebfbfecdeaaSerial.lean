/-
  Attempts that were done one behind the other: the plain law.
-/
import Derived.Test.YtnjcebfbfecdeaaOrder
set_option linter.unusedVariables false
namespace Go.Proofs.Ytnjcebfbfecdeaa
open Go.RowKit Go.Maps
theorem wf_int {x : Int} (h : -1048576 ≤ x ∧ x ≤ 1048576) : wf64 x := by
  unfold wf64; simp [Lit.wf, IntKind.min, IntKind.max, IntKind.bits, IntKind.signed]; omega
theorem Part.fine {k : Nat} {f : Int → Int} {right : Bool} {p : Att} (h : Part k f right p) (hk : k ≤ 6) : Fine p := by
  have h1 := h.n1
  have h2 := h.n2
  exact ⟨fun x hx => wf_int (by have := h.rd x hx; omega), fun x hx => ⟨wf_int (by have := h.wr x hx; omega), wf_int (by have := h.wr x hx; omega)⟩, by omega, by omega, by omega⟩
theorem Good.fine {f : Int → Int} {right : Bool} {l : List Att} (h : Good f right l) : ∀ p ∈ l, Fine p := by
  intro p hp
  obtain ⟨i, hi⟩ := List.getElem?_of_mem hp
  obtain ⟨k, hk, hP⟩ := (h i p hi).k
  exact hP.fine hk
/-- The same attempts at other times. -/
def Like (p q : Att) : Prop := q.tr = p.tr ∧ q.en = p.en ∧ q.reads = p.reads ∧ q.writes = p.writes ∧ q.seen = p.seen
theorem Like.refl (p : Att) : Like p p := ⟨rfl, rfl, rfl, rfl, rfl⟩
theorem Like.fine {p q : Att} (h : Like p q) (hp : Fine p) : Fine q := by
  obtain ⟨_, _, h1, h2, h3⟩ := h
  exact ⟨by rw [h1]; exact hp.rd, by rw [h2]; exact hp.wr, by rw [h1]; exact hp.l1, by rw [h2]; exact hp.l2, by rw [h3]; exact hp.l3⟩
theorem Like.app {p q : Att} (h : Like p q) (f : Int → Int) : appS f q = appS f p := by
  obtain ⟨_, h0, h1, h2, h3⟩ := h
  unfold appS; rw [h0, h2]
theorem Like.leg {p q : Att} (h : Like p q) (f : Int → Int) (hl : LegS f p) : LegS f q := by
  obtain ⟨_, h0, h1, h2, h3⟩ := h
  intro k hk
  have := hl k (by rw [← h1]; exact hk)
  unfold legK seenN at *
  rw [h1, h2, h3]
  exact this
/-- Lists of attempts that are alike, one by one. -/
def Alike (l l' : List Att) : Prop := l'.length = l.length ∧ ∀ (i : Nat) p q, l[i]? = some p → l'[i]? = some q → Like p q
theorem Alike.words {l l' : List Att} (h : Alike l l') (f : Int → Int) (k : Nat) (hk : k ≤ l.length) : wordsI f (l'.take k) = wordsI f (l.take k) := by
  induction k with
  | zero => simp
  | succ k ih =>
    obtain ⟨p, hp⟩ : ∃ p, l[k]? = some p := ⟨_, List.getElem?_eq_getElem (by omega)⟩
    obtain ⟨q, hq⟩ : ∃ q, l'[k]? = some q := ⟨_, List.getElem?_eq_getElem (by rw [h.1]; omega)⟩
    rw [take_snoc l k p hp, take_snoc l' k q hq, wordsI_snoc, wordsI_snoc, ih (by omega)]
    exact (h.2 k p q hp hq).app _
theorem idn_take (n k : Nat) (hk : k ≤ n) : (idn n).take k = idn k := by
  simp [idn, ← List.map_take, List.take_range, Nat.min_eq_left hk]
theorem idn_get (n k : Nat) (hk : k < n) : (idn n)[k]? = some (k : Int) := by simp [idn, hk]
theorem words_idn (f : Int → Int) (l : List Att) (k : Nat) (hk : k ≤ l.length) : wordsS f l (idn l.length) k = wordsI f (l.take k) := by
  induction k with
  | zero => simp [wordsS, wordsI]
  | succ k ih =>
    obtain ⟨p, hp⟩ : ∃ p, l[k]? = some p := ⟨_, List.getElem?_eq_getElem (by omega)⟩
    rw [words_step f l (idn l.length) k k p (idn_get _ _ (by omega)) hp, ih (by omega), take_snoc l k p hp, wordsI_snoc]
theorem serial_legal {s : List Int} {l l' : List Att} (hG : Good (startS s) true l) (h : Alike l l') : LegalS s l' (idn l'.length) (-1) := by
  refine Or.inr ⟨may_perm (List.Perm.refl _), Or.inr ⟨rfl, fun m hm => ?_⟩⟩
  rw [idn_len] at hm
  rw [words_idn _ _ _ (by omega)]
  have hml : m < l.length := by rw [← h.1]; exact hm
  obtain ⟨p, hp⟩ : ∃ p, l[m]? = some p := ⟨_, List.getElem?_eq_getElem hml⟩
  obtain ⟨q, hq⟩ : ∃ q, l'[m]? = some q := ⟨_, List.getElem?_eq_getElem hm⟩
  rw [att_at l' (idn l'.length) m m q (idn_get _ _ hm) hq, h.words _ _ (by omega)]
  obtain ⟨k, _, hP⟩ := (hG m p hp).k
  exact (h.2 m p q hp hq).leg _ (fun j hj => hP.lg rfl j hj)
def Serial (l : List Att) : Prop := ∀ (i : Nat) p, l[i]? = some p → p.fr = 4 * i ∧ p.un = 4 * i + 2
theorem serial_time {l : List Att} (h : Serial l) : TimeS l (idn l.length) := by
  refine ⟨may_perm (List.Perm.refl _), fun k m hm hk => ?_⟩
  rw [idn_len] at hk
  obtain ⟨p, hp⟩ : ∃ p, l[k]? = some p := ⟨_, List.getElem?_eq_getElem hk⟩
  obtain ⟨q, hq⟩ : ∃ q, l[m]? = some q := ⟨_, List.getElem?_eq_getElem (by omega)⟩
  rw [att_at l _ k k p (idn_get _ _ hk) hp, att_at l _ m m q (idn_get _ _ (by omega)) hq]
  have h1 := (h k p hp).2
  have h2 := (h m q hq).1
  refine decide_eq_false (fun hh => ?_)
  have := hh.2.2.2
  omega
/-- Where an order goes on to one that is right, the search finds one. -/
theorem find_is {s : List Int} {l : List Att} (f : Nat) : ∀ (o t : List Int), o.length + f = l.length → Right s l (o ++ t) → ∃ r, findF s l f o = some r := by
  induction f with
  | zero =>
    intro o t hl hr
    have ht : t = [] := by
      have := hr.1.1.1
      rw [List.length_append] at this
      exact List.eq_nil_of_length_eq_zero (by omega)
    subst ht
    rw [List.append_nil] at hr
    exact ⟨o, findF_zero_t hr⟩
  | succ f ih =>
    intro o t hl hr
    have hm := hr.1.1
    cases t with
    | nil =>
      have := hm.1
      rw [List.append_nil] at this
      omega
    | cons x t =>
      have hx := hm.2.1 x (by simp)
      obtain ⟨k, rfl⟩ := Int.eq_ofNat_of_zero_le hx.1
      have hno : (k : Int) ∉ o := fun h => by
        have := hm.2.2
        rw [List.nodup_append] at this
        exact this.2.2 _ h _ (by simp) rfl
      obtain ⟨r, hr'⟩ := ih (o ++ [(k : Int)]) t (by simp; omega) (by simpa using hr)
      cases hF : findF s l (f + 1) o with
      | some r => exact ⟨r, rfl⟩
      | none =>
        exfalso
        unfold findF at hF
        rw [List.findSome?_eq_none_iff] at hF
        have := hF k (by simp; omega)
        rw [if_neg hno, hr'] at this
        cases this
theorem find_right {s : List Int} {l : List Att} (f : Nat) : ∀ (o r : List Int), findF s l f o = some r → Right s l r := by
  induction f with
  | zero =>
    intro o r h
    by_cases hr : Right s l o
    · rw [findF_zero_t hr] at h; cases h; exact hr
    · rw [findF_zero_f hr] at h; cases h
  | succ f ih =>
    intro o r h
    unfold findF at h
    obtain ⟨i, _, hi⟩ := List.exists_of_findSome?_eq_some h
    by_cases e : (i : Int) ∈ o
    · rw [if_pos e] at hi; cases hi
    · rw [if_neg e] at hi; exact ih _ _ hi
theorem ints3 {w : World} {b : Nat} {x y z : Int} (hb : b < w.heap.size) (h : w.cell? ⟨b, 0, none⟩ = some (.int .i64 x)) (h' : w.cell? ⟨b, 1, none⟩ = some (.int .i64 y)) (h'' : w.cell? ⟨b, 2, none⟩ = some (.int .i64 z)) :
    IntsAt w (.slice (some ⟨b, 0, none⟩) 3 3) [x, y, z] := by
  refine ⟨_, _, rfl, by simp, fun i u hi => ?_⟩
  match i, hi with
  | 0, hi => simp at hi; subst hi; exact ⟨b, 0, rfl, hb, h⟩
  | 1, hi => simp at hi; subst hi; exact ⟨b, 0, rfl, hb, h'⟩
  | 2, hi => simp at hi; subst hi; exact ⟨b, 0, rfl, hb, h''⟩
theorem tmod3 (s : Int) : ∃ a, s.tmod 3 = a ∧ -2 ≤ a ∧ a ≤ 2 := by
  refine ⟨_, rfl, ?_, ?_⟩
  · have := Int.lt_tmod_of_pos s (show (0 : Int) < 3 by decide); omega
  · have := Int.tmod_lt_of_pos s (show (0 : Int) < 3 by decide); omega
end Go.Proofs.Ytnjcebfbfecdeaa
