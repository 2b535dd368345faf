/-
  One read turned to what never stood there is told, in whatever order: the plain law, and the read in memory.
-/
import Derived.Test.YtnjcebfbfecdeaaSerial
set_option linter.unusedVariables false
namespace Go.Proofs.Ytnjcebfbfecdeaa
open Go.RowKit Go.Maps
/-! ### The plain law -/
def Low (f : Int → Int) : Prop := ∀ x, -2 ≤ f x ∧ f x ≤ 2
theorem Low.start {a b c : Int} (ha : -2 ≤ a ∧ a ≤ 2) (hb : -2 ≤ b ∧ b ≤ 2) (hc : -2 ≤ c ∧ c ≤ 2) : Low (startS [a, b, c]) := by
  intro x
  unfold startS
  split
  · rename_i h
    obtain ⟨q, rfl⟩ := Int.eq_ofNat_of_zero_le h.1
    have hq : q = 0 ∨ q = 1 ∨ q = 2 := by simp at h; omega
    rcases hq with rfl | rfl | rfl
    · exact ha
    · exact hb
    · exact hc
  · omega
theorem Low.want {f : Int → Int} (h : Low f) : ∀ (ws : List Wd), (∀ y ∈ ws, 0 ≤ y.val ∧ y.val < 3) → ∀ x, -2 ≤ wantS f ws x ∧ wantS f ws x ≤ 2 := by
  intro ws hw x
  unfold wantS
  suffices ∀ (ws : List Wd) (a : Int), (∀ y ∈ ws, 0 ≤ y.val ∧ y.val < 3) → -2 ≤ a ∧ a ≤ 2 → -2 ≤ ws.foldl (fun acc p => if p.pl = x then p.val else acc) a ∧ ws.foldl (fun acc p => if p.pl = x then p.val else acc) a ≤ 2 by exact this ws _ hw (h x)
  intro ws
  induction ws with
  | nil => intro a _ ha; exact ha
  | cons y ws ih =>
    intro a hw ha
    rw [List.foldl_cons]
    refine ih _ (fun z hz => hw z (List.mem_cons_of_mem _ hz)) ?_
    have := hw y (List.mem_cons_self ..)
    split <;> omega
theorem Low.app {f : Int → Int} (h : Low f) {p : Att} (hp : ∀ y ∈ p.writes, 0 ≤ y.val ∧ y.val < 3) : Low (appS f p) := by
  unfold appS
  split
  · intro x; rw [putS_at]; exact h.want _ hp x
  · exact h
theorem Low.words {f : Int → Int} (h : Low f) {l : List Att} (hl : ∀ p ∈ l, ∀ y ∈ p.writes, 0 ≤ y.val ∧ y.val < 3) (ord : List Int) (k : Nat) : Low (wordsS f l ord k) := by
  unfold wordsS
  suffices ∀ (o : List Int) (g : Int → Int), Low g → Low (o.foldl (fun g x => appS g (l.getD x.toNat dA)) g) by exact this _ _ h
  intro o
  induction o with
  | nil => intro g hg; exact hg
  | cons x o ih =>
    intro g hg
    rw [List.foldl_cons]
    refine ih _ (hg.app (fun y hy => ?_))
    by_cases e : x.toNat < l.length
    · rw [List.getD, List.getElem?_eq_getElem e] at hy
      exact hl _ (List.getElem_mem e) y hy
    · rw [List.getD, List.getElem?_eq_none (by omega)] at hy
      simp [dA] at hy
theorem nodup_len (n : Nat) : ∀ (l : List Int), l.Nodup → (∀ x ∈ l, 0 ≤ x ∧ x < n) → l.length ≤ n := by
  induction n with
  | zero =>
    intro l _ h
    cases l with
    | nil => simp
    | cons x l => have := h x (List.mem_cons_self ..); omega
  | succ n ih =>
    intro l hn h
    by_cases e : (n : Int) ∈ l
    · have h1 := ih (l.erase (n : Int)) (hn.erase _) (fun x hx => by
        have h2 := (hn.mem_erase_iff).1 hx
        have := h x h2.2
        have := h2.1
        omega)
      rw [List.length_erase_of_mem e] at h1
      omega
    · have := ih l hn (fun x hx => by
        have h2 := h x hx
        have : x ≠ n := fun e' => e (e' ▸ hx)
        omega)
      omega
/-- A read of 77 is told in whatever order. -/
theorem turned_told {a b c : Int} (ha : -2 ≤ a ∧ a ≤ 2) (hb : -2 ≤ b ∧ b ≤ 2) (hc : -2 ≤ c ∧ c ≤ 2) {l : List Att} (hl : ∀ p ∈ l, ∀ y ∈ p.writes, 0 ≤ y.val ∧ y.val < 3)
    (i j : Nat) (p : Att) (y : Wd) (hp : l[i]? = some p) (hy : p.reads[j]? = some y) (h77 : y.val = 77) (ord : List Int) : ¬ LegalS [a, b, c] l ord (-1) := by
  rintro (⟨_, h⟩ | ⟨hm, ⟨k, hk, h, _⟩ | ⟨_, h⟩⟩)
  · cases h
  · omega
  · have hil : i < l.length := (List.getElem?_eq_some_iff.1 hp).1
    have hin : (i : Int) ∈ ord := by
      have hsub := hm.2.1
      have hlen := hm.1
      have hnd := hm.2.2
      by_cases e : (i : Int) ∈ ord
      · exact e
      · exfalso
        have h1 : (ord ++ [(i : Int)]).Nodup := by
          rw [List.nodup_append]
          exact ⟨hnd, by simp, fun x hx z hz e' => by simp at hz; subst hz e'; exact e hx⟩
        have h3 := nodup_len l.length _ h1 (fun x hx => by
          rcases List.mem_append.1 hx with hx | hx
          · exact hsub x hx
          · simp at hx; subst hx; omega)
        rw [List.length_append, hlen] at h3
        simp at h3
        omega
    obtain ⟨m, hm'⟩ := List.getElem?_of_mem hin
    have hml : m < ord.length := (List.getElem?_eq_some_iff.1 hm').1
    have h1 := h m hml
    rw [att_at l ord m i p hm' hp] at h1
    have hjl : j < p.reads.length := (List.getElem?_eq_some_iff.1 hy).1
    have h2 := h1 j hjl
    unfold legK at h2
    have hg : p.reads.getD j dW = y := by rw [List.getD, hy]; rfl
    rw [hg, h77] at h2
    have h3 := ((Low.start ha hb hc).words hl ord m).want (p.writes.take (seenN p j)) (fun y hy => hl p (List.mem_of_getElem? hp) y (List.mem_of_mem_take hy)) y.pl
    omega
theorem legal_ge {s : List Int} {l : List Att} {ord : List Int} {r : Int} (hm : MayS l.length ord) (h : LegalS s l ord r) (hn : ¬ LegalS s l ord (-1)) : 0 ≤ r := by
  have h0 := h
  rcases h with ⟨h1, _⟩ | ⟨_, ⟨k, _, rfl, _⟩ | ⟨rfl, _⟩⟩
  · exact absurd hm h1
  · omega
  · exact absurd h0 hn
theorem find_not {s : List Int} {l : List Att} (h : ∀ ord, ¬ LegalS s l ord (-1)) (f : Nat) (o : List Int) : findF s l f o = none := by
  cases hF : findF s l f o with
  | none => rfl
  | some r => exact absurd (find_right f o r hF).2 (h r)
/-! ### In memory -/
theorem bl_apart {l : List Row} (h : (l.flatMap Row.bl).Nodup) (i k : Nat) (a b : Row) (ha : l[i]? = some a) (hb : l[k]? = some b) (hne : i ≠ k) (g : Nat) (h1 : g ∈ a.bl) (h2 : g ∈ b.bl) : False := by
  rw [List.Nodup, List.pairwise_flatMap] at h
  have hp := List.pairwise_iff_getElem.1 h.2
  have hi : i < l.length := (List.getElem?_eq_some_iff.1 ha).1
  have hk : k < l.length := (List.getElem?_eq_some_iff.1 hb).1
  have ea : l[i] = a := (List.getElem?_eq_some_iff.1 ha).2
  have eb : l[k] = b := (List.getElem?_eq_some_iff.1 hb).2
  rcases Nat.lt_or_gt_of_ne hne with h' | h'
  · exact hp i k hi hk h' g (ea ▸ h1) g (eb ▸ h2) rfl
  · exact hp k i hk hi h' g (eb ▸ h2) g (ea ▸ h1) rfl
/-- The word of a read is stored anew. -/
theorem Outs.rd {w : World} {base g : Nat} {v : Value} {l : List Row} (h : Outs w base v l) (i j : Nat) (r : Row) (y : Wd) (x : Int) (hi : l[i]? = some r) (hj : r.p.reads[j]? = some y) (hg : r.vr.ownBlock = some g) :
    Outs (w.setCell ⟨g, j * 2 + 1, none⟩ (.int .i64 x)) base v (l.set i ⟨{ r.p with reads := r.p.reads.set j ⟨y.pl, x⟩ }, r.vr, r.vw, r.vs⟩) := by
  have hil : i < l.length := (List.getElem?_eq_some_iff.1 hi).1
  have hr := h.each r (List.mem_of_getElem? hi)
  obtain ⟨A, c, hvr, hc⟩ := own_form hr.1
  have hjl : j < r.p.reads.length := (List.getElem?_eq_some_iff.1 hj).1
  obtain ⟨g', hg', hA, _⟩ := own_at hr.1 j hjl
  obtain rfl : g' = g := by rw [hg'] at hg; exact Option.some.inj hg
  have hAe := hA _ _ _ hvr
  subst hAe
  have hr1 := hr.1
  rw [hvr] at hr1
  have hst := hr1.stored (j * 2 + 1) (.int .i64 x)
  have hnd := h.nd
  rw [List.nodup_append] at hnd
  have hgin : g' ∈ r.bl := by simp [Row.bl, mem_ob, hg]
  have hoth : ∀ k, k ≠ g' → (w.setCell ⟨g', j * 2 + 1, none⟩ (.int .i64 x)).heap[k]? = w.heap[k]? := fun k hk => heap_setCell_other w ⟨g', j * 2 + 1, none⟩ k _ hk
  have hfl : (l.set i ⟨{ r.p with reads := r.p.reads.set j ⟨y.pl, x⟩ }, r.vr, r.vw, r.vs⟩).flatMap Row.bl = l.flatMap Row.bl := by
    have : (l.set i ⟨{ r.p with reads := r.p.reads.set j ⟨y.pl, x⟩ }, r.vr, r.vw, r.vs⟩).map Row.bl = l.map Row.bl := by
      rw [List.map_set]
      apply List.ext_getElem?
      intro k
      rw [List.getElem?_set]
      split
      · rename_i e; subst e
        rw [if_pos (by simpa using hil), List.getElem?_map, hi]; rfl
      · rfl
    rw [List.flatMap_def, List.flatMap_def, this]
  have hce : rowCells (l.set i ⟨{ r.p with reads := r.p.reads.set j ⟨y.pl, x⟩ }, r.vr, r.vw, r.vs⟩) = rowCells l := by
    have : (l.set i ⟨{ r.p with reads := r.p.reads.set j ⟨y.pl, x⟩ }, r.vr, r.vw, r.vs⟩).map Row.cells = l.map Row.cells := by
      rw [List.map_set]
      apply List.ext_getElem?
      intro k
      rw [List.getElem?_set]
      split
      · rename_i e; subst e
        rw [if_pos (by simpa using hil), List.getElem?_map, hi]; rfl
      · rfl
    rw [rowCells, rowCells, List.flatMap_def, List.flatMap_def, this]
  refine ⟨?_, fun r' hr' => ?_, ?_⟩
  · rw [List.length_set, hce]
    exact own_same h.out (fun k hk => hoth k (fun e => hnd.2.2 k (mem_ob.2 hk) k (List.mem_flatMap.2 ⟨r, List.mem_of_getElem? hi, e ▸ hgin⟩) rfl))
  · obtain ⟨k, hk⟩ := List.getElem?_of_mem hr'
    by_cases e : i = k
    · subst e
      rw [List.getElem?_set_self hil] at hk
      cases hk
      have hbl : r.bl.Nodup := by
        rw [List.Nodup, List.pairwise_flatMap] at hnd
        exact hnd.2.1.1 r (List.mem_of_getElem? hi)
      simp only [Row.bl] at hbl
      rw [nd3] at hbl
      obtain ⟨_, n1, n2, n3⟩ := hbl
      refine ⟨?_, own_same hr.2.1 (fun k hk => hoth k (fun e => n1 k (by rw [e]; exact mem_ob.2 hg) (mem_ob.2 hk))), own_same hr.2.2 (fun k hk => hoth k (fun e => n2 k (by rw [e]; exact mem_ob.2 hg) (mem_ob.2 hk)))⟩
      have h1 := hst.1
      rw [wdCells, flat_set wdC 2 wdC_len r.p.reads j y ⟨y.pl, x⟩ hj 1 (by decide) (.int .i64 x) rfl] at h1
      show World.ownsRow _ _ _ _ r.vr _ _
      rw [List.length_set, hvr]
      exact h1
    · rw [List.getElem?_set_ne e] at hk
      refine Row.own_same (h.each r' (List.mem_of_getElem? hk)) (fun q hq => hoth q (fun e' => ?_))
      exact bl_apart hnd.2.1 i k r r' hi hk e g' hgin (e' ▸ hq)
  · rw [hfl]; exact h.nd
def atC (q : Nat × Nat) : List Value := [.int .i64 q.1, .int .i64 q.2]
theorem atC_len (q : Nat × Nat) : (atC q).length = 2 := rfl
def AtOk (rows : List Row) (ats : List (Nat × Nat)) : Prop := ∀ q ∈ ats, ∃ r y, rows[q.1]? = some r ∧ r.p.reads[q.2]? = some y
theorem AtOk.snoc {rows : List Row} {ats : List (Nat × Nat)} (h : AtOk rows ats) {i j : Nat} {r : Row} (hr : rows[i]? = some r) (hj : j < r.p.reads.length) : AtOk rows (ats ++ [(i, j)]) := by
  intro q hq
  rcases List.mem_append.1 hq with hq | hq
  · exact h q hq
  · simp at hq; subst hq
    exact ⟨r, _, hr, List.getElem?_eq_getElem hj⟩
theorem info49 : (Try.prog.info? 49).map (fun i => (i.zero, i.size, i.bytes)) = some (some (.agg #[.int .i64 0, .int .i64 0]), 2, 16) := by kernel_rfl
end Go.Proofs.Ytnjcebfbfecdeaa
