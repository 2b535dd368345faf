/-
  Blocks within blocks: plain law: they fit; without one of them they do not.
-/
import Derived.Test.YtipkaloldlplgaaSim
set_option linter.unusedVariables false
namespace Go.Proofs.Ytipkaloldlplgaa
def mrun : List Int → St → Option St
  | [], s => some s
  | op :: l, s => (mstep s op).bind (mrun l)
theorem mgo_run : ∀ (l : List Int) (s s' : St), mrun l s = some s' → mgo l s = mend s'
  | [], s, s', h => by simp only [mrun, Option.some.injEq] at h; subst h; rfl
  | op :: l, s, s', h => by
    simp only [mrun] at h
    obtain ⟨s1, h1, h2⟩ := Option.bind_eq_some_iff.1 h
    rw [mgo, h1]
    exact mgo_run l s1 s' h2
theorem mrun_snoc (l : List Int) (op : Int) : ∀ s : St, mrun (l ++ [op]) s = (mrun l s).bind fun s' => mstep s' op := by
  induction l with
  | nil => intro s; simp [mrun]
  | cons x l ih =>
    intro s
    simp only [List.cons_append, mrun]
    cases mstep s x with
    | none => rfl
    | some s1 => exact ih s1
def six (x : Int) : Prop := x = 18 ∨ x = 21 ∨ x = 13 ∨ x = 20 ∨ x = 22 ∨ x = 14
def clo (x : Int) : Int := if x = 18 then 20 else if x = 21 then 22 else 14
structure Nest (P : List Int) (opn' : List Int) (m : List Int) (st : List Ent) : Prop where
  run : mrun P ([], []) = some (m, st)
  clos : st.map (fun t => clo t.op) = opn'
  len : m.length = P.length
  sixs : ∀ x ∈ P, six x
  ents : ∀ t ∈ st, t.last = t.pos ∧ (t.op = 18 ∨ t.op = 21 ∨ t.op = 13) ∧ t.pos < P.length ∧ P.getD t.pos 0 = t.op ∧ m.getD t.pos 0 = -1
  sorted : Sorted st
  done : ∀ i, i < P.length → (∀ t ∈ st, t.pos ≠ i) → P.getD i 0 ≠ 20 → ∃ j : Nat, m.getD i 0 = j ∧ j < P.length ∧ (P.getD i 0 ≠ 18 → m.getD j 0 = i) ∧ (P.getD i 0 = 18 → i < j ∧ P.getD j 0 = 20)
theorem nest_nil : Nest [] [] [] [] := ⟨rfl, rfl, rfl, by simp, by simp, trivial, by intro i h; simp at h⟩
theorem nest_push {P o m st} (h : Nest P o m st) (op : Int) (ho : op = 18 ∨ op = 21 ∨ op = 13) : Nest (P ++ [op]) (clo op :: o) (m ++ [-1]) (⟨P.length, P.length, op⟩ :: st) := by
  refine ⟨?_, by simp [h.clos], by simp [h.len], ?_, ?_, ⟨fun s hs => ?_, h.sorted⟩, ?_⟩
  · rw [mrun_snoc, h.run]
    simp only [Option.bind_some, mstep, if_pos ho, h.len]
  · intro x hx
    rcases List.mem_append.1 hx with hx | hx
    · exact h.sixs x hx
    · simp at hx; subst hx; unfold six; omega
  · intro t ht
    rcases List.mem_cons.1 ht with rfl | ht
    · exact ⟨rfl, ho, by simp, by rw [getD_snoc, if_pos rfl], by rw [getD_snoc, if_pos (by rw [h.len])]⟩
    · obtain ⟨a, b, c, d, e⟩ := h.ents t ht
      exact ⟨a, b, by simp; omega, by rw [getD_snoc, if_neg (by omega), d], by rw [getD_snoc, if_neg (by rw [h.len]; omega), e]⟩
  · obtain ⟨a, b, c, d, e⟩ := h.ents s hs
    show s.last < P.length
    omega
  · intro i hi hn hp
    simp only [List.length_append, List.length_cons, List.length_nil] at hi
    have hik : i ≠ P.length := fun e => hn ⟨P.length, P.length, op⟩ (by simp) e.symm
    rw [getD_snoc, if_neg hik] at hp
    obtain ⟨j, j1, j2, j3, j4⟩ := h.done i (by omega) (fun t ht => hn t (List.mem_cons_of_mem _ ht)) hp
    refine ⟨j, by rw [getD_snoc, if_neg (by rw [h.len]; omega), j1], by simp; omega, ?_, ?_⟩
    · rw [getD_snoc, if_neg hik, getD_snoc, if_neg (by rw [h.len]; omega)]; exact j3
    · rw [getD_snoc, if_neg hik, getD_snoc, if_neg (by omega)]; exact j4
theorem nest_pop {P : List Int} {c : Int} {o : List Int} {m : List Int} {st : List Ent} (h : Nest P (c :: o) m st) : ∃ m' st', Nest (P ++ [c]) o m' st' := by
  cases st with
  | nil => have := h.clos; simp at this
  | cons t st =>
    have hc := h.clos
    simp only [List.map_cons, List.cons.injEq] at hc
    obtain ⟨hc, hcl⟩ := hc
    obtain ⟨e1, e2, e3, e4, e5⟩ := h.ents t (by simp)
    have hs := h.sorted
    have hml := h.len
    have hdiff : ∀ s ∈ st, s.pos ≠ t.pos ∧ s.pos ≠ P.length := fun s hs' => by
      have := hs.1 s hs'
      obtain ⟨a, _, b, _⟩ := h.ents s (List.mem_cons_of_mem _ hs')
      omega
    -- no place leads to the open one
    have hno : ∀ i, i < P.length → (∀ s ∈ t :: st, s.pos ≠ i) → P.getD i 0 ≠ 20 → P.getD i 0 ≠ 18 → ∀ j : Nat, m.getD i 0 = j → m.getD j 0 = i → j ≠ t.pos := fun i hi hn hp hp2 j hj hjj e => by
      subst e; rw [e5] at hjj; omega
    rcases e2 with e2 | e2 | e2
    · -- an if
      have hc20 : c = 20 := by rw [← hc, e2]; rfl
      subst hc20
      have hm : ∀ i, ((m ++ [(-1 : Int)]).set t.pos (P.length : Int)).getD i 0 = if i = t.pos then (P.length : Int) else if i = P.length then -1 else m.getD i 0 := fun i => by
        rw [getD_set _ _ _ _ (by simp; omega), getD_snoc, hml]
      refine ⟨(m ++ [-1]).set t.pos P.length, st, ?_, hcl, by simp [hml], ?_, ?_, hs.2, ?_⟩
      · rw [mrun_snoc, h.run]
        simp [mstep, opn, e2, e1, hml]
      · intro x hx
        rcases List.mem_append.1 hx with hx | hx
        · exact h.sixs x hx
        · simp at hx; subst hx; unfold six; omega
      · intro s hs'
        obtain ⟨a, b, c', d, e⟩ := h.ents s (List.mem_cons_of_mem _ hs')
        obtain ⟨n1, n2⟩ := hdiff s hs'
        exact ⟨a, b, by simp; omega, by rw [getD_snoc, if_neg (by omega), d], by rw [hm, if_neg n1, if_neg n2, e]⟩
      · intro i hi hn hp
        simp only [List.length_append, List.length_cons, List.length_nil] at hi
        rw [getD_snoc] at hp
        by_cases ei : i = P.length
        · rw [if_pos ei] at hp; exact absurd rfl hp
        rw [if_neg ei] at hp
        by_cases et : i = t.pos
        · refine ⟨P.length, by rw [hm, if_pos et], by simp, ?_, ?_⟩
          · rw [getD_snoc, if_neg ei, et, e4, e2]; intro hx; exact absurd rfl hx
          · intro _; exact ⟨by omega, by rw [getD_snoc, if_pos rfl]⟩
        · have hn' : ∀ s ∈ t :: st, s.pos ≠ i := fun s hs' => by
            rcases List.mem_cons.1 hs' with rfl | hs'
            · exact fun e => et e.symm
            · exact hn s hs'
          obtain ⟨j, j1, j2, j3, j4⟩ := h.done i (by omega) hn' hp
          refine ⟨j, by rw [hm, if_neg et, if_neg ei, j1], by simp; omega, ?_, ?_⟩
          · rw [getD_snoc, if_neg ei]
            intro hq
            rw [hm, if_neg (hno i (by omega) hn' hp hq j j1 (j3 hq)), if_neg (by omega)]; exact j3 hq
          · rw [getD_snoc, if_neg ei, getD_snoc, if_neg (by omega)]; exact j4
    all_goals
      have hm : ∀ i, (((m ++ [(-1 : Int)]).set t.pos (P.length : Int)).set P.length (t.pos : Int)).getD i 0 = if i = P.length then (t.pos : Int) else if i = t.pos then (P.length : Int) else m.getD i 0 := fun i => by
        rw [getD_set _ _ _ _ (by simp; omega), getD_set _ _ _ _ (by simp; omega), getD_snoc, hml]
        by_cases e : i = P.length
        · simp [e]
        · simp [e]
      have hcc : c = clo t.op := hc.symm
      refine ⟨((m ++ [-1]).set t.pos P.length).set P.length t.pos, st, ?_, hcl, by simp [hml], ?_, ?_, hs.2, ?_⟩
      · rw [mrun_snoc, h.run, hcc]
        simp [mstep, opn, clo, e2, e1, hml]
      · intro x hx
        rcases List.mem_append.1 hx with hx | hx
        · exact h.sixs x hx
        · simp at hx; subst hx; rw [hcc]; simp [six, clo, e2]
      · intro s hs'
        obtain ⟨a, b, c', d, e⟩ := h.ents s (List.mem_cons_of_mem _ hs')
        obtain ⟨n1, n2⟩ := hdiff s hs'
        exact ⟨a, b, by simp; omega, by rw [getD_snoc, if_neg (by omega), d], by rw [hm, if_neg n2, if_neg n1, e]⟩
      · intro i hi hn hp
        simp only [List.length_append, List.length_cons, List.length_nil] at hi
        by_cases ei : i = P.length
        · refine ⟨t.pos, by rw [hm, if_pos ei], by simp; omega, ?_, ?_⟩
          · intro _; rw [hm, if_neg (by omega), if_pos rfl, ei]
          · rw [getD_snoc, if_pos ei, hcc]; simp [clo, e2]
        rw [getD_snoc, if_neg ei] at hp
        by_cases et : i = t.pos
        · refine ⟨P.length, by rw [hm, if_neg ei, if_pos et], by simp, ?_, ?_⟩
          · intro _; rw [hm, if_pos rfl, et]
          · rw [getD_snoc, if_neg ei, et, e4, e2]; intro hx; exact absurd hx (by decide)
        · have hn' : ∀ s ∈ t :: st, s.pos ≠ i := fun s hs' => by
            rcases List.mem_cons.1 hs' with rfl | hs'
            · exact fun e => et e.symm
            · exact hn s hs'
          obtain ⟨j, j1, j2, j3, j4⟩ := h.done i (by omega) hn' hp
          refine ⟨j, by rw [hm, if_neg ei, if_neg et, j1], by simp; omega, ?_, ?_⟩
          · rw [getD_snoc, if_neg ei]
            intro hq
            rw [hm, if_neg (by omega), if_neg (hno i (by omega) hn' hp hq j j1 (j3 hq))]; exact j3 hq
          · rw [getD_snoc, if_neg ei, getD_snoc, if_neg (by omega)]; exact j4
theorem odd_fail : ∀ (l : List Int) (s : St), (∀ x ∈ l, six x) → (l.length + s.2.length) % 2 = 1 → (mgo l s).1 = none ∧ 0 ≤ (mgo l s).2
  | [], (m, st), _, h => by
    cases st with
    | nil => simp at h
    | cons t st => exact ⟨rfl, by show (0 : Int) ≤ (t.pos : Int); omega⟩
  | op :: l, (m, st), hs, h => by
    have h6 := hs op (by simp)
    rw [mgo]
    cases hm : mstep (m, st) op with
    | none => exact ⟨rfl, by show (0 : Int) ≤ (m.length : Int); omega⟩
    | some s' =>
      refine odd_fail l s' (fun x hx => hs x (List.mem_cons_of_mem _ hx)) ?_
      simp only [List.length_cons] at h
      have : s'.2.length = st.length + 1 ∨ s'.2.length + 1 = st.length := by
        unfold mstep at hm
        by_cases c0 : op = 18 ∨ op = 21 ∨ op = 13
        · rw [if_pos c0] at hm; obtain rfl := Option.some.inj hm; left; simp
        · rw [if_neg c0, if_pos (by unfold six at h6; omega)] at hm
          cases st with
          | nil => simp at hm
          | cons t st =>
            simp only at hm
            split at hm
            · simp at hm
            · rw [if_neg (by unfold six at h6; omega)] at hm
              split at hm
              · obtain rfl := Option.some.inj hm; right; simp
              · obtain rfl := Option.some.inj hm; right; simp
      omega
theorem nest_end {P m st} (h : Nest P [] m st) : mres P = (some m, -1) ∧ m.length = P.length ∧ ∀ i, i < P.length → P.getD i 0 ≠ 20 → ∃ j : Nat, m.getD i 0 = j ∧ j < P.length ∧ (P.getD i 0 ≠ 18 → m.getD j 0 = i) ∧ (P.getD i 0 = 18 → i < j ∧ P.getD j 0 = 20) := by
  have hst : st = [] := by
    have := h.clos
    cases st with
    | nil => rfl
    | cons t st => simp at this
  subst hst
  exact ⟨mgo_run _ _ _ h.run, h.len, fun i hi hp => h.done i hi (by simp) hp⟩
theorem nest_less {P m st} (h : Nest P [] m st) (k : Nat) (hk : k < P.length) : (mres (P.take k ++ P.drop (k + 1))).1 = none ∧ 0 ≤ (mres (P.take k ++ P.drop (k + 1))).2 := by
  have h1 := (nest_end h).1
  have hev : P.length % 2 = 0 := by
    by_cases e : P.length % 2 = 1
    · have := odd_fail P ([], []) h.sixs (by simpa using e)
      have h2 : (mgo P ([], [])).1 = some m := congrArg Prod.fst h1
      rw [h2] at this
      simp at this
    · omega
  refine odd_fail _ ([], []) (fun x hx => ?_) ?_
  · rcases List.mem_append.1 hx with hx | hx
    · exact h.sixs x (List.mem_of_mem_take hx)
    · exact h.sixs x (List.mem_of_mem_drop hx)
  · simp only [List.length_append, List.length_take, List.length_drop, List.length_nil]
    omega
end Go.Proofs.Ytipkaloldlplgaa
