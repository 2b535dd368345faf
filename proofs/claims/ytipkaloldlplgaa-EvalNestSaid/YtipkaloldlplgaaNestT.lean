/-
  Blocks within blocks: the two rows that grow, in memory.
-/
import Derived.Test.YtipkaloldlplgaaNestP
import Derived.Test.YtipkaloldlplgaaLawMates
set_option linter.unusedVariables false
namespace Go.Proofs.Ytipkaloldlplgaa
open Go.RowKit
def insOf (x : Int) : Ins := ⟨x, 0, 0, 0, 0⟩
def lenOf : Value → Nat | .slice _ n _ => n | _ => 0
def Two (w wr : World) (B B2 : Option Addr) (c c2 : Nat) (P O : List Int) : Prop :=
  wr.ownsRow w.heap.size 24 5 (.slice B P.length c) P.length (insCells (P.map insOf)) ∧
  wr.ownsRow w.heap.size 3 1 (.slice B2 O.length c2) O.length (O.reverse.map (Value.int .i64)) ∧
  (∀ g, (Value.slice B P.length c).ownBlock = some g → (Value.slice B2 O.length c2).ownBlock ≠ some g) ∧ Below w.heap.size w wr
theorem kept_of {w w' : World} {base e sz n : Nat} {v : Value} {xs : List Value} {row : Option Nat} (h : w.ownsRow base e sz v n xs) (hg : w.grownBy w' row) (hs : ∀ g, row = some g → v.ownBlock ≠ some g) : w'.ownsRow base e sz v n xs := by
  refine h.kept hg ?_
  cases hv : v.ownBlock with
  | none => exact Or.inl rfl
  | some g => exact Or.inr (fun e => hs g e.symm hv)
theorem Two.addP {w wr wr' w1 : World} {B B2 : Option Addr} {c c2 c' g : Nat} {P O : List Int} {x : Int} (h : Two w wr B B2 c c2 P O) (ha : Below wr.heap.size wr wr')
    (hown : w1.ownsRow w.heap.size 24 5 (.slice (some ⟨g, 0, none⟩) (P.length + 1) c') (P.length + 1) (insCells (P.map insOf) ++ [.int .i64 x, .int .i64 0, .int .i64 0, .int .i64 0, .int .i64 0]))
    (hgrow : wr'.grownBy w1 (Value.slice B P.length c).ownBlock) (hat : (Value.slice B P.length c).ownBlock = some g ∨ g = wr'.heap.size) : Two w w1 (some ⟨g, 0, none⟩) B2 c' c2 (P ++ [x]) O := by
  obtain ⟨hp, ho, hs, hb⟩ := h
  have hb' : Below w.heap.size w wr' := Bth hb ha
  refine ⟨?_, kept_of (own_th ho ha) hgrow hs, ?_, hb'.grown hgrow hb'.size (fun g hg => (hp.lt g hg).1)⟩
  · rw [List.map_append, List.map_cons, List.map_nil, insCells_snoc, List.length_append]; exact hown
  · intro g' hg' e
    have e1 : g = g' := by simpa [Value.ownBlock] using hg'
    subst e1
    rcases hat with hat | hat
    · exact hs g hat e
    · have := (ho.lt g e).2
      have := ha.size
      omega
theorem Two.addO {w wr wr' w1 : World} {B B2 : Option Addr} {c c2 c' g : Nat} {P O : List Int} {x : Int} (h : Two w wr B B2 c c2 P O) (ha : Below wr.heap.size wr wr')
    (hown : w1.ownsRow w.heap.size 3 1 (.slice (some ⟨g, 0, none⟩) (O.length + 1) c') (O.length + 1) (O.reverse.map (Value.int .i64) ++ [.int .i64 x]))
    (hgrow : wr'.grownBy w1 (Value.slice B2 O.length c2).ownBlock) (hat : (Value.slice B2 O.length c2).ownBlock = some g ∨ g = wr'.heap.size) : Two w w1 B (some ⟨g, 0, none⟩) c c' P (x :: O) := by
  obtain ⟨hp, ho, hs, hb⟩ := h
  have hb' : Below w.heap.size w wr' := Bth hb ha
  refine ⟨kept_of (own_th hp ha) hgrow (fun g h1 h2 => hs g h2 h1), ?_, ?_, hb'.grown hgrow hb'.size (fun g hg => (ho.lt g hg).1)⟩
  · rw [List.reverse_cons, List.map_append, List.length_cons]; exact hown
  · intro g' hg' e
    have e1 : g = g' := by simpa [Value.ownBlock] using e
    subst e1
    rcases hat with hat | hat
    · exact hs g hg' hat
    · have := (hp.lt g hg').2
      have := ha.size
      omega
theorem Two.popO {w wr : World} {B B2 : Option Addr} {c c2 : Nat} {P O : List Int} {x : Int} (h : Two w wr B B2 c c2 P (x :: O)) : Two w wr B B2 c c2 P O := by
  obtain ⟨hp, ho, hs, hb⟩ := h
  refine ⟨hp, ?_, fun g h1 h2 => hs g h1 (by rw [← h2]; cases B2 <;> rfl), hb⟩
  rcases ho.2 with ⟨_, h0⟩ | ⟨g, cap, cur, he, _⟩
  · simp at h0
  · simp only [Value.slice.injEq] at he
    obtain ⟨rfl, _, rfl⟩ := he
    have := own_cut ho (n' := O.length) (by simp)
    simpa using this
theorem Two.top {w wr : World} {B B2 : Option Addr} {c c2 : Nat} {P O : List Int} {x : Int} (h : Two w wr B B2 c c2 P (x :: O)) : ∃ g, B2 = some ⟨g, 0, none⟩ ∧ g < wr.heap.size ∧ wr.cell? ⟨g, O.length, none⟩ = some (.int .i64 x) := by
  obtain ⟨hp, ho, hs, hb⟩ := h
  have ho' := ho
  rcases ho.2 with ⟨_, h0⟩ | ⟨g, cap, cur, he, _⟩
  · simp at h0
  · simp only [Value.slice.injEq] at he
    obtain ⟨rfl, _, rfl⟩ := he
    refine ⟨g, rfl, (ho.lt g rfl).2, ?_⟩
    rw [ho.cellAt O.length (by simp)]
    simp
theorem Two.cap {w wr : World} {B B2 : Option Addr} {c c2 : Nat} {P O : List Int} (h : Two w wr B B2 c c2 P O) : O.length ≤ c2 ∧ P.length ≤ c := by
  obtain ⟨hp, ho, hs, hb⟩ := h
  constructor
  · rcases ho.2 with ⟨_, h0⟩ | ⟨g, cap, cur, he, _, _, h1, _⟩
    · omega
    · simp only [Value.slice.injEq] at he
      obtain ⟨_, _, rfl⟩ := he
      exact h1
  · rcases hp.2 with ⟨_, h0⟩ | ⟨g, cap, cur, he, _, _, h1, _⟩
    · omega
    · simp only [Value.slice.injEq] at he
      obtain ⟨_, _, rfl⟩ := he
      exact h1
theorem Two.nil (w : World) : Two w w none none 0 0 [] [] := ⟨World.ownsRow_nil _ _ _ _, World.ownsRow_nil _ _ _ _, by simp [Value.ownBlock], Bre _⟩
theorem Two.ptr {w wr : World} {B B2 : Option Addr} {c c2 : Nat} {P O : List Int} (h : Two w wr B B2 c c2 P O) (h1 : 1 ≤ P.length) : ∃ g, B = some ⟨g, 0, none⟩ ∧ w.heap.size ≤ g ∧ g < wr.heap.size ∧ ∀ i, i < P.length → wr.cell? ⟨g, i * 5, none⟩ = some (.int .i64 (P.getD i 0)) := by
  obtain ⟨hp, ho, hs, hb⟩ := h
  rcases hp.2 with ⟨_, h0⟩ | ⟨g, cap, cur, he, _⟩
  · omega
  · simp only [Value.slice.injEq] at he
    obtain ⟨rfl, _, rfl⟩ := he
    refine ⟨g, rfl, (hp.lt g rfl).1, (hp.lt g rfl).2, fun i hi => ?_⟩
    rw [hp.cellAt (i * 5) (by omega)]
    have := insCells_get (P.map insOf) i (insOf (P.getD i 0)) (by simp [List.getD, hi]) 0 (by omega)
    rw [Nat.add_zero] at this
    rw [this]; rfl
theorem MV.ptr {w : World} {base n : Nat} {v : Value} {m : List Int} (h : MV w base v (some m)) (hn : m.length = n) (h1 : 1 ≤ n) : ∃ g c, v = .slice (some ⟨g, 0, none⟩) n c ∧ base ≤ g ∧ g < w.heap.size ∧ ∀ i, i < n → w.cell? ⟨g, i, none⟩ = some (.int .i64 (m.getD i 0)) := by
  subst hn
  have hp : w.ownsRow base 3 1 v m.length (m.map (Value.int .i64)) := h
  rcases hp.2 with ⟨_, h0⟩ | ⟨g, cap, cur, rfl, _⟩
  · omega
  · refine ⟨g, cap, rfl, (hp.lt g rfl).1, (hp.lt g rfl).2, fun i hi => ?_⟩
    rw [hp.cellAt i (by omega)]
    simp [List.getD, hi]
theorem map_ins (P : List Int) : (P.map insOf).map Ins.op = P := by
  rw [List.map_map]; exact List.map_id _
theorem insCells_take (l : List Ins) : ∀ z, (insCells l).take (z * 5) = insCells (l.take z) := by
  induction l with
  | nil => intro z; simp [insCells]
  | cons x l ih =>
    intro z
    cases z with
    | zero => simp [insCells]
    | succ z =>
      have := ih z
      simp only [insCells, List.flatMap_cons, Ins.cells, List.cons_append, List.nil_append, List.take_succ_cons] at this ⊢
      rw [show (z + 1) * 5 = z * 5 + 1 + 1 + 1 + 1 + 1 by omega]
      simp only [List.take_succ_cons, this]
theorem insCells_drop (l : List Ins) : ∀ z, (insCells l).drop (z * 5) = insCells (l.drop z) := by
  induction l with
  | nil => intro z; simp [insCells]
  | cons x l ih =>
    intro z
    cases z with
    | zero => simp [insCells]
    | succ z =>
      have := ih z
      simp only [insCells, List.flatMap_cons, Ins.cells, List.cons_append, List.nil_append, List.drop_succ_cons] at this ⊢
      rw [show (z + 1) * 5 = z * 5 + 1 + 1 + 1 + 1 + 1 by omega]
      simp only [List.drop_succ_cons, this]
theorem insCells_app (l l' : List Ins) : insCells (l ++ l') = insCells l ++ insCells l' := by simp [insCells]
theorem insCells_one (l : List Ins) : ∀ u ∈ insCells l, u.oneCell' = true := by
  intro u hu
  simp only [insCells, List.mem_flatMap, Ins.cells] at hu
  obtain ⟨x, _, hu⟩ := hu
  simp at hu
  rcases hu with rfl | rfl | rfl | rfl | rfl <;> rfl
theorem ins_news {w : World} {base g n cap : Nat} {l : List Ins} (h : w.ownsRow base 24 5 (.slice (some ⟨g, 0, none⟩) n cap) n (insCells l)) (l' : List Ins) (off : Nat) (hle : off + l'.length ≤ n) (he : l' = (l.drop off).take l'.length) :
    ∀ j u, (insCells l')[j]? = some u → w.cell? ((⟨g, off * 5, none⟩ : Addr).add j) = some u := by
  intro j u hj
  have hjl : j < l'.length * 5 := by rw [← insCells_len]; exact (List.getElem?_eq_some_iff.1 hj).1
  have hadd : (⟨g, off * 5, none⟩ : Addr).add j = ⟨g, off * 5 + j, none⟩ := by simp [Addr.add]
  rw [hadd, h.cellAt _ (by omega), ← hj, he, ← insCells_take, ← insCells_drop, List.getElem?_take_of_lt (by omega), List.getElem?_drop]
theorem ins_news' {w : World} {base g n cap : Nat} {l : List Ins} (h : w.ownsRow base 24 5 (.slice (some ⟨g, 0, none⟩) n cap) n (insCells l)) (l' : List Ins) (off c : Nat) (hle : off + l'.length ≤ n) (he : l' = (l.drop off).take l'.length) (hz : c = off → l' = []) :
    ∀ j u, (insCells l')[j]? = some u → w.cell? ((if c = off then (⟨g, 0, none⟩ : Addr) else ⟨g, off * 5, none⟩).add j) = some u := by
  by_cases hc : c = off
  · intro j u hj
    rw [hz hc] at hj
    simp [insCells] at hj
  · rw [if_neg hc]
    exact ins_news h l' off hle he
theorem ite_some' (c off g : Nat) : (if c = off then some (⟨g, 0, none⟩ : Addr) else some ⟨g, off * 5, none⟩) = some (if c = off then (⟨g, 0, none⟩ : Addr) else ⟨g, off * 5, none⟩) := by split <;> rfl
theorem drop_nil (P : List Int) (c z : Nat) (h : P.length ≤ c) : c = z + 1 → (P.drop (z + 1)).map insOf = [] := by
  intro e
  rw [List.drop_eq_nil_of_le (by omega)]; rfl
theorem own_lit0 (w : World) : ((w.alloc (.cells #[] 24)).drew).ownsRow w.heap.size 24 5 (.slice (some ⟨w.heap.size, 0, none⟩) 0 0) 0 [] :=
  (World.ownsRow_lit (base := w.heap.size) (e := 24) (size := 5) w #[] 0 (Nat.le_refl _) (by unfold maxLen; omega) rfl).drew
theorem lit0_below {w w2 : World} (h : ((w.alloc (.cells #[] 24)).drew).grownBy w2 (Value.slice (some ⟨w.heap.size, 0, none⟩) 0 0).ownBlock) : RowKit.Hid (Below w.heap.size w w2) := by
  have hb : Below w.heap.size w ((w.alloc (.cells #[] 24)).drew) := Bdrew (Bal (Bre _) _)
  refine hb.grown h hb.size (fun g hg => ?_)
  have : w.heap.size = g := by simpa [Value.ownBlock] using hg
  omega
theorem lit0_kept {w w2 : World} {base g n c : Nat} {xs : List Value} (ho : ((w.alloc (.cells #[] 24)).drew).ownsRow base 24 5 (.slice (some ⟨g, 0, none⟩) n c) n xs) (hg : g < w.heap.size)
    (h : ((w.alloc (.cells #[] 24)).drew).grownBy w2 (Value.slice (some ⟨w.heap.size, 0, none⟩) 0 0).ownBlock) : RowKit.Hid (w2.ownsRow base 24 5 (.slice (some ⟨g, 0, none⟩) n c) n xs) := by
  refine kept_of ho h (fun g' h1 h2 => ?_)
  have h3 : w.heap.size = g' := by simpa [Value.ownBlock] using h1
  have h4 : g = g' := by simpa [Value.ownBlock] using h2
  omega
theorem next_below {w w2 w3 : World} {v : Value} {n : Nat} {xs : List Value} (hb : RowKit.Hid (Below w.heap.size w w2)) (ho : w2.ownsRow w.heap.size 24 5 v n xs) (h : w2.grownBy w3 v.ownBlock) : RowKit.Hid (Below w.heap.size w w3) :=
  hb.out.grown h hb.out.size (fun g hg => (ho.lt g hg).1)
theorem wrap_small (z : Nat) (h : z ≤ 24) : wrap64 ((z : Int) + 1) = (z : Int) + 1 := by unfold wrap64; omega
theorem wrap_small' (z : Nat) (h : z ≤ 24) : IntKind.i64.wrap ((z : Int) + 1) = (z : Int) + 1 := by rw [IntKind.wrap_i64]; omega
theorem room1 (z : Nat) (h : z ≤ 24) : 0 + z ≤ maxLen ∧ (0 + z) * 40 ≤ 140737488355328 := by unfold maxLen; omega
theorem room2 (z n : Nat) (h : z ≤ 24) (h2 : n ≤ 24) : 0 + z + (n - (z + 1)) ≤ maxLen ∧ (0 + z + (n - (z + 1))) * 40 ≤ 140737488355328 ∧ 0 + z + (n - (z + 1)) ≤ 1048576 := by unfold maxLen; omega
theorem clo_of (x : Int) (h : x = 18 ∨ x = 21 ∨ x = 13) : clo x = 20 ∨ clo x = 22 ∨ clo x = 14 := by rcases h with rfl | rfl | rfl <;> simp [clo]
end Go.Proofs.Ytipkaloldlplgaa
