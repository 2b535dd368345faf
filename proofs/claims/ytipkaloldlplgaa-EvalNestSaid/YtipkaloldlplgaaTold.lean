/-
  The document's example.
-/
import Derived.Test.YtipkaloldlplgaaNextD
set_option linter.unusedVariables false
namespace Go.Proofs.Ytipkaloldlplgaa
open Go.RowKit
theorem insBox (w : World) (l : List Ins) (cs : Array Value) (hcs : cs.toList = insCells l) (hl : l.length ≤ maxLen) (n : Nat) (hn : n = l.length) : InsAt (w.alloc (.cells cs 24)) (.slice (some ⟨w.heap.size, 0, none⟩) n n) l := by
  subst hn
  have hs : cs.size = l.length * 5 := by rw [← Array.length_toList, hcs, insCells_len]
  have := World.ownsRow_lit (base := w.heap.size) (e := 24) w cs l.length (Nat.le_refl _) hl hs
  rw [hcs] at this
  exact InsAt.own this
theorem IntsAt.own {w : World} {base : Nat} {v : Value} {l : List Int} (h : w.ownsRow base 3 1 v l.length (l.map (Value.int .i64))) : IntsAt w v l := by
  rcases h.2 with ⟨rfl, h0⟩ | ⟨g, cap, cur, rfl, hb, hg, hc1, hc2, hs, ht⟩
  · have : l = [] := List.eq_nil_of_length_eq_zero h0
    subst this
    exact ⟨none, 0, rfl, fun i p hi => by simp at hi⟩
  · refine ⟨some ⟨g, 0, none⟩, cap, rfl, fun i x hi => ⟨g, 0, rfl, (h.lt g rfl).2, ?_⟩⟩
    have hil : i < l.length := (List.getElem?_eq_some_iff.1 hi).1
    rw [Nat.zero_add, h.cellAt _ (by omega)]
    simp [hi]
theorem IntsAt.th {w w' : World} {v : Value} {l : List Int} (h : IntsAt w v l) (hb : Below w.heap.size w w') : IntsAt w' v l := by
  obtain ⟨A, cap, rfl, h⟩ := h
  refine ⟨A, cap, rfl, fun i p hi => ?_⟩
  obtain ⟨b, off, rfl, hlt, h1⟩ := h i p hi
  exact ⟨b, off, rfl, Nat.lt_of_lt_of_le hlt hb.size, (hb.cell hlt).trans h1⟩
theorem intsBox (w : World) (l : List Int) (cs : Array Value) (hcs : cs.toList = l.map (Value.int .i64)) (hl : l.length ≤ maxLen) (n : Nat) (hn : n = l.length) : IntsAt (w.alloc (.cells cs 3)) (.slice (some ⟨w.heap.size, 0, none⟩) n n) l := by
  subst hn
  have hs : cs.size = l.length * 1 := by rw [← Array.length_toList, hcs]; simp
  have := World.ownsRow_lit (base := w.heap.size) (e := 3) w cs l.length (Nat.le_refl _) hl hs
  rw [hcs] at this
  exact IntsAt.own this
theorem told_mates (w : World) (u : Value) (hu : InsAt w u [⟨18, 0, 0, 0, 0⟩, ⟨19, 0, 0, 0, 0⟩, ⟨20, 0, 0, 0, 0⟩]) :
    Calls Try.prog 16 #[u] w fun e w' => ∃ g c, e = .returned (.tuple #[.slice (some ⟨g, 0, none⟩) 3 c, .int .i64 (-1)]) ∧ g < w'.heap.size ∧ w'.cell? ⟨g, 0, none⟩ = some (.int .i64 1) ∧ w'.cell? ⟨g, 1, none⟩ = some (.int .i64 2) ∧ w'.cell? ⟨g, 2, none⟩ = some (.int .i64 (-1)) ∧ Below w.heap.size w w' := by
  refine (mates_any _ u w (by simp) hu).mono ?_
  rintro e w' ⟨v, rfl, hm, hb⟩
  have hr : mres ([⟨18, 0, 0, 0, 0⟩, ⟨19, 0, 0, 0, 0⟩, ⟨20, 0, 0, 0, 0⟩].map Ins.op) = (some [1, 2, -1], -1) := by decide
  rw [hr] at hm ⊢
  have ho : w'.ownsRow w.heap.size 3 1 v 3 [.int .i64 1, .int .i64 2, .int .i64 (-1)] := hm
  rcases ho.2 with ⟨_, h0⟩ | ⟨g, cap, cur, rfl, _⟩
  · omega
  · exact ⟨g, cap, rfl, (ho.lt g rfl).2, by rw [ho.cellAt 0 (by omega)]; rfl, by rw [ho.cellAt 1 (by omega)]; rfl, by rw [ho.cellAt 2 (by omega)]; rfl, hb⟩
theorem told_next (w : World) (u v : Value) (hu : InsAt w u [⟨1, 2, 0, 0, 9⟩]) (hv : IntsAt w v [-1]) :
    Calls Try.prog 18 #[u, v, .int .i64 0, .agg #[.int .i64 0, .int .i64 0, .int .i64 0, .int .i64 0]] w fun e w' => e = .returned (.tuple #[.int .i64 1, .agg #[.int .i64 0, .int .i64 0, .int .i64 9, .int .i64 0], .bool true]) ∧ Below w.heap.size w w' := by
  refine (next_any _ u v _ 0 ⟨0, 0, 0, 0⟩ w (by simp) hu hv).mono ?_
  rintro e w' ⟨rfl, hb⟩
  refine ⟨?_, hb⟩
  have hr : nextF [⟨1, 2, 0, 0, 9⟩] [-1] 0 ⟨0, 0, 0, 0⟩ = (1, ⟨0, 0, 9, 0⟩, true) := by decide
  rw [hr]; rfl
set_option maxHeartbeats 800000 in
theorem told_any (w : World) : Calls Try.prog 10 #[] w fun e w' => e = .returned (.bool true) ∧ Below w.heap.size w w' := by
  go_enter Try.func10, Try.ntmps10
  go_wp2_with fail
  refine (told_mates _ _ (insBox _ [⟨18, 0, 0, 0, 0⟩, ⟨19, 0, 0, 0, 0⟩, ⟨20, 0, 0, 0, 0⟩] _ rfl (by unfold maxLen; simp) _ rfl)).mono ?_
  rintro e w1 ⟨g, c, rfl, hg, x0, x1, x2, hb1⟩
  go_wp2_with fail
  refine (told_next _ _ _ ?_ ?_).mono ?_
  · exact (insBox _ [⟨1, 2, 0, 0, 9⟩] _ rfl (by unfold maxLen; simp) _ rfl).th (Bal (Bre _) _)
  · have := intsBox (w1.alloc (.cells #[.int .i64 1, .int .i64 2, .int .i64 0, .int .i64 0, .int .i64 9] 24)) [-1] #[.int .i64 (-1)] rfl (by unfold maxLen; simp) 1 rfl
    simpa using this
  rintro e w2 ⟨rfl, hb2⟩
  have hbb : Below w1.heap.size w1 w2 := Bth (Bal (Bal (Bre _) _) _) hb2
  have y0 := (hbb.cell (p := ⟨g, 0, none⟩) hg).trans x0
  have y1 := (hbb.cell (p := ⟨g, 1, none⟩) hg).trans x1
  have y2 := (hbb.cell (p := ⟨g, 2, none⟩) hg).trans x2
  have hg2 : g < w2.heap.size := Nat.lt_of_lt_of_le hg hbb.size
  clear x0 x1 x2
  go_wp2_with fail
  go_ret
  exact ⟨rfl, Bal (Bth (Bth (Bal (Bre _) _) hb1) hbb) _⟩
end Go.Proofs.Ytipkaloldlplgaa
