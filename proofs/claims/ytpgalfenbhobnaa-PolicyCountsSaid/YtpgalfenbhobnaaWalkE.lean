/-
  The law PolicyEnds as a walk.
-/
import Derived.Test.YtpgalfenbhobnaaWalkD
set_option linter.unusedVariables false
namespace Go.Proofs.Ytpgalfenbhobnaa
open Go.RowKit
set_option maxHeartbeats 1000000
def Blk (w : World) (g : Nat) (t : TypeId) (cs : Array Value) : Prop := w.heap[g]? = some (.cells cs t (0, 0))
section
variable {w w' : World} {g : Nat} {t : TypeId} {cs : Array Value}
theorem Blk.lt (h : Blk w g t cs) : g < w.heap.size := by
  rcases Nat.lt_or_ge g w.heap.size with hlt | hge
  · exact hlt
  · unfold Blk at h; rw [Array.getElem?_eq_none hge] at h; cases h
theorem Blk.cell (h : Blk w g t cs) (i : Nat) : w.cell? ⟨g, i, none⟩ = cs[i]? := cell_of_row w g i cs t (0, 0) h
theorem Blk.frozen (h : Blk w g t cs) (i : Nat) : w.frozen? ⟨g, i, none⟩ = false := by
  unfold Blk at h
  simp [World.frozen?, h]
theorem Blk.new (w : World) (t : TypeId) (cs : Array Value) : Blk (w.alloc (.cells cs t)) w.heap.size t cs := heap_alloc_new w _
theorem Blk.drew (h : Blk w g t cs) : Blk w.drew g t cs := h
theorem Blk.alloc (h : Blk w g t cs) (o : Obj) : Blk (w.alloc o) g t cs := (Below.heap_alloc w o g h.lt).trans h
theorem Blk.set_ (h : Blk w g t cs) (i : Nat) (u : Value) : Blk (w.setCell ⟨g, i, none⟩ u) g t (cs.setIfInBounds i u) := by
  unfold Blk at h ⊢
  simp [World.setCell, Array.getElem?_modify, h]
theorem Blk.far (h : Blk w g t cs) {p : Addr} (hp : g ≠ p.block) (u : Value) : Blk (w.setCell p u) g t cs := (Below.heap_setCell w p u g hp).trans h
theorem Blk.below {B : Nat} (h : Blk w g t cs) (hb : Below B w w') (hg : g < B) : Blk w' g t cs := (hb.block g hg).trans h
theorem Blk.aft (h : Blk w g t cs) (z : Aft w) : Blk z.w g t cs := h.below z.h h.lt
theorem Blk.th (h : Blk w g t cs) (hb : Below w.heap.size w w') : Blk w' g t cs := h.below hb h.lt
end
/-- The ten cells of a tally. -/
def tal (a c1 c2 c3 c4 c5 c6 s r : Int) : Array Value := #[.int .i64 a, .int .i64 0, .int .i64 c1, .int .i64 c2, .int .i64 c3, .int .i64 c4, .int .i64 c5, .int .i64 c6, .int .i64 s, .int .i64 r]
theorem tal_cells {w : World} {g : Nat} {a c1 c2 c3 c4 c5 c6 s r : Int} (h : Blk w g 29 (tal a c1 c2 c3 c4 c5 c6 s r)) :
    (w.cell? ⟨g, 0, none⟩ = some (.int .i64 a) ∧ w.cell? ⟨g, 1, none⟩ = some (.int .i64 0) ∧ w.cell? ⟨g, 2, none⟩ = some (.int .i64 c1) ∧ w.cell? ⟨g, 3, none⟩ = some (.int .i64 c2) ∧ w.cell? ⟨g, 4, none⟩ = some (.int .i64 c3) ∧
     w.cell? ⟨g, 5, none⟩ = some (.int .i64 c4) ∧ w.cell? ⟨g, 6, none⟩ = some (.int .i64 c5) ∧ w.cell? ⟨g, 7, none⟩ = some (.int .i64 c6) ∧ w.cell? ⟨g, 8, none⟩ = some (.int .i64 s) ∧ w.cell? ⟨g, 9, none⟩ = some (.int .i64 r)) ∧
    (w.frozen? ⟨g, 0, none⟩ = false ∧ w.frozen? ⟨g, 1, none⟩ = false ∧ w.frozen? ⟨g, 2, none⟩ = false ∧ w.frozen? ⟨g, 3, none⟩ = false ∧ w.frozen? ⟨g, 4, none⟩ = false ∧ w.frozen? ⟨g, 5, none⟩ = false ∧
     w.frozen? ⟨g, 6, none⟩ = false ∧ w.frozen? ⟨g, 7, none⟩ = false ∧ w.frozen? ⟨g, 8, none⟩ = false ∧ w.frozen? ⟨g, 9, none⟩ = false) := by
  refine ⟨⟨?_, ?_, ?_, ?_, ?_, ?_, ?_, ?_, ?_, ?_⟩, ?_, ?_, ?_, ?_, ?_, ?_, ?_, ?_, ?_, ?_⟩ <;> first | (rw [h.cell]; rfl) | exact h.frozen _
theorem after_s1 (k c1 c2 c3 c4 c5 c6 r s u : Int) (w : World) (hk : 0 ≤ k ∧ k < 100) (h1 : 0 ≤ c1 ∧ c1 < 100) (h2 : 0 ≤ c2 ∧ c2 < 100) (h3 : 0 ≤ c3 ∧ c3 < 100) (h4 : 0 ≤ c4 ∧ c4 < 100) (h5 : 0 ≤ c5 ∧ c5 < 100) (h6 : 0 ≤ c6 ∧ c6 < 100) :
    Calls Try.prog 9 #[.agg #[.int .i64 k, .int .i64 0, .int .i64 c1, .int .i64 c2, .int .i64 c3, .int .i64 c4, .int .i64 c5, .int .i64 c6, .int .i64 s, .int .i64 u], .int .i64 1, .int .i64 r] w fun e w' =>
      e = .returned (.tuple #[.agg #[.int .i64 (k + 1), .int .i64 0, .int .i64 (c1 + 1), .int .i64 c2, .int .i64 c3, .int .i64 c4, .int .i64 c5, .int .i64 c6, .int .i64 s, .int .i64 u], .bool (decide (r < k + 1))]) ∧ Below w.heap.size w w' :=
  (after_any k 0 c1 c2 c3 c4 c5 c6 s u 1 r w (by omega) (by omega) (by omega) (by omega) (by omega) (by omega) (by omega)).mono fun e w' h => ⟨by
    have e0 : moreF k = k + 1 := by unfold moreF; rw [if_neg (by omega)]
    have e1 : moreF c1 = c1 + 1 := by unfold moreF; rw [if_neg (by omega)]
    rw [h.1, e0]; simp [up, e1], h.2⟩
theorem after_s2 (k c1 c2 c3 c4 c5 c6 r s u : Int) (w : World) (hk : 0 ≤ k ∧ k < 100) (h1 : 0 ≤ c1 ∧ c1 < 100) (h2 : 0 ≤ c2 ∧ c2 < 100) (h3 : 0 ≤ c3 ∧ c3 < 100) (h4 : 0 ≤ c4 ∧ c4 < 100) (h5 : 0 ≤ c5 ∧ c5 < 100) (h6 : 0 ≤ c6 ∧ c6 < 100) :
    Calls Try.prog 9 #[.agg #[.int .i64 k, .int .i64 0, .int .i64 c1, .int .i64 c2, .int .i64 c3, .int .i64 c4, .int .i64 c5, .int .i64 c6, .int .i64 s, .int .i64 u], .int .i64 2, .int .i64 r] w fun e w' =>
      e = .returned (.tuple #[.agg #[.int .i64 (k + 1), .int .i64 0, .int .i64 c1, .int .i64 (c2 + 1), .int .i64 c3, .int .i64 c4, .int .i64 c5, .int .i64 c6, .int .i64 s, .int .i64 u], .bool (decide (r < k + 1))]) ∧ Below w.heap.size w w' :=
  (after_any k 0 c1 c2 c3 c4 c5 c6 s u 2 r w (by omega) (by omega) (by omega) (by omega) (by omega) (by omega) (by omega)).mono fun e w' h => ⟨by
    have e0 : moreF k = k + 1 := by unfold moreF; rw [if_neg (by omega)]
    have e1 : moreF c2 = c2 + 1 := by unfold moreF; rw [if_neg (by omega)]
    rw [h.1, e0]; simp [up, e1], h.2⟩
theorem after_s3 (k c1 c2 c3 c4 c5 c6 r s u : Int) (w : World) (hk : 0 ≤ k ∧ k < 100) (h1 : 0 ≤ c1 ∧ c1 < 100) (h2 : 0 ≤ c2 ∧ c2 < 100) (h3 : 0 ≤ c3 ∧ c3 < 100) (h4 : 0 ≤ c4 ∧ c4 < 100) (h5 : 0 ≤ c5 ∧ c5 < 100) (h6 : 0 ≤ c6 ∧ c6 < 100) :
    Calls Try.prog 9 #[.agg #[.int .i64 k, .int .i64 0, .int .i64 c1, .int .i64 c2, .int .i64 c3, .int .i64 c4, .int .i64 c5, .int .i64 c6, .int .i64 s, .int .i64 u], .int .i64 3, .int .i64 r] w fun e w' =>
      e = .returned (.tuple #[.agg #[.int .i64 (k + 1), .int .i64 0, .int .i64 c1, .int .i64 c2, .int .i64 (c3 + 1), .int .i64 c4, .int .i64 c5, .int .i64 c6, .int .i64 s, .int .i64 u], .bool (decide (r < k + 1))]) ∧ Below w.heap.size w w' :=
  (after_any k 0 c1 c2 c3 c4 c5 c6 s u 3 r w (by omega) (by omega) (by omega) (by omega) (by omega) (by omega) (by omega)).mono fun e w' h => ⟨by
    have e0 : moreF k = k + 1 := by unfold moreF; rw [if_neg (by omega)]
    have e1 : moreF c3 = c3 + 1 := by unfold moreF; rw [if_neg (by omega)]
    rw [h.1, e0]; simp [up, e1], h.2⟩
theorem after_s4 (k c1 c2 c3 c4 c5 c6 r s u : Int) (w : World) (hk : 0 ≤ k ∧ k < 100) (h1 : 0 ≤ c1 ∧ c1 < 100) (h2 : 0 ≤ c2 ∧ c2 < 100) (h3 : 0 ≤ c3 ∧ c3 < 100) (h4 : 0 ≤ c4 ∧ c4 < 100) (h5 : 0 ≤ c5 ∧ c5 < 100) (h6 : 0 ≤ c6 ∧ c6 < 100) :
    Calls Try.prog 9 #[.agg #[.int .i64 k, .int .i64 0, .int .i64 c1, .int .i64 c2, .int .i64 c3, .int .i64 c4, .int .i64 c5, .int .i64 c6, .int .i64 s, .int .i64 u], .int .i64 4, .int .i64 r] w fun e w' =>
      e = .returned (.tuple #[.agg #[.int .i64 (k + 1), .int .i64 0, .int .i64 c1, .int .i64 c2, .int .i64 c3, .int .i64 (c4 + 1), .int .i64 c5, .int .i64 c6, .int .i64 s, .int .i64 u], .bool true]) ∧ Below w.heap.size w w' :=
  (after_any k 0 c1 c2 c3 c4 c5 c6 s u 4 r w (by omega) (by omega) (by omega) (by omega) (by omega) (by omega) (by omega)).mono fun e w' h => ⟨by
    have e0 : moreF k = k + 1 := by unfold moreF; rw [if_neg (by omega)]
    have e1 : moreF c4 = c4 + 1 := by unfold moreF; rw [if_neg (by omega)]
    rw [h.1, e0]; simp [up, e1], h.2⟩
theorem after_s5 (k c1 c2 c3 c4 c5 c6 r s u : Int) (w : World) (hk : 0 ≤ k ∧ k < 100) (h1 : 0 ≤ c1 ∧ c1 < 100) (h2 : 0 ≤ c2 ∧ c2 < 100) (h3 : 0 ≤ c3 ∧ c3 < 100) (h4 : 0 ≤ c4 ∧ c4 < 100) (h5 : 0 ≤ c5 ∧ c5 < 100) (h6 : 0 ≤ c6 ∧ c6 < 100) :
    Calls Try.prog 9 #[.agg #[.int .i64 k, .int .i64 0, .int .i64 c1, .int .i64 c2, .int .i64 c3, .int .i64 c4, .int .i64 c5, .int .i64 c6, .int .i64 s, .int .i64 u], .int .i64 5, .int .i64 r] w fun e w' =>
      e = .returned (.tuple #[.agg #[.int .i64 (k + 1), .int .i64 0, .int .i64 c1, .int .i64 c2, .int .i64 c3, .int .i64 c4, .int .i64 (c5 + 1), .int .i64 c6, .int .i64 s, .int .i64 u], .bool true]) ∧ Below w.heap.size w w' :=
  (after_any k 0 c1 c2 c3 c4 c5 c6 s u 5 r w (by omega) (by omega) (by omega) (by omega) (by omega) (by omega) (by omega)).mono fun e w' h => ⟨by
    have e0 : moreF k = k + 1 := by unfold moreF; rw [if_neg (by omega)]
    have e1 : moreF c5 = c5 + 1 := by unfold moreF; rw [if_neg (by omega)]
    rw [h.1, e0]; simp [up, e1], h.2⟩
theorem after_s6 (k c1 c2 c3 c4 c5 c6 r s u : Int) (w : World) (hk : 0 ≤ k ∧ k < 100) (h1 : 0 ≤ c1 ∧ c1 < 100) (h2 : 0 ≤ c2 ∧ c2 < 100) (h3 : 0 ≤ c3 ∧ c3 < 100) (h4 : 0 ≤ c4 ∧ c4 < 100) (h5 : 0 ≤ c5 ∧ c5 < 100) (h6 : 0 ≤ c6 ∧ c6 < 100) :
    Calls Try.prog 9 #[.agg #[.int .i64 k, .int .i64 0, .int .i64 c1, .int .i64 c2, .int .i64 c3, .int .i64 c4, .int .i64 c5, .int .i64 c6, .int .i64 s, .int .i64 u], .int .i64 6, .int .i64 r] w fun e w' =>
      e = .returned (.tuple #[.agg #[.int .i64 (k + 1), .int .i64 0, .int .i64 c1, .int .i64 c2, .int .i64 c3, .int .i64 c4, .int .i64 c5, .int .i64 (c6 + 1), .int .i64 s, .int .i64 u], .bool (decide (r < k + 1))]) ∧ Below w.heap.size w w' :=
  (after_any k 0 c1 c2 c3 c4 c5 c6 s u 6 r w (by omega) (by omega) (by omega) (by omega) (by omega) (by omega) (by omega)).mono fun e w' h => ⟨by
    have e0 : moreF k = k + 1 := by unfold moreF; rw [if_neg (by omega)]
    have e1 : moreF c6 = c6 + 1 := by unfold moreF; rw [if_neg (by omega)]
    rw [h.1, e0]; simp [up, e1], h.2⟩

theorem tal_ten {a0 b1 b2 b3 b4 b5 b6 s0 r0 : Int} (cs : Array Value) (hcs : cs = tal a0 b1 b2 b3 b4 b5 b6 s0 r0) (a c1 c2 c3 c4 c5 c6 s r : Int) :
   ((((((((((cs.setIfInBounds 0 (.int .i64 a)).setIfInBounds 1 (.int .i64 0)).setIfInBounds 2 (.int .i64 c1)).setIfInBounds 3 (.int .i64 c2)).setIfInBounds 4 (.int .i64 c3)).setIfInBounds 5 (.int .i64 c4)).setIfInBounds 6 (.int .i64 c5)).setIfInBounds 7 (.int .i64 c6)).setIfInBounds 8 (.int .i64 s)).setIfInBounds 9 (.int .i64 r)) = tal a c1 c2 c3 c4 c5 c6 s r := by
  subst hcs
  simp [tal]
theorem tal_set {w : World} {g : Nat} {a0 b1 b2 b3 b4 b5 b6 s0 r0 : Int} (h : Blk w g 29 (tal a0 b1 b2 b3 b4 b5 b6 s0 r0)) (a c1 c2 c3 c4 c5 c6 s r : Int) :
    Blk ((((((((((w.setCell ⟨g, 0, none⟩ (.int .i64 a)).setCell ⟨g, 1, none⟩ (.int .i64 0)).setCell ⟨g, 2, none⟩ (.int .i64 c1)).setCell ⟨g, 3, none⟩ (.int .i64 c2)).setCell ⟨g, 4, none⟩ (.int .i64 c3)).setCell ⟨g, 5, none⟩ (.int .i64 c4)).setCell ⟨g, 6, none⟩ (.int .i64 c5)).setCell ⟨g, 7, none⟩ (.int .i64 c6)).setCell ⟨g, 8, none⟩ (.int .i64 s)).setCell ⟨g, 9, none⟩ (.int .i64 r)) g 29 (tal a c1 c2 c3 c4 c5 c6 s r) := by
  have h1 := (((((((((h.set_ 0 (.int .i64 a)).set_ 1 (.int .i64 0)).set_ 2 (.int .i64 c1)).set_ 3 (.int .i64 c2)).set_ 4 (.int .i64 c3)).set_ 5 (.int .i64 c4)).set_ 6 (.int .i64 c5)).set_ 7 (.int .i64 c6)).set_ 8 (.int .i64 s)).set_ 9 (.int .i64 r)
  rwa [tal_ten _ rfl] at h1
theorem tal_bel {a w : World} {g : Nat} (h : Below a.heap.size a w) (hg : a.heap.size ≤ g) (v0 v1 v2 v3 v4 v5 v6 v7 v8 v9 : Value) :
    Below a.heap.size a ((((((((((w.setCell ⟨g, 0, none⟩ v0).setCell ⟨g, 1, none⟩ v1).setCell ⟨g, 2, none⟩ v2).setCell ⟨g, 3, none⟩ v3).setCell ⟨g, 4, none⟩ v4).setCell ⟨g, 5, none⟩ v5).setCell ⟨g, 6, none⟩ v6).setCell ⟨g, 7, none⟩ v7).setCell ⟨g, 8, none⟩ v8).setCell ⟨g, 9, none⟩ v9) :=
  Bset (Bset (Bset (Bset (Bset (Bset (Bset (Bset (Bset (Bset h hg _) hg _) hg _) hg _) hg _) hg _) hg _) hg _) hg _) hg _
/-- What the loop knows at its head. -/
def EndsRel (w : World) (B n : Nat) (i : Value) (wr : World) : Prop :=
  ∃ k : Nat, k ≤ n ∧ i = .int .i64 k ∧ ∃ c1 c2 c3 c4 c5 c6 : Int, (0 ≤ c1 ∧ 0 ≤ c2 ∧ 0 ≤ c3 ∧ 0 ≤ c4 ∧ 0 ≤ c5 ∧ 0 ≤ c6) ∧ c1 + c2 + c3 + c4 + c5 + c6 = k ∧
    Blk wr B 29 (tal k c1 c2 c3 c4 c5 c6 0 0) ∧ Below w.heap.size w wr ∧ w.heap.size ≤ B
theorem ends_step {w wr w1 : World} {B n k : Nat} {c1 c2 c3 c4 c5 c6 : Int} (d1 d2 d3 d4 d5 d6 : Int) (hk : k < n) (hblk : Blk wr B 29 (tal k c1 c2 c3 c4 c5 c6 0 0)) (hbel : Below w.heap.size w wr) (hB : w.heap.size ≤ B) (hb1 : Below wr.heap.size wr w1) {o : Obj} (z : Aft (w1.alloc o))
    (h0 : 0 ≤ d1 ∧ 0 ≤ d2 ∧ 0 ≤ d3 ∧ 0 ≤ d4 ∧ 0 ≤ d5 ∧ 0 ≤ d6) (hs : d1 + d2 + d3 + d4 + d5 + d6 = (k : Int) + 1) :
    EndsRel w B n (.int .i64 ((k : Int) + 1)) ((((((((((z.w.setCell ⟨B, 0, none⟩ (.int .i64 ((k : Int) + 1))).setCell ⟨B, 1, none⟩ (.int .i64 0)).setCell ⟨B, 2, none⟩ (.int .i64 d1)).setCell ⟨B, 3, none⟩ (.int .i64 d2)).setCell ⟨B, 4, none⟩ (.int .i64 d3)).setCell ⟨B, 5, none⟩ (.int .i64 d4)).setCell ⟨B, 6, none⟩ (.int .i64 d5)).setCell ⟨B, 7, none⟩ (.int .i64 d6)).setCell ⟨B, 8, none⟩ (.int .i64 0)).setCell ⟨B, 9, none⟩ (.int .i64 0)) :=
  ⟨k + 1, hk, by simp, d1, d2, d3, d4, d5, d6, h0, by omega, tal_set (((hblk.th hb1).alloc _).aft z) _ _ _ _ _ _ _ _ _, tal_bel (Bth (Bal (Bth hbel hb1) _) z.h) hB _ _ _ _ _ _ _ _ _ _, hB⟩
def pre (l : List Int) (j : Nat) : Int := (l.take j).sum
theorem pre_bd (c1 c2 c3 c4 c5 c6 : Int) (j : Nat) (h0 : 0 ≤ c1 ∧ 0 ≤ c2 ∧ 0 ≤ c3 ∧ 0 ≤ c4 ∧ 0 ≤ c5 ∧ 0 ≤ c6) (hj : j < 7) :
    0 ≤ pre [0, c1, c2, c3, c4, c5, c6] j ∧ pre [0, c1, c2, c3, c4, c5, c6] j ≤ c1 + c2 + c3 + c4 + c5 + c6 ∧ 0 ≤ [0, c1, c2, c3, c4, c5, c6].getD j 0 ∧ [0, c1, c2, c3, c4, c5, c6].getD j 0 ≤ c1 + c2 + c3 + c4 + c5 + c6 ∧
    pre [0, c1, c2, c3, c4, c5, c6] (j + 1) = pre [0, c1, c2, c3, c4, c5, c6] j + [0, c1, c2, c3, c4, c5, c6].getD j 0 := by
  have : j = 0 ∨ j = 1 ∨ j = 2 ∨ j = 3 ∨ j = 4 ∨ j = 5 ∨ j = 6 := by omega
  rcases this with rfl | rfl | rfl | rfl | rfl | rfl | rfl <;> simp [pre] <;> omega
theorem pre_cell {w : World} {g : Nat} {a c1 c2 c3 c4 c5 c6 s r : Int} (h : Blk w g 29 (tal a c1 c2 c3 c4 c5 c6 s r)) (j : Nat) (hj : j < 7) : w.cell? ⟨g, 1 + j, none⟩ = some (.int .i64 ([0, c1, c2, c3, c4, c5, c6].getD j 0)) := by
  rw [h.cell]
  have : j = 0 ∨ j = 1 ∨ j = 2 ∨ j = 3 ∨ j = 4 ∨ j = 5 ∨ j = 6 := by omega
  rcases this with rfl | rfl | rfl | rfl | rfl | rfl | rfl <;> rfl
set_option maxRecDepth 100000 in
theorem law_ends_walk (A : Option Addr) (n cap : Nat) (zs : List Int) (retry : Int) (w : World) (hn : n ≤ 30) (hc : ∀ k, k < n → ∃ b off, A = some ⟨b, off, none⟩ ∧ b < w.heap.size ∧ w.cell? ⟨b, off + k, none⟩ = some (.int .i64 (zs.getD k 0)))
    (hr : -9223372036854775808 ≤ retry ∧ retry ≤ 9223372036854775807) :
    Calls Try.prog 5 #[.int .i64 retry, .slice A n cap] w fun e w' => e = .returned (.bool true) ∧ Below w.heap.size w w' := by
  have HC := Lib.hid hc
  clear hc
  obtain ⟨r, hr0, hr1, hrr, _⟩ := umod retry 21 (by omega) (by omega)
  go_enter Try.func5, Try.ntmps5
  go_wp2_with fail
  go_loopw [7] (fun i wr => EndsRel w w.heap.size n i wr) (fun i _ => n - (intOf i).toNat)
  case atStart => exact ⟨0, Nat.zero_le _, rfl, 0, 0, 0, 0, 0, 0, by omega, by omega, Blk.new _ _ _, Bal (Bre _) _, Nat.le_refl _⟩
  case round =>
    obtain ⟨k, hk, rfl, c1, c2, c3, c4, c5, c6, hc0, hsum, hblk, hbel, _⟩ := hrel
    have HS : Hid (c1 + c2 + c3 + c4 + c5 + c6 = k) := hsum
    have hs1 : c1 + c2 + c3 + c4 + c5 + c6 ≤ k := by omega
    clear hsum
    have HB := Lib.hid hblk
    have hlt0 := hblk.lt
    obtain ⟨⟨d0, d1, d2, d3, d4, d5, d6, d7, d8, d9⟩, f0, f1, f2, f3, f4, f5, f6, f7, f8, f9⟩ := tal_cells hblk
    clear hblk
    by_cases hlt : k < n
    · obtain ⟨b, off, rfl, hbs, hcell⟩ := HC.out k hlt
      have hx : wr.cell? ⟨b, off + k, none⟩ = some (.int .i64 (zs.getD k 0)) := (hbel.cell hbs).trans hcell
      generalize zs.getD k 0 = x at hx
      obtain ⟨q, hq0, hq1, hqq, _⟩ := umod x 6 (by omega) (by omega)
      have hq : q = 0 ∨ q = 1 ∨ q = 2 ∨ q = 3 ∨ q = 4 ∨ q = 5 := by omega
      clear hcell
      rcases hq with rfl | rfl | rfl | rfl | rfl | rfl
      · go_wp2_with fail
        refine (after_s1 _ _ _ _ _ _ _ _ _ _ _ (by omega) (by omega) (by omega) (by omega) (by omega) (by omega) (by omega)).mono ?_
        rintro er w1 ⟨rfl, hb1⟩
        obtain ⟨g1, g2⟩ := bcell hb1
        have hz1 : w.heap.size < w1.heap.size := Nat.lt_of_lt_of_le hlt0 hb1.size
        have hz2 : w.heap.size ≤ w1.heap.size := Nat.le_of_lt hz1
        go_wp2_with fail
        refine wp_region_aft_lit (by kernel_rfl) (by kernel_rfl) ?_
        repeat (go_big_quiet_step (fail))
        refine wpQuiet_nil ?_
        rintro _ ⟨z, rfl⟩
        go_wp2_with fail
        exact ⟨ends_step (c1 + 1) c2 c3 c4 c5 c6 hlt HB.out hbel (Nat.le_refl _) hb1 z (by omega) (by have := HS.out; omega), by simp [intOf]; omega⟩
      · go_wp2_with fail
        refine (after_s2 _ _ _ _ _ _ _ _ _ _ _ (by omega) (by omega) (by omega) (by omega) (by omega) (by omega) (by omega)).mono ?_
        rintro er w1 ⟨rfl, hb1⟩
        obtain ⟨g1, g2⟩ := bcell hb1
        have hz1 : w.heap.size < w1.heap.size := Nat.lt_of_lt_of_le hlt0 hb1.size
        have hz2 : w.heap.size ≤ w1.heap.size := Nat.le_of_lt hz1
        go_wp2_with fail
        refine wp_region_aft_lit (by kernel_rfl) (by kernel_rfl) ?_
        repeat (go_big_quiet_step (fail))
        refine wpQuiet_nil ?_
        rintro _ ⟨z, rfl⟩
        go_wp2_with fail
        exact ⟨ends_step c1 (c2 + 1) c3 c4 c5 c6 hlt HB.out hbel (Nat.le_refl _) hb1 z (by omega) (by have := HS.out; omega), by simp [intOf]; omega⟩
      · go_wp2_with fail
        refine (after_s3 _ _ _ _ _ _ _ _ _ _ _ (by omega) (by omega) (by omega) (by omega) (by omega) (by omega) (by omega)).mono ?_
        rintro er w1 ⟨rfl, hb1⟩
        obtain ⟨g1, g2⟩ := bcell hb1
        have hz1 : w.heap.size < w1.heap.size := Nat.lt_of_lt_of_le hlt0 hb1.size
        have hz2 : w.heap.size ≤ w1.heap.size := Nat.le_of_lt hz1
        go_wp2_with fail
        refine wp_region_aft_lit (by kernel_rfl) (by kernel_rfl) ?_
        repeat (go_big_quiet_step (fail))
        refine wpQuiet_nil ?_
        rintro _ ⟨z, rfl⟩
        go_wp2_with fail
        exact ⟨ends_step c1 c2 (c3 + 1) c4 c5 c6 hlt HB.out hbel (Nat.le_refl _) hb1 z (by omega) (by have := HS.out; omega), by simp [intOf]; omega⟩
      · go_wp2_with fail
        refine (after_s4 _ _ _ _ _ _ _ _ _ _ _ (by omega) (by omega) (by omega) (by omega) (by omega) (by omega) (by omega)).mono ?_
        rintro er w1 ⟨rfl, hb1⟩
        obtain ⟨g1, g2⟩ := bcell hb1
        have hz1 : w.heap.size < w1.heap.size := Nat.lt_of_lt_of_le hlt0 hb1.size
        have hz2 : w.heap.size ≤ w1.heap.size := Nat.le_of_lt hz1
        go_wp2_with fail
        refine wp_region_aft_lit (by kernel_rfl) (by kernel_rfl) ?_
        repeat (go_big_quiet_step (fail))
        refine wpQuiet_nil ?_
        rintro _ ⟨z, rfl⟩
        go_wp2_with fail
        exact ⟨ends_step c1 c2 c3 (c4 + 1) c5 c6 hlt HB.out hbel (Nat.le_refl _) hb1 z (by omega) (by have := HS.out; omega), by simp [intOf]; omega⟩
      · go_wp2_with fail
        refine (after_s5 _ _ _ _ _ _ _ _ _ _ _ (by omega) (by omega) (by omega) (by omega) (by omega) (by omega) (by omega)).mono ?_
        rintro er w1 ⟨rfl, hb1⟩
        obtain ⟨g1, g2⟩ := bcell hb1
        have hz1 : w.heap.size < w1.heap.size := Nat.lt_of_lt_of_le hlt0 hb1.size
        have hz2 : w.heap.size ≤ w1.heap.size := Nat.le_of_lt hz1
        go_wp2_with fail
        refine wp_region_aft_lit (by kernel_rfl) (by kernel_rfl) ?_
        repeat (go_big_quiet_step (fail))
        refine wpQuiet_nil ?_
        rintro _ ⟨z, rfl⟩
        go_wp2_with fail
        exact ⟨ends_step c1 c2 c3 c4 (c5 + 1) c6 hlt HB.out hbel (Nat.le_refl _) hb1 z (by omega) (by have := HS.out; omega), by simp [intOf]; omega⟩
      · go_wp2_with fail
        refine (after_s6 _ _ _ _ _ _ _ _ _ _ _ (by omega) (by omega) (by omega) (by omega) (by omega) (by omega) (by omega)).mono ?_
        rintro er w1 ⟨rfl, hb1⟩
        obtain ⟨g1, g2⟩ := bcell hb1
        have hz1 : w.heap.size < w1.heap.size := Nat.lt_of_lt_of_le hlt0 hb1.size
        have hz2 : w.heap.size ≤ w1.heap.size := Nat.le_of_lt hz1
        go_wp2_with fail
        refine wp_region_aft_lit (by kernel_rfl) (by kernel_rfl) ?_
        repeat (go_big_quiet_step (fail))
        refine wpQuiet_nil ?_
        rintro _ ⟨z, rfl⟩
        go_wp2_with fail
        exact ⟨ends_step c1 c2 c3 c4 c5 (c6 + 1) hlt HB.out hbel (Nat.le_refl _) hb1 z (by omega) (by have := HS.out; omega), by simp [intOf]; omega⟩
    · have hkn : k = n := by omega
      go_wp2_with fail
      go_loop [11, 12] (fun t i => ∃ j : Nat, j ≤ 7 ∧ i = .int .i64 j ∧ t = .int .i64 (pre [0, c1, c2, c3, c4, c5, c6] j)) (fun _ i => 7 - (intOf i).toNat)
      case atStart => exact ⟨0, by omega, rfl, rfl⟩
      case round =>
        obtain ⟨j, hj, rfl, rfl⟩ := hrel
        by_cases hjl : j < 7
        · obtain ⟨p0, p1, p2, p3, p4⟩ := pre_bd c1 c2 c3 c4 c5 c6 j hc0 hjl
          have HP := Lib.hid p4
          have hce := pre_cell HB.out j hjl
          clear p4
          generalize [0, c1, c2, c3, c4, c5, c6].getD j 0 = x at *
          go_wp2_with fail
          go_round
          case rel => exact ⟨j + 1, by omega, by go_num, by rw [HP.out]⟩
          case measure => simp [intOf]; omega
        · have e7 : j = 7 := by omega
          subst e7
          have e8 : pre [0, c1, c2, c3, c4, c5, c6] 7 = (n : Int) := by have := HS.out; subst hkn; simp [pre]; omega
          have he1 := fun w => arr_eql 0 c1 c2 c3 c4 c5 c6 w
          have hm := eqg27
          clear hkn
          go_wp2_with fail
          refine (ended_any _ _ _ _ _ _ _ _ _ _ _ _ (by omega) (by omega)).mono ?_
          rintro er w1 ⟨rfl, hb1⟩
          obtain ⟨g1, g2⟩ := bcell hb1
          have hz1 : w.heap.size < w1.heap.size := Nat.lt_of_lt_of_le hlt0 hb1.size
          have hz2 : w.heap.size ≤ w1.heap.size := Nat.le_of_lt hz1
          have hs0 : sel true (moreF 0) 0 = 1 := by simp [sel, moreF]
          have hs1 : sel true 0 (moreF 0) = 0 := by simp [sel]
          go_wp2_with fail
          refine (told_any _).mono ?_
          rintro er w2 ⟨rfl, hb2⟩
          obtain ⟨g3, g4⟩ := bcell hb2
          have hz3 : w1.heap.size < w2.heap.size := by have := hb2.size; simp at this; omega
          have hz4 : w.heap.size ≤ w2.heap.size := by omega
          go_wp2_with fail
          go_ret
          exact ⟨rfl, Bth (Bal (Bth hbel hb1) _) hb2⟩
theorem law_ends_long (A : Option Addr) (n cap : Nat) (retry : Int) (w : World) (hn : 30 < n) :
    Calls Try.prog 5 #[.int .i64 retry, .slice A n cap] w fun e w' => e = .returned (.bool true) ∧ Below w.heap.size w w' := by
  have hn' : (30 : Int) < (n : Int) := by omega
  go_enter Try.func5, Try.ntmps5
  go_wp2_with (go_at_call 8; refine (told_any _).mono ?_; rintro er w1 ⟨rfl, hb1⟩)
  go_ret
  exact ⟨rfl, hb1⟩
theorem ends_any (A : Option Addr) (n cap : Nat) (zs : List Int) (retry : Int) (w : World) (hc : ∀ k, k < n → ∃ b off, A = some ⟨b, off, none⟩ ∧ b < w.heap.size ∧ w.cell? ⟨b, off + k, none⟩ = some (.int .i64 (zs.getD k 0)))
    (hr : -9223372036854775808 ≤ retry ∧ retry ≤ 9223372036854775807) :
    Calls Try.prog 5 #[.int .i64 retry, .slice A n cap] w fun e w' => e = .returned (.bool true) ∧ Below w.heap.size w w' := by
  rcases Nat.lt_or_ge 30 n with h | h
  · exact law_ends_long A n cap retry w h
  · exact law_ends_walk A n cap zs retry w h hc hr
end Go.Proofs.Ytpgalfenbhobnaa
