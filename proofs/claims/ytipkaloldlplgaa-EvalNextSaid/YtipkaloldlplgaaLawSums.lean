/-
  The law EvalSums as a walk.
-/
import Derived.Test.YtipkaloldlplgaaTold
set_option linter.unusedVariables false
namespace Go.Proofs.Ytipkaloldlplgaa
open Go.RowKit
theorem xor_self (b : Int) : bits .xor .i64 b b = 0 := by
  simp only [bits, BitVec.xor_self]
  decide
def P6 : List Ins := [⟨2, 2, 0, 1, 0⟩, ⟨3, 2, 2, 1, 0⟩, ⟨7, 3, 2, 0, 0⟩, ⟨5, 1, 1, 1, 0⟩, ⟨4, 0, 0, 1, 0⟩, ⟨6, 2, 1, 0, 0⟩]
def M6 : List Int := [-1, -1, -1, -1, -1, -1]
def sumS (r : Rg) : Nat → Rg
  | 0 => r
  | i + 1 => (sumS r i).set (P6.getD i ⟨0, 0, 0, 0, 0⟩).a (valF (P6.getD i ⟨0, 0, 0, 0, 0⟩) (sumS r i))
theorem sum_step (r : Rg) (i : Nat) (h : i < 6) : nextF P6 M6 i (sumS r i) = ((i : Int) + 1, sumS r (i + 1), true) := by
  have : i = 0 ∨ i = 1 ∨ i = 2 ∨ i = 3 ∨ i = 4 ∨ i = 5 := by omega
  rcases this with rfl | rfl | rfl | rfl | rfl | rfl <;> rfl
theorem sum_end (r : Rg) (h : -9223372036854775808 ≤ r.a ∧ r.a ≤ 9223372036854775807) : sumS r 6 = ⟨0, 0, 0, 1⟩ := by
  obtain ⟨a, b, c, d⟩ := r
  simp only at h
  have h1 : wrap64 (wrap64 (a + b) - b) = a := by unfold wrap64; omega
  have h2 : wrap64 0 = 0 := by unfold wrap64; omega
  have h3 := xor_self b
  simp [sumS, P6, valF, Rg.set, Rg.get, h1, h2, h3, b2i]
theorem RegAt.put {w : World} {g : Nat} {r : Rg} (h : RegAt w g r) (a b c d : Int) :
    RegAt ((((w.setCell ⟨g, 0, none⟩ (.int .i64 a)).setCell ⟨g, 1, none⟩ (.int .i64 b)).setCell ⟨g, 2, none⟩ (.int .i64 c)).setCell ⟨g, 3, none⟩ (.int .i64 d)) g ⟨a, b, c, d⟩ :=
  (((h.set 0 (by omega) a).set 1 (by omega) b).set 2 (by omega) c).set 3 (by omega) d
theorem regNew (w : World) (r : Rg) (t : TypeId) : RegAt (w.alloc (.cells #[.int .i64 r.a, .int .i64 r.b, .int .i64 r.c, .int .i64 r.d] t)) w.heap.size r := by
  refine ⟨by simp, fun j hj => ?_⟩
  have h2 : j = 0 ∨ j = 1 ∨ j = 2 ∨ j = 3 := by omega
  rcases h2 with rfl | rfl | rfl | rfl <;> refine ⟨?_, by simp⟩ <;> simp <;> rfl
theorem regNew' (w : World) (g : Nat) (hg : g = w.heap.size) (r : Rg) (t : TypeId) : RegAt (w.alloc (.cells #[.int .i64 r.a, .int .i64 r.b, .int .i64 r.c, .int .i64 r.d] t)) g r := by
  subst hg; exact regNew w r t
set_option maxRecDepth 100000 in
set_option maxHeartbeats 3200000 in
theorem law_sums (r : Rg) (w : World) (hr : -9223372036854775808 ≤ r.a ∧ r.a ≤ 9223372036854775807) :
    Calls Try.prog 6 #[.agg #[.int .i64 r.a, .int .i64 r.b, .int .i64 r.c, .int .i64 r.d]] w fun e w' => e = .returned (.bool true) ∧ Below w.heap.size w w' := by
  have HE := Lib.hid (sum_end r hr)
  clear hr
  go_enter Try.func6, Try.ntmps6
  go_wp2_with fail
  go_loopw [5] (fun i wr => ∃ (W0 : World) (k : Nat), k ≤ 6 ∧ i = .int .i64 k ∧ RegAt wr (w.heap.size + 1 + 1) (sumS r k) ∧ RegAt W0 w.heap.size r ∧ InsAt W0 (.slice (some ⟨w.heap.size + 1, 0, none⟩) 6 6) P6 ∧ Hid (W0.heap.size = w.heap.size + 1 + 1) ∧ Below w.heap.size w W0 ∧ Below W0.heap.size W0 wr) (fun i _ => 6 - (intOf i).toNat)
  case atStart =>
    refine ⟨(w.alloc (.cells #[.int .i64 r.a, .int .i64 r.b, .int .i64 r.c, .int .i64 r.d] 38)).alloc (.cells (insCells P6).toArray 24), 0, by omega, rfl, ?_, ?_, ?_, ?_, Bal (Bal (Bre _) _) _, Bal (Bre _) _⟩
    · exact regNew' _ _ (by simp) r 38
    · exact regBox w r 38 _
    · have := insBox (w.alloc (.cells #[.int .i64 r.a, .int .i64 r.b, .int .i64 r.c, .int .i64 r.d] 38)) P6 (insCells P6).toArray rfl (by unfold maxLen P6; simp) 6 rfl
      simpa using this
    · show _ = _
      simp
  case round =>
    obtain ⟨W0, k, hk, rfl, hx, hbox, hins, hsz, hbw, hb0⟩ := hrel
    have hz : w.heap.size + 1 + 1 < wr.heap.size := hx.1
    have HX := Lib.hid hx
    have HB := Lib.hid hbox
    have HI := Lib.hid hins
    clear hx hbox hins
    by_cases hlt : k < 6
    · have HS := Lib.hid (sum_step r k hlt)
      generalize hs1 : sumS r k = x at HX HS
      obtain ⟨xa, xb, xc, xd⟩ := x
      have x0 : wr.cell? ⟨w.heap.size + 1 + 1, 0, none⟩ = some (.int .i64 xa) := (HX.out.2 0 (by omega)).1
      have x1 : wr.cell? ⟨w.heap.size + 1 + 1, 1, none⟩ = some (.int .i64 xb) := (HX.out.2 1 (by omega)).1
      have x2 : wr.cell? ⟨w.heap.size + 1 + 1, 2, none⟩ = some (.int .i64 xc) := (HX.out.2 2 (by omega)).1
      have x3 : wr.cell? ⟨w.heap.size + 1 + 1, 3, none⟩ = some (.int .i64 xd) := (HX.out.2 3 (by omega)).1
      have HK := Lib.hid hs1
      clear hs1
      have hlt6 : (k : Int) < 6 := by omega
      go_wp2_with fail
      refine (next_any P6 _ _ M6 _ ⟨xa, xb, xc, xd⟩ _ (by unfold P6; simp) ((HI.out.th hb0).th (Bal (Bre _) _)) (intsBox _ M6 _ rfl (by unfold maxLen M6; simp) _ rfl)).mono ?_
      rintro e w1 ⟨rfl, hb1⟩
      rw [HS.out]
      have hx1 : RegAt w1 (w.heap.size + 1 + 1) ⟨xa, xb, xc, xd⟩ := (HX.out.th (Bal (Bre _) _)).th hb1
      have hbw1 : Below wr.heap.size wr w1 := Bth (Bal (Bre _) _) hb1
      have hz1 : w.heap.size + 1 + 1 < w1.heap.size := hx1.1
      generalize hs2 : sumS r (k + 1) = y
      have HK2 := Lib.hid hs2
      clear hs2
      obtain ⟨ya, yb, yc, yd⟩ := y
      have z0 : w1.cell? ⟨w.heap.size + 1 + 1, 0, none⟩ = some (.int .i64 xa) := (hx1.2 0 (by omega)).1
      have zf0 : w1.frozen? ⟨w.heap.size + 1 + 1, 0, none⟩ = false := (hx1.2 0 (by omega)).2
      have z1 : w1.cell? ⟨w.heap.size + 1 + 1, 1, none⟩ = some (.int .i64 xb) := (hx1.2 1 (by omega)).1
      have zf1 : w1.frozen? ⟨w.heap.size + 1 + 1, 1, none⟩ = false := (hx1.2 1 (by omega)).2
      have z2 : w1.cell? ⟨w.heap.size + 1 + 1, 2, none⟩ = some (.int .i64 xc) := (hx1.2 2 (by omega)).1
      have zf2 : w1.frozen? ⟨w.heap.size + 1 + 1, 2, none⟩ = false := (hx1.2 2 (by omega)).2
      have z3 : w1.cell? ⟨w.heap.size + 1 + 1, 3, none⟩ = some (.int .i64 xd) := (hx1.2 3 (by omega)).1
      have zf3 : w1.frozen? ⟨w.heap.size + 1 + 1, 3, none⟩ = false := (hx1.2 3 (by omega)).2
      unfold outV
      dsimp only
      clear x0 x1 x2 x3
      go_wp2_with fail
      have hge : W0.heap.size ≤ w.heap.size + 1 + 1 := Nat.le_of_eq hsz.out
      have hfin : RegAt (((((w1.setCell ⟨w.heap.size + 1 + 1, 0, none⟩ (.int .i64 ya)).setCell ⟨w.heap.size + 1 + 1, 1, none⟩ (.int .i64 yb)).setCell ⟨w.heap.size + 1 + 1, 2, none⟩ (.int .i64 yc)).setCell ⟨w.heap.size + 1 + 1, 3, none⟩ (.int .i64 yd)).alloc (.cells #[.int .i64 ya, .int .i64 yb, .int .i64 yc, .int .i64 yd] 38)) (w.heap.size + 1 + 1) ⟨ya, yb, yc, yd⟩ := (hx1.put ya yb yc yd).th (Bal (Bre _) _)
      have hbb : Below W0.heap.size W0 (((((w1.setCell ⟨w.heap.size + 1 + 1, 0, none⟩ (.int .i64 ya)).setCell ⟨w.heap.size + 1 + 1, 1, none⟩ (.int .i64 yb)).setCell ⟨w.heap.size + 1 + 1, 2, none⟩ (.int .i64 yc)).setCell ⟨w.heap.size + 1 + 1, 3, none⟩ (.int .i64 yd)).alloc (.cells #[.int .i64 ya, .int .i64 yb, .int .i64 yc, .int .i64 yd] 38)) := Bal (Bset (Bset (Bset (Bset (Bth hb0 hbw1) hge _) hge _) hge _) hge _) _
      exact ⟨⟨W0, k + 1, by omega, by go_num, by rw [HK2.out]; exact hfin, HB.out, HI.out, hsz, hbw, hbb⟩, by (simp [intOf]) <;> omega⟩
    · have hk6 : k = 6 := by omega
      have hxx : RegAt wr (w.heap.size + 1 + 1) ⟨0, 0, 0, 1⟩ := by rw [← HE.out, ← hk6]; exact HX.out
      have HBW := (HB.out.th hb0)
      have hbw0 : Below w.heap.size w wr := hbw.trans (hb0.mono hbw.size)
      have HX2 := Lib.hid hxx
      have HB2 := Lib.hid HBW
      obtain ⟨ra, rb, rc, rd⟩ := r
      have hzz : w.heap.size < wr.heap.size := by omega
      have b0 : wr.cell? ⟨w.heap.size, 0, none⟩ = some (.int .i64 ra) := (HBW.2 0 (by omega)).1
      have b1 : wr.cell? ⟨w.heap.size, 1, none⟩ = some (.int .i64 rb) := (HBW.2 1 (by omega)).1
      have b2 : wr.cell? ⟨w.heap.size, 2, none⟩ = some (.int .i64 rc) := (HBW.2 2 (by omega)).1
      have b3 : wr.cell? ⟨w.heap.size, 3, none⟩ = some (.int .i64 rd) := (HBW.2 3 (by omega)).1
      clear HBW hxx HX HB hk6
      go_wp2_with fail
      refine (next_any [⟨6, 3, 0, 1, 0⟩] _ _ [-1] 0 ⟨ra, rb, rc, rd⟩ _ (by simp) ((insBox wr [⟨6, 3, 0, 1, 0⟩] #[.int .i64 6, .int .i64 3, .int .i64 0, .int .i64 1, .int .i64 0] rfl (by unfold maxLen; simp) _ rfl).th (Bal (Bre _) _)) ?_).mono ?_
      · have := intsBox (wr.alloc (.cells #[.int .i64 6, .int .i64 3, .int .i64 0, .int .i64 1, .int .i64 0] 24)) [-1] #[.int .i64 (-1)] rfl (by unfold maxLen; simp) 1 rfl
        simpa using this
      rintro e w1 ⟨rfl, hb1⟩
      have hn1 : nextF [⟨6, 3, 0, 1, 0⟩] [-1] 0 ⟨ra, rb, rc, rd⟩ = (1, ⟨ra, rb, rc, b2i (decide (ra < rb))⟩, true) := rfl
      rw [hn1]
      unfold outV
      dsimp only
      have hbw1 : Below wr.heap.size wr w1 := Bth (Bal (Bal (Bre _) _) _) hb1
      have hbx1 : RegAt w1 w.heap.size ⟨ra, rb, rc, rd⟩ := HB2.out.th hbw1
      have hz1 : w.heap.size < w1.heap.size := hbx1.1
      have hz2 : w.heap.size < w1.heap.size + 1 := by omega
      have hz3 : w.heap.size < w1.heap.size + 1 + 1 := by omega
      clear hn1 b0 b1 b2 b3
      have b0 : w1.cell? ⟨w.heap.size, 0, none⟩ = some (.int .i64 ra) := (hbx1.2 0 (by omega)).1
      have b1 : w1.cell? ⟨w.heap.size, 1, none⟩ = some (.int .i64 rb) := (hbx1.2 1 (by omega)).1
      have b2 : w1.cell? ⟨w.heap.size, 2, none⟩ = some (.int .i64 rc) := (hbx1.2 2 (by omega)).1
      have b3 : w1.cell? ⟨w.heap.size, 3, none⟩ = some (.int .i64 rd) := (hbx1.2 3 (by omega)).1
      go_wp2_with fail
      refine (next_any [⟨6, 3, 1, 0, 0⟩] _ _ [-1] 0 ⟨ra, rb, rc, rd⟩ _ (by simp) ?_ ?_).mono ?_
      · have := (insBox (w1.alloc (.cells #[.int .i64 ra, .int .i64 rb, .int .i64 rc, .int .i64 (b2i (decide (ra < rb)))] 38)) [⟨6, 3, 1, 0, 0⟩] #[.int .i64 6, .int .i64 3, .int .i64 1, .int .i64 0, .int .i64 0] rfl (by unfold maxLen; simp) 1 rfl).th (Bal (Bre _) (.cells #[.int .i64 (-1)] 3))
        simpa using this
      · have := intsBox ((w1.alloc (.cells #[.int .i64 ra, .int .i64 rb, .int .i64 rc, .int .i64 (b2i (decide (ra < rb)))] 38)).alloc (.cells #[.int .i64 6, .int .i64 3, .int .i64 1, .int .i64 0, .int .i64 0] 24)) [-1] #[.int .i64 (-1)] rfl (by unfold maxLen; simp) 1 rfl
        simpa using this
      rintro e w2 ⟨rfl, hb2⟩
      have hn2 : nextF [⟨6, 3, 1, 0, 0⟩] [-1] 0 ⟨ra, rb, rc, rd⟩ = (1, ⟨ra, rb, rc, b2i (decide (rb < ra))⟩, true) := rfl
      rw [hn2]
      unfold outV
      dsimp only
      have R10 : RegAt w2 w1.heap.size ⟨ra, rb, rc, b2i (decide (ra < rb))⟩ := (((regNew w1 ⟨ra, rb, rc, b2i (decide (ra < rb))⟩ 38).th (Bal (Bre _) _)).th (Bal (Bre _) _)).th hb2
      have hbw2 : Below w1.heap.size w1 w2 := Bth (Bal (Bal (Bal (Bre _) _) _) _) hb2
      have R13 : RegAt (w2.alloc (.cells #[.int .i64 ra, .int .i64 rb, .int .i64 rc, .int .i64 (b2i (decide (rb < ra)))] 38)) w2.heap.size ⟨ra, rb, rc, b2i (decide (rb < ra))⟩ := regNew w2 ⟨ra, rb, rc, b2i (decide (rb < ra))⟩ 38
      have H10 := Lib.hid R10
      have H13 := Lib.hid R13
      clear hn2 b0 b1 b2 b3 R10 R13 hbx1
      go_wp2_with fail
      refine (told_any _).mono ?_
      rintro e w3 ⟨rfl, hb3⟩
      have hb23 : Below w2.heap.size w2 w3 := Bth (Bal (Bre _) _) hb3
      have X3 : RegAt w3 (w.heap.size + 1 + 1) ⟨0, 0, 0, 1⟩ := ((HX2.out.th hbw1).th hbw2).th hb23
      have B3 : RegAt w3 w.heap.size ⟨ra, rb, rc, rd⟩ := ((HB2.out.th hbw1).th hbw2).th hb23
      have R10 : RegAt w3 w1.heap.size ⟨ra, rb, rc, b2i (decide (ra < rb))⟩ := H10.out.th hb23
      have R13 : RegAt w3 w2.heap.size ⟨ra, rb, rc, b2i (decide (rb < ra))⟩ := H13.out.th hb3
      have hcase : (ra < rb ∧ b2i (decide (ra < rb)) = 1 ∧ b2i (decide (rb < ra)) = 0) ∨ (¬ ra < rb ∧ b2i (decide (ra < rb)) = 0 ∧ b2i (decide (rb < ra)) = 1) ∨ (¬ ra < rb ∧ b2i (decide (ra < rb)) = 0 ∧ b2i (decide (rb < ra)) = 0) := by
        by_cases h1 : ra < rb
        · exact Or.inl ⟨h1, by simp [b2i, h1], by simp [b2i]; omega⟩
        · by_cases h2 : rb < ra
          · exact Or.inr (Or.inl ⟨h1, by simp [b2i, h1], by simp [b2i, h2]⟩)
          · exact Or.inr (Or.inr ⟨h1, by simp [b2i, h1], by simp [b2i, h2]⟩)
      clear H10 H13
      generalize b2i (decide (ra < rb)) = s at *
      generalize b2i (decide (rb < ra)) = t at *
      rcases hcase with ⟨hc, rfl, rfl⟩ | ⟨hc, rfl, rfl⟩ | ⟨hc, rfl, rfl⟩
      · skip
        have x0 : w3.cell? ⟨w.heap.size + 1 + 1, 0, none⟩ = some (.int .i64 0) := (X3.2 0 (by omega)).1
        have x1 : w3.cell? ⟨w.heap.size + 1 + 1, 1, none⟩ = some (.int .i64 0) := (X3.2 1 (by omega)).1
        have x2 : w3.cell? ⟨w.heap.size + 1 + 1, 2, none⟩ = some (.int .i64 0) := (X3.2 2 (by omega)).1
        have x3 : w3.cell? ⟨w.heap.size + 1 + 1, 3, none⟩ = some (.int .i64 1) := (X3.2 3 (by omega)).1
        have b0 : w3.cell? ⟨w.heap.size, 0, none⟩ = some (.int .i64 ra) := (B3.2 0 (by omega)).1
        have b1 : w3.cell? ⟨w.heap.size, 1, none⟩ = some (.int .i64 rb) := (B3.2 1 (by omega)).1
        have p0 : w3.cell? ⟨w1.heap.size, 0, none⟩ = some (.int .i64 ra) := (R10.2 0 (by omega)).1
        have p3 : w3.cell? ⟨w1.heap.size, 3, none⟩ = some (.int .i64 1) := (R10.2 3 (by omega)).1
        have q3 : w3.cell? ⟨w2.heap.size, 3, none⟩ = some (.int .i64 0) := (R13.2 3 (by omega)).1
        go_wp2_with fail
        go_ret
        exact ⟨rfl, Bth (Bth (Bth hbw0 hbw1) hbw2) hb23⟩
      · have hcd : decide (ra < rb) = false := by simpa using hc
        have x0 : w3.cell? ⟨w.heap.size + 1 + 1, 0, none⟩ = some (.int .i64 0) := (X3.2 0 (by omega)).1
        have x1 : w3.cell? ⟨w.heap.size + 1 + 1, 1, none⟩ = some (.int .i64 0) := (X3.2 1 (by omega)).1
        have x2 : w3.cell? ⟨w.heap.size + 1 + 1, 2, none⟩ = some (.int .i64 0) := (X3.2 2 (by omega)).1
        have x3 : w3.cell? ⟨w.heap.size + 1 + 1, 3, none⟩ = some (.int .i64 1) := (X3.2 3 (by omega)).1
        have b0 : w3.cell? ⟨w.heap.size, 0, none⟩ = some (.int .i64 ra) := (B3.2 0 (by omega)).1
        have b1 : w3.cell? ⟨w.heap.size, 1, none⟩ = some (.int .i64 rb) := (B3.2 1 (by omega)).1
        have p0 : w3.cell? ⟨w1.heap.size, 0, none⟩ = some (.int .i64 ra) := (R10.2 0 (by omega)).1
        have p3 : w3.cell? ⟨w1.heap.size, 3, none⟩ = some (.int .i64 0) := (R10.2 3 (by omega)).1
        have q3 : w3.cell? ⟨w2.heap.size, 3, none⟩ = some (.int .i64 1) := (R13.2 3 (by omega)).1
        go_wp2_with fail
        go_ret
        exact ⟨rfl, Bth (Bth (Bth hbw0 hbw1) hbw2) hb23⟩
      · have hcd : decide (ra < rb) = false := by simpa using hc
        have x0 : w3.cell? ⟨w.heap.size + 1 + 1, 0, none⟩ = some (.int .i64 0) := (X3.2 0 (by omega)).1
        have x1 : w3.cell? ⟨w.heap.size + 1 + 1, 1, none⟩ = some (.int .i64 0) := (X3.2 1 (by omega)).1
        have x2 : w3.cell? ⟨w.heap.size + 1 + 1, 2, none⟩ = some (.int .i64 0) := (X3.2 2 (by omega)).1
        have x3 : w3.cell? ⟨w.heap.size + 1 + 1, 3, none⟩ = some (.int .i64 1) := (X3.2 3 (by omega)).1
        have b0 : w3.cell? ⟨w.heap.size, 0, none⟩ = some (.int .i64 ra) := (B3.2 0 (by omega)).1
        have b1 : w3.cell? ⟨w.heap.size, 1, none⟩ = some (.int .i64 rb) := (B3.2 1 (by omega)).1
        have p0 : w3.cell? ⟨w1.heap.size, 0, none⟩ = some (.int .i64 ra) := (R10.2 0 (by omega)).1
        have p3 : w3.cell? ⟨w1.heap.size, 3, none⟩ = some (.int .i64 0) := (R10.2 3 (by omega)).1
        have q3 : w3.cell? ⟨w2.heap.size, 3, none⟩ = some (.int .i64 0) := (R13.2 3 (by omega)).1
        go_wp2_with fail
        go_ret
        exact ⟨rfl, Bth (Bth (Bth hbw0 hbw1) hbw2) hb23⟩
end Go.Proofs.Ytipkaloldlplgaa
