/-
  The law EvalLoops as a walk.
-/
import Derived.Test.YtipkaloldlplgaaLawSums
import Derived.Test.YtipkaloldlplgaaInstr
set_option linter.unusedVariables false
namespace Go.Proofs.Ytipkaloldlplgaa
open Go.RowKit
def L5 : List Ins := [⟨1, 1, 0, 0, 1⟩, ⟨21, 0, 0, 0, 0⟩, ⟨3, 0, 0, 1, 0⟩, ⟨2, 3, 3, 1, 0⟩, ⟨22, 0, 0, 0, 0⟩]
def ML5 : List Int := [-1, 4, -1, -1, 1]
def atS (k i : Nat) : Int := if i = 0 then 0 else if i = 4 * k + 2 then 5 else 1 + ((i - 1) % 4 : Nat)
def rgS (k : Nat) (x y : Int) (i : Nat) : Rg :=
  if i = 0 then ⟨k, 0, x, y⟩ else ⟨(k : Int) - ((i - 1) / 4 : Nat) - (if 2 ≤ (i - 1) % 4 then 1 else 0), 1, x, wrap64 (y + ((i - 1) / 4 : Nat) + (if 3 ≤ (i - 1) % 4 then 1 else 0))⟩
theorem n0 (r : Rg) : nextF L5 ML5 0 r = (1, ⟨r.a, 1, r.c, r.d⟩, true) := by rfl
theorem n1y (r : Rg) (h : r.a ≠ 0) : nextF L5 ML5 1 r = (2, r, true) := by
  have : nextF L5 ML5 1 r = if (((21 : Int) = 18 ∨ (21 : Int) = 21) ∧ r.a ≠ 0) then (2, r, true) else (5, r, true) := rfl
  rw [this, if_pos ⟨Or.inr rfl, h⟩]
theorem n1n (r : Rg) (h : r.a = 0) : nextF L5 ML5 1 r = (5, r, true) := by
  have : nextF L5 ML5 1 r = if (((21 : Int) = 18 ∨ (21 : Int) = 21) ∧ r.a ≠ 0) then (2, r, true) else (5, r, true) := rfl
  rw [this, if_neg (fun e => e.2 h)]
theorem n2 (r : Rg) : nextF L5 ML5 2 r = (3, ⟨wrap64 (r.a - r.b), r.b, r.c, r.d⟩, true) := by rfl
theorem n3 (r : Rg) : nextF L5 ML5 3 r = (4, ⟨r.a, r.b, r.c, wrap64 (r.d + r.b)⟩, true) := by rfl
theorem n4 (r : Rg) : nextF L5 ML5 4 r = (1, r, true) := by rfl
theorem loop_step (k : Nat) (x y : Int) (i : Nat) (hk : k ≤ 50) (hy : -9223372036854775808 ≤ y ∧ y ≤ 9223372036854775807) (h : i < 4 * k + 2) : nextF L5 ML5 (atS k i) (rgS k x y i) = (atS k (i + 1), rgS k x y (i + 1), true) := by
  by_cases h0 : i = 0
  · subst h0
    rw [show atS k 0 = 0 from rfl, show rgS k x y 0 = ⟨k, 0, x, y⟩ from rfl, n0]
    have e1 : atS k (0 + 1) = 1 := by unfold atS; rw [if_neg (by omega), if_neg (by omega)]; rfl
    have hw : wrap64 y = y := by unfold wrap64; omega
    have e2 : rgS k x y (0 + 1) = ⟨k, 1, x, y⟩ := by simp [rgS, hw]
    rw [e1, e2]
  obtain ⟨j, s, hs, hi⟩ : ∃ j s, s < 4 ∧ i = 1 + 4 * j + s := ⟨(i - 1) / 4, (i - 1) % 4, by omega, by omega⟩
  have d1 : (i - 1) / 4 = j := by omega
  have d2 : (i - 1) % 4 = s := by omega
  have a1 : atS k i = 1 + (s : Int) := by unfold atS; rw [if_neg h0, if_neg (by omega), d2]
  have r1 : rgS k x y i = ⟨(k : Int) - j - (if 2 ≤ s then 1 else 0), 1, x, wrap64 (y + j + (if 3 ≤ s then 1 else 0))⟩ := by unfold rgS; rw [if_neg h0, d1, d2]
  rw [a1, r1]
  have hs4 : s = 0 ∨ s = 1 ∨ s = 2 ∨ s = 3 := by omega
  have upA : ∀ (t : Nat), i + 1 = 1 + 4 * j + t → t < 4 → ¬ i + 1 = 4 * k + 2 → atS k (i + 1) = 1 + (t : Int) := fun t ht ht4 hne => by
    have q2 : (i + 1 - 1) % 4 = t := by omega
    unfold atS; rw [if_neg (by omega), if_neg hne, q2]
  have upE : i + 1 = 4 * k + 2 → atS k (i + 1) = 5 := fun he => by
    unfold atS; rw [if_neg (by omega), if_pos he]
  have upR : ∀ (t : Nat), i + 1 = 1 + 4 * j + t → t < 4 → rgS k x y (i + 1) = ⟨(k : Int) - j - (if 2 ≤ t then 1 else 0), 1, x, wrap64 (y + j + (if 3 ≤ t then 1 else 0))⟩ := fun t ht ht4 => by
    have q1 : (i + 1 - 1) / 4 = j := by omega
    have q2 : (i + 1 - 1) % 4 = t := by omega
    unfold rgS; rw [if_neg (by omega), q1, q2]
  rcases hs4 with rfl | rfl | rfl | rfl
  · have u2 := upR 1 (by omega) (by omega)
    simp only [show ¬ (2 ≤ 0) by omega, show ¬ (3 ≤ 0) by omega, show ¬ (2 ≤ 1) by omega, show ¬ (3 ≤ 1) by omega, if_false] at u2 ⊢
    rw [u2]
    by_cases hjk : j = k
    · rw [upE (by omega), show (1 : Int) + ((0 : Nat) : Int) = 1 by omega, n1n _ (by show (k : Int) - j - 0 = 0; omega)]
    · rw [upA 1 (by omega) (by omega) (by omega), show (1 : Int) + ((0 : Nat) : Int) = 1 by omega, n1y _ (by show (k : Int) - j - 0 ≠ 0; omega)]
      rfl
  · have u2 := upR 2 (by omega) (by omega)
    simp only [show ¬ (2 ≤ 1) by omega, show ¬ (3 ≤ 1) by omega, show (2 ≤ 2) by omega, show ¬ (3 ≤ 2) by omega, if_false, if_true] at u2 ⊢
    have hjk : j < k := by omega
    rw [u2, upA 2 (by omega) (by omega) (by omega), show (1 : Int) + ((1 : Nat) : Int) = 2 by omega, n2]
    have hw : wrap64 ((k : Int) - j - 0 - 1) = (k : Int) - j - 1 := by unfold wrap64; omega
    simp only [hw]
    rfl
  · have u2 := upR 3 (by omega) (by omega)
    simp only [show (2 ≤ 3) by omega, show (3 ≤ 3) by omega, show (2 ≤ 2) by omega, show ¬ (3 ≤ 2) by omega, if_false, if_true] at u2 ⊢
    rw [u2, upA 3 (by omega) (by omega) (by omega), show (1 : Int) + ((2 : Nat) : Int) = 3 by omega, n3]
    have hw : wrap64 (wrap64 (y + j + 0) + 1) = wrap64 (y + j + 1) := by unfold wrap64; omega
    simp only [hw]
    rfl
  · simp only [show (2 ≤ 3) by omega, show (3 ≤ 3) by omega, if_true]
    rw [show (1 : Int) + ((3 : Nat) : Int) = 4 by omega, n4]
    have q1 : (i + 1 - 1) / 4 = j + 1 := by omega
    have q2 : (i + 1 - 1) % 4 = 0 := by omega
    have e1 : atS k (i + 1) = 1 := by unfold atS; rw [if_neg (by omega), if_neg (by omega), q2]; rfl
    have e2 : rgS k x y (i + 1) = ⟨(k : Int) - j - 1, 1, x, wrap64 (y + j + 1)⟩ := by
      unfold rgS; rw [if_neg (by omega), q1, q2]
      simp only [show ¬ (2 ≤ 0) by omega, show ¬ (3 ≤ 0) by omega, if_false]
      rw [show (k : Int) - ((j + 1 : Nat) : Int) - 0 = (k : Int) - j - 1 by omega, show y + ((j + 1 : Nat) : Int) + 0 = y + j + 1 by omega]
    rw [e1, e2]
theorem at_bd (k i : Nat) (h : i < 4 * k + 2) : 0 ≤ atS k i ∧ atS k i < 5 := by
  unfold atS
  split
  · omega
  · rw [if_neg (by omega)]; omega
theorem loop_end (k : Nat) (x y : Int) : atS k (4 * k + 2) = 5 ∧ rgS k x y (4 * k + 2) = ⟨0, 1, x, wrap64 (y + k)⟩ := by
  constructor
  · unfold atS; rw [if_neg (by omega), if_pos rfl]
  · have q1 : (4 * k + 2 - 1) / 4 = k := by omega
    have q2 : (4 * k + 2 - 1) % 4 = 1 := by omega
    unfold rgS; rw [if_neg (by omega), q1, q2]; simp
theorem res5 : mres (L5.map Ins.op) = (some ML5, -1) := by decide
set_option maxRecDepth 100000 in
set_option maxHeartbeats 3200000 in
theorem law_loops (n x y : Int) (w : World) (hy : -9223372036854775808 ≤ y ∧ y ≤ 9223372036854775807) :
    Calls Try.prog 7 #[.int .i64 n, .int .i64 x, .int .i64 y] w fun e w' => e = .returned (.bool true) ∧ Below w.heap.size w w' := by
  obtain ⟨q, q0, q51, d0, d1⟩ := umod n 51 (by omega) (by omega)
  obtain ⟨k, rfl⟩ := Int.eq_ofNat_of_zero_le q0
  have hk : k ≤ 50 := by omega
  have HST := Lib.hid (fun i h => loop_step k x y i hk hy h)
  have HEN := Lib.hid (loop_end k x y)
  have hwf : wrap64 (y + k) = wrap64 (y + k) := rfl
  clear hy hwf
  go_enter Try.func7, Try.ntmps7
  go_wp2_with fail
  refine (mates_any L5 _ _ (by unfold L5; simp) (insBox _ L5 _ rfl (by unfold maxLen L5; simp) _ rfl)).mono ?_
  rintro e w1 ⟨v, rfl, hm, hb1⟩
  rw [res5] at hm ⊢
  have hio : IntsAt w1 v ML5 := IntsAt.own hm
  have hins : InsAt w1 (.slice (some ⟨w.heap.size, 0, none⟩) 5 5) L5 := (insBox w L5 (insCells L5).toArray rfl (by unfold maxLen L5; simp) 5 rfl).th hb1
  obtain ⟨B, c, rfl⟩ : ∃ B c, v = .slice B 5 c := by
    obtain ⟨B, c, h, _⟩ := hio
    exact ⟨B, c, h⟩
  have hbw1 : Below w.heap.size w w1 := Bth (Bal (Bre _) _) hb1
  have HIO := Lib.hid hio
  have HIN := Lib.hid hins
  clear hm hio hins hb1
  dsimp only
  go_wp2_with fail
  go_loopw [11, 13] (fun a i wr => ∃ j : Nat, j ≤ 4 * k + 2 ∧ i = .int .i64 j ∧ a = .int .i64 (atS k j) ∧ RegAt wr w1.heap.size (rgS k x y j) ∧ Below w1.heap.size w1 wr) (fun _ i _ => 4 * k + 2 - (intOf i).toNat)
  case atStart => exact ⟨0, by omega, rfl, rfl, regNew w1 ⟨k, 0, x, y⟩ 38, Bal (Bre _) _⟩
  case round =>
    obtain ⟨j, hj, rfl, rfl, hx, hb0⟩ := hrel
    have hz : w1.heap.size < wr.heap.size := hx.1
    have HX := Lib.hid hx
    clear hx
    by_cases hlt : j < 4 * k + 2
    · have HS := Lib.hid (HST.out j hlt)
      obtain ⟨a0, a5⟩ := at_bd k j hlt
      generalize atS k j = a at HS a0 a5
      generalize hs1 : rgS k x y j = r at HX HS
      obtain ⟨xa, xb, xc, xd⟩ := r
      have x0 : wr.cell? ⟨w1.heap.size, 0, none⟩ = some (.int .i64 xa) := (HX.out.2 0 (by omega)).1
      have x1 : wr.cell? ⟨w1.heap.size, 1, none⟩ = some (.int .i64 xb) := (HX.out.2 1 (by omega)).1
      have x2 : wr.cell? ⟨w1.heap.size, 2, none⟩ = some (.int .i64 xc) := (HX.out.2 2 (by omega)).1
      have x3 : wr.cell? ⟨w1.heap.size, 3, none⟩ = some (.int .i64 xd) := (HX.out.2 3 (by omega)).1
      clear hs1
      go_wp2_with fail
      refine (next_any L5 _ _ ML5 _ ⟨xa, xb, xc, xd⟩ _ (by unfold L5; simp) (HIN.out.th hb0) (HIO.out.th hb0)).mono ?_
      rintro e w2 ⟨rfl, hb2⟩
      rw [HS.out]
      have hx1 : RegAt w2 w1.heap.size ⟨xa, xb, xc, xd⟩ := HX.out.th hb2
      have hz1 : w1.heap.size < w2.heap.size := hx1.1
      generalize hs2 : rgS k x y (j + 1) = y2
      generalize hs3 : atS k (j + 1) = a2
      have HK2 := Lib.hid hs2
      have HK3 := Lib.hid hs3
      clear hs2 hs3
      obtain ⟨ya, yb, yc, yd⟩ := y2
      have z0 : w2.cell? ⟨w1.heap.size, 0, none⟩ = some (.int .i64 xa) := (hx1.2 0 (by omega)).1
      have zf0 : w2.frozen? ⟨w1.heap.size, 0, none⟩ = false := (hx1.2 0 (by omega)).2
      have z1 : w2.cell? ⟨w1.heap.size, 1, none⟩ = some (.int .i64 xb) := (hx1.2 1 (by omega)).1
      have zf1 : w2.frozen? ⟨w1.heap.size, 1, none⟩ = false := (hx1.2 1 (by omega)).2
      have z2 : w2.cell? ⟨w1.heap.size, 2, none⟩ = some (.int .i64 xc) := (hx1.2 2 (by omega)).1
      have zf2 : w2.frozen? ⟨w1.heap.size, 2, none⟩ = false := (hx1.2 2 (by omega)).2
      have z3 : w2.cell? ⟨w1.heap.size, 3, none⟩ = some (.int .i64 xd) := (hx1.2 3 (by omega)).1
      have zf3 : w2.frozen? ⟨w1.heap.size, 3, none⟩ = false := (hx1.2 3 (by omega)).2
      unfold outV
      dsimp only
      clear x0 x1 x2 x3
      go_wp2_with fail
      go_region
      go_wp2_with fail
      have hfin : RegAt (((((w2.setCell ⟨w1.heap.size, 0, none⟩ (.int .i64 ya)).setCell ⟨w1.heap.size, 1, none⟩ (.int .i64 yb)).setCell ⟨w1.heap.size, 2, none⟩ (.int .i64 yc)).setCell ⟨w1.heap.size, 3, none⟩ (.int .i64 yd)).alloc (.cells #[.int .i64 ya, .int .i64 yb, .int .i64 yc, .int .i64 yd] 38)).drew w1.heap.size ⟨ya, yb, yc, yd⟩ := (hx1.put ya yb yc yd).th (Bdrew (Bal (Bre _) _))
      have hbb : Below w1.heap.size w1 (((((w2.setCell ⟨w1.heap.size, 0, none⟩ (.int .i64 ya)).setCell ⟨w1.heap.size, 1, none⟩ (.int .i64 yb)).setCell ⟨w1.heap.size, 2, none⟩ (.int .i64 yc)).setCell ⟨w1.heap.size, 3, none⟩ (.int .i64 yd)).alloc (.cells #[.int .i64 ya, .int .i64 yb, .int .i64 yc, .int .i64 yd] 38)).drew := Bdrew (Bal (Bset (Bset (Bset (Bset (Bth hb0 hb2) (Nat.le_refl _) _) (Nat.le_refl _) _) (Nat.le_refl _) _) (Nat.le_refl _) _) _)
      exact ⟨⟨j + 1, by omega, by go_num, by rw [HK3.out], by rw [HK2.out]; exact hfin, hbb⟩, by (simp [intOf]) <;> omega⟩
    · have hj2 : j = 4 * k + 2 := by omega
      have hxx : RegAt wr w1.heap.size ⟨0, 1, x, wrap64 (y + k)⟩ := by rw [← HEN.out.2, ← hj2]; exact HX.out
      have haa : atS k j = 5 := by rw [hj2]; exact HEN.out.1
      rw [haa]
      clear haa HX
      have x0 : wr.cell? ⟨w1.heap.size, 0, none⟩ = some (.int .i64 0) := (hxx.2 0 (by omega)).1
      have x1 : wr.cell? ⟨w1.heap.size, 1, none⟩ = some (.int .i64 1) := (hxx.2 1 (by omega)).1
      have x2 : wr.cell? ⟨w1.heap.size, 2, none⟩ = some (.int .i64 x) := (hxx.2 2 (by omega)).1
      have x3 : wr.cell? ⟨w1.heap.size, 3, none⟩ = some (.int .i64 (wrap64 (y + k))) := (hxx.2 3 (by omega)).1
      have HXX := Lib.hid hxx
      have hjj : (4 * (k : Int) + 2) ≤ j := by omega
      clear hxx hj2
      go_wp2_with fail
      refine (told_any _).mono ?_
      rintro e w2 ⟨rfl, hb2⟩
      have hx1 := HXX.out.th hb2
      have y0 : w2.cell? ⟨w1.heap.size, 0, none⟩ = some (.int .i64 0) := (hx1.2 0 (by omega)).1
      have y1 : w2.cell? ⟨w1.heap.size, 1, none⟩ = some (.int .i64 1) := (hx1.2 1 (by omega)).1
      have y2 : w2.cell? ⟨w1.heap.size, 2, none⟩ = some (.int .i64 x) := (hx1.2 2 (by omega)).1
      have y3 : w2.cell? ⟨w1.heap.size, 3, none⟩ = some (.int .i64 (wrap64 (y + k))) := (hx1.2 3 (by omega)).1
      clear x0 x1 x2 x3 hx1
      go_wp2_with fail
      go_ret
      exact ⟨rfl, Bth (Bth hbw1 hb0) hb2⟩
end Go.Proofs.Ytipkaloldlplgaa
