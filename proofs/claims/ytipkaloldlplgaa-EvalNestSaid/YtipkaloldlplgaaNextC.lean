/-
  Where it goes on: part of the proof that Next computes nextF.
-/
import Derived.Test.YtipkaloldlplgaaNext
set_option linter.unusedVariables false
namespace Go.Proofs.Ytipkaloldlplgaa
open Go.RowKit
set_option maxRecDepth 100000 in
set_option maxHeartbeats 1600000 in
theorem next_set (l : List Ins) (u v : Value) (mt : List Int) (k a : Nat) (op pb pc pn : Int) (r : Rg) (w : World) (hl : l.length ≤ 1048576) (hu : InsAt w u l) (hv : IntsAt w v mt) (hp : l[k]? = some ⟨op, (a : Int), pb, pc, pn⟩) (hm : mayB ⟨op, (a : Int), pb, pc, pn⟩ = true) (h1 : 1 ≤ op) (h7 : op ≤ 7) (ha : a < 4) :
    Calls Try.prog 18 #[u, v, .int .i64 k, .agg #[.int .i64 r.a, .int .i64 r.b, .int .i64 r.c, .int .i64 r.d]] w fun e w' => e = .returned (outV ((k : Int) + 1, r.set a (valF ⟨op, (a : Int), pb, pc, pn⟩ r), true)) ∧ Below w.heap.size w w' := by
  obtain ⟨A, c1, rfl, hu⟩ := hu
  obtain ⟨B, c2, rfl, hv⟩ := hv
  obtain ⟨b, off, rfl, hb, x1, x2, x3, x4, x5⟩ := hu k _ hp
  have hkl : k < l.length := (List.getElem?_eq_some_iff.1 hp).1
  have HP := Lib.hid hp
  have HV := Lib.hid hv
  clear hu hv hp
  have hlo : locB op = true := decide_eq_true (Or.inl ⟨h1, h7⟩)
  have q1 : (a : Int) < 4 := by omega
  have t0 : ¬ 18 ≤ op := by omega
  have t18 : (op == 18) = false := bne_of (by omega)
  have t19 : (op == 19) = false := bne_of (by omega)
  have t20 : (op == 20) = false := bne_of (by omega)
  have t21 : (op == 21) = false := bne_of (by omega)
  have t22 : (op == 22) = false := bne_of (by omega)
  have hbc : 2 ≤ op → 0 ≤ pb ∧ pb ≤ 3 ∧ 0 ≤ pc ∧ pc ≤ 3 := fun h2 => by
    obtain ⟨_, m2, m3, _⟩ := may_reg _ hm
    have e1 : shB op = 1 := by unfold shB; rw [if_pos (by omega)]
    have e2 : shC op = 1 := by unfold shC; rw [if_pos (by omega)]
    have := m2 e1
    have := m3 e2
    simp only at *
    omega
  have VC := Lib.hid (fun W => value_any W ⟨op, (a : Int), pb, pc, pn⟩ r h1 h7 hbc)
  clear hbc
  generalize valF ⟨op, (a : Int), pb, pc, pn⟩ r = y at VC ⊢
  go_enter Try.func18, Try.ntmps18
  go_wp2_with fail
  refine (may_any ⟨op, (a : Int), pb, pc, pn⟩ _).mono ?_
  rintro e w1 ⟨rfl, hb1⟩
  have hz : w.heap.size + 1 < w1.heap.size := by have := hb1.size; simp at this; omega
  have hz0 : w.heap.size < w1.heap.size := by omega
  have hbw : Below w.heap.size w w1 := Bth (Bal (Bal (Bre _) _) _) hb1
  have RG : RegAt w1 w.heap.size r := (regBox w r _ _).th hb1
  have RZ : RegAt w1 (w.heap.size + 1) ⟨0, 0, 0, 0⟩ := (regZero _ _ (by simp) _).th hb1
  have ra : w1.cell? ⟨w.heap.size, 0, none⟩ = some (.int .i64 r.a) := (RG.2 0 (by omega)).1
  have rb : w1.cell? ⟨w.heap.size, 1, none⟩ = some (.int .i64 r.b) := (RG.2 1 (by omega)).1
  have rc : w1.cell? ⟨w.heap.size, 2, none⟩ = some (.int .i64 r.c) := (RG.2 2 (by omega)).1
  have rd : w1.cell? ⟨w.heap.size, 3, none⟩ = some (.int .i64 r.d) := (RG.2 3 (by omega)).1
  have ea : w1.cell? ⟨w.heap.size + 1, 0, none⟩ = some (.int .i64 0) := (RZ.2 0 (by omega)).1
  have eb : w1.cell? ⟨w.heap.size + 1, 1, none⟩ = some (.int .i64 0) := (RZ.2 1 (by omega)).1
  have ec : w1.cell? ⟨w.heap.size + 1, 2, none⟩ = some (.int .i64 0) := (RZ.2 2 (by omega)).1
  have ed : w1.cell? ⟨w.heap.size + 1, 3, none⟩ = some (.int .i64 0) := (RZ.2 3 (by omega)).1
  have fa := (RZ.2 0 (by omega)).2
  have fb := (RZ.2 1 (by omega)).2
  have fc := (RZ.2 2 (by omega)).2
  have fd := (RZ.2 3 (by omega)).2
  have y1 := (hbw.cell (p := ⟨b, off + k * 5, none⟩) hb).trans x1
  have y2 := (hbw.cell (p := ⟨b, off + k * 5 + 1, none⟩) hb).trans x2
  have y3 := (hbw.cell (p := ⟨b, off + k * 5 + 2, none⟩) hb).trans x3
  have y4 := (hbw.cell (p := ⟨b, off + k * 5 + 3, none⟩) hb).trans x4
  have y5 := (hbw.cell (p := ⟨b, off + k * 5 + 4, none⟩) hb).trans x5
  clear x1 x2 x3 x4 x5
  go_wp2_with (go_at_call 13; refine (local_any _ _).mono ?_; rintro e w2 ⟨rfl, rfl⟩)
  refine wp_region_aft_tail 6 (by kernel_rfl) (by kernel_rfl) ?_
  simp only [List.take_succ_cons, List.take_zero, List.drop_succ_cons, List.drop_zero]
  repeat (go_big_quiet_step ((go_at_call 26; exact Calls.aft_of _ (VC.out _))))
  refine wpQuiet_nil ?_
  rintro _ ⟨z, rfl⟩
  have RG3 : RegAt z.w w.heap.size r := (RG.th (Bal (Bre _) _)).th z.h
  have RZ3 : RegAt z.w (w.heap.size + 1) ⟨0, 0, 0, 0⟩ := (RZ.th (Bal (Bre _) _)).th z.h
  have hb3 : Below w.heap.size w z.w := Bth (Bal hbw _) z.h
  have hsz := z.h.size
  generalize z.w = w3 at RG3 RZ3 hb3 hsz ⊢
  have va := (RG3.2 a ha).1
  have vf := (RG3.2 a ha).2
  clear ra rb rc rd ea eb ec ed fa fb fc fd
  go_wp2_with fail
  have RG4 : RegAt (w3.setCell ⟨w.heap.size, a, none⟩ (.int .i64 y)) w.heap.size (r.set a y) := RG3.set a ha y
  have RZ4 : RegAt (w3.setCell ⟨w.heap.size, a, none⟩ (.int .i64 y)) (w.heap.size + 1) ⟨0, 0, 0, 0⟩ := RZ3.other _ a (by omega) _
  have hb4 : Below w.heap.size w (w3.setCell ⟨w.heap.size, a, none⟩ (.int .i64 y)) := Bset hb3 (Nat.le_refl _) _
  generalize w3.setCell ⟨w.heap.size, a, none⟩ (.int .i64 y) = w4 at RG4 RZ4 hb4 ⊢
  generalize hr2 : r.set a y = r2 at RG4 ⊢
  have HR2 := Lib.hid hr2
  clear hr2
  clear va vf
  have ra : w4.cell? ⟨w.heap.size, 0, none⟩ = some (.int .i64 r2.a) := (RG4.2 0 (by omega)).1
  have rb : w4.cell? ⟨w.heap.size, 1, none⟩ = some (.int .i64 r2.b) := (RG4.2 1 (by omega)).1
  have rc : w4.cell? ⟨w.heap.size, 2, none⟩ = some (.int .i64 r2.c) := (RG4.2 2 (by omega)).1
  have rd : w4.cell? ⟨w.heap.size, 3, none⟩ = some (.int .i64 r2.d) := (RG4.2 3 (by omega)).1
  have ea : w4.cell? ⟨w.heap.size + 1, 0, none⟩ = some (.int .i64 0) := (RZ4.2 0 (by omega)).1
  have eb : w4.cell? ⟨w.heap.size + 1, 1, none⟩ = some (.int .i64 0) := (RZ4.2 1 (by omega)).1
  have ec : w4.cell? ⟨w.heap.size + 1, 2, none⟩ = some (.int .i64 0) := (RZ4.2 2 (by omega)).1
  have ed : w4.cell? ⟨w.heap.size + 1, 3, none⟩ = some (.int .i64 0) := (RZ4.2 3 (by omega)).1
  have fa := (RZ4.2 0 (by omega)).2
  have fb := (RZ4.2 1 (by omega)).2
  have fc := (RZ4.2 2 (by omega)).2
  have fd := (RZ4.2 3 (by omega)).2
  go_region
  go_wp2_with fail
  exact bodyPost_ret (v := outV ((k : Int) + 1, r2, true)) (by simp [results, Try.results18, go_sem, outV, ea, eb, ec, ed]) rfl ⟨by rw [HR2.out], (by repeat (first | exact Bre _ | assumption | refine Bdrew ?_ | refine Bal ?_ _ | refine Bset ?_ (by simp) _))⟩
end Go.Proofs.Ytipkaloldlplgaa
