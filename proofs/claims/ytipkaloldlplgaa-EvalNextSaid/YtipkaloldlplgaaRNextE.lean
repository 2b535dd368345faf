/-
  Where it goes on: part of the proof that Next computes nextF.
-/
import Derived.Test.YtipkaloldlplgaaNextD
set_option linter.unusedVariables false
namespace Go.Proofs.Ytipkaloldlplgaa
open Go.RowKit
set_option maxRecDepth 100000 in
set_option maxHeartbeats 1600000 in
theorem rnext_s1 (l : List Ins) (u v : Value) (mt : List Int) (k a : Nat) (pb pc pn : Int) (r : Rg) (w : World) (hl : l.length ≤ 1048576) (hu : InsAt w u l) (hv : IntsAt w v mt) (hp : l[k]? = some ⟨1, (a : Int), pb, pc, pn⟩) (hm : mayB ⟨1, (a : Int), pb, pc, pn⟩ = true) (ha : a < 4) :
    Calls Try.prog 19 #[u, v, .int .i64 k, .agg #[.int .i64 r.a, .int .i64 r.b, .int .i64 r.c, .int .i64 r.d]] w fun e w' => e = .returned (outV ((k : Int) + 1, r.set a (valF ⟨1, (a : Int), pb, pc, pn⟩ r), true)) ∧ Below w.heap.size w w' := by
  obtain ⟨A, c1, rfl, hu⟩ := hu
  obtain ⟨B, c2, rfl, hv⟩ := hv
  obtain ⟨b, off, rfl, hb, x1, x2, x3, x4, x5⟩ := hu k _ hp
  have hkl : k < l.length := (List.getElem?_eq_some_iff.1 hp).1
  have HP := Lib.hid hp
  have HV := Lib.hid hv
  clear hu hv hp
  have hlo : locB 1 = true := rfl
  have q1 : (a : Int) < 4 := by omega
  have hval : valF ⟨1, (a : Int), pb, pc, pn⟩ r = pn := rfl
  rw [hval]
  clear hval
  go_enter Try.func19, Try.ntmps19
  go_wp2_with fail
  refine (rmay_any ⟨1, (a : Int), pb, pc, pn⟩ _).mono ?_
  rintro e w1 ⟨rfl, hb1⟩
  have hz : w.heap.size + 1 < w1.heap.size := by have := hb1.size; simp at this; omega
  have hz0 : w.heap.size < w1.heap.size := by omega
  have hbw : Below w.heap.size w w1 := Bth (Bal (Bal (Bre _) _) _) hb1
  have RG : RegAt w1 w.heap.size r := (regBox w r _ _).th hb1
  have RZ : RegAt w1 (w.heap.size + 1) ⟨0, 0, 0, 0⟩ := (regZero _ _ (by simp) _).th hb1
  have y1 := (hbw.cell (p := ⟨b, off + k * 5, none⟩) hb).trans x1
  have y2 := (hbw.cell (p := ⟨b, off + k * 5 + 1, none⟩) hb).trans x2
  have y3 := (hbw.cell (p := ⟨b, off + k * 5 + 2, none⟩) hb).trans x3
  have y4 := (hbw.cell (p := ⟨b, off + k * 5 + 3, none⟩) hb).trans x4
  have y5 := (hbw.cell (p := ⟨b, off + k * 5 + 4, none⟩) hb).trans x5
  clear x1 x2 x3 x4 x5
  have vaa := (RG.2 a ha).1
  have vfa := (RG.2 a ha).2
  go_wp2_with (go_at_call 14; refine (rlocal_any _ _).mono ?_; rintro e w2 ⟨rfl, rfl⟩)
  have RG4 : RegAt ((w1.setCell ⟨w.heap.size, a, none⟩ (.int .i64 pn)).alloc (.cells #[.int .i64 1, .int .i64 a, .int .i64 pb, .int .i64 pc, .int .i64 pn] 24)) w.heap.size (r.set a pn) := (RG.set a ha pn).th (Bal (Bre _) _)
  have RZ4 : RegAt ((w1.setCell ⟨w.heap.size, a, none⟩ (.int .i64 pn)).alloc (.cells #[.int .i64 1, .int .i64 a, .int .i64 pb, .int .i64 pc, .int .i64 pn] 24)) (w.heap.size + 1) ⟨0, 0, 0, 0⟩ := (RZ.other w.heap.size a (by omega) (.int .i64 pn)).th (Bal (Bre _) _)
  have hb4 : Below w.heap.size w ((w1.setCell ⟨w.heap.size, a, none⟩ (.int .i64 pn)).alloc (.cells #[.int .i64 1, .int .i64 a, .int .i64 pb, .int .i64 pc, .int .i64 pn] 24)) := Bal (Bset hbw (Nat.le_refl _) _) _
  generalize ((w1.setCell ⟨w.heap.size, a, none⟩ (.int .i64 pn)).alloc (.cells #[.int .i64 1, .int .i64 a, .int .i64 pb, .int .i64 pc, .int .i64 pn] 24)) = w4 at RG4 RZ4 hb4 ⊢
  generalize hr2 : r.set a pn = r2 at RG4 ⊢
  have HR2 := Lib.hid hr2
  clear hr2
  have ra : w4.cell? ⟨w.heap.size, 0, none⟩ = some (.int .i64 r2.a) := (RG4.2 0 (by omega)).1
  have rb : w4.cell? ⟨w.heap.size, 1, none⟩ = some (.int .i64 r2.b) := (RG4.2 1 (by omega)).1
  have rc : w4.cell? ⟨w.heap.size, 2, none⟩ = some (.int .i64 r2.c) := (RG4.2 2 (by omega)).1
  have rd : w4.cell? ⟨w.heap.size, 3, none⟩ = some (.int .i64 r2.d) := (RG4.2 3 (by omega)).1
  have ea : w4.cell? ⟨w.heap.size + 1, 0, none⟩ = some (.int .i64 0) := (RZ4.2 0 (by omega)).1
  have eb : w4.cell? ⟨w.heap.size + 1, 1, none⟩ = some (.int .i64 0) := (RZ4.2 1 (by omega)).1
  have ec : w4.cell? ⟨w.heap.size + 1, 2, none⟩ = some (.int .i64 0) := (RZ4.2 2 (by omega)).1
  have ed : w4.cell? ⟨w.heap.size + 1, 3, none⟩ = some (.int .i64 0) := (RZ4.2 3 (by omega)).1
  have fa := (RZ4.2 0 (by omega)).2
  have fb := (RZ4.2 1 (by omega)).2
  have fc := (RZ4.2 2 (by omega)).2
  have fd := (RZ4.2 3 (by omega)).2
  go_region
  go_wp2_with fail
  exact bodyPost_ret (v := outV ((k : Int) + 1, r2, true)) (by simp [results, Try.results19, go_sem, outV, ea, eb, ec, ed]) rfl ⟨by rw [HR2.out], (by repeat (first | exact Bre _ | assumption | refine Bdrew ?_ | refine Bal ?_ _ | refine Bset ?_ (by simp) _))⟩
set_option maxRecDepth 100000 in
set_option maxHeartbeats 1600000 in
theorem rnext_s2 (l : List Ins) (u v : Value) (mt : List Int) (k a b0 c0 : Nat) (pn : Int) (r : Rg) (w : World) (hl : l.length ≤ 1048576) (hu : InsAt w u l) (hv : IntsAt w v mt) (hp : l[k]? = some ⟨2, (a : Int), (b0 : Int), (c0 : Int), pn⟩) (hm : mayB ⟨2, (a : Int), (b0 : Int), (c0 : Int), pn⟩ = true) (ha : a < 4) (hb0 : b0 < 4) (hc0 : c0 < 4) :
    Calls Try.prog 19 #[u, v, .int .i64 k, .agg #[.int .i64 r.a, .int .i64 r.b, .int .i64 r.c, .int .i64 r.d]] w fun e w' => e = .returned (outV ((k : Int) + 1, r.set a (valF ⟨2, (a : Int), (b0 : Int), (c0 : Int), pn⟩ r), true)) ∧ Below w.heap.size w w' := by
  obtain ⟨A, c1, rfl, hu⟩ := hu
  obtain ⟨B, c2, rfl, hv⟩ := hv
  obtain ⟨b, off, rfl, hb, x1, x2, x3, x4, x5⟩ := hu k _ hp
  have hkl : k < l.length := (List.getElem?_eq_some_iff.1 hp).1
  have HP := Lib.hid hp
  have HV := Lib.hid hv
  clear hu hv hp
  have hlo : locB 2 = true := rfl
  have q1 : (a : Int) < 4 := by omega
  have q2 : (b0 : Int) < 4 := by omega
  have q3 : (c0 : Int) < 4 := by omega
  have hval : valF ⟨2, (a : Int), (b0 : Int), (c0 : Int), pn⟩ r = wrap64 (r.get b0 + r.get c0) := rfl
  rw [hval]
  obtain ⟨u, hu0⟩ : ∃ u, r.get b0 = u := ⟨_, rfl⟩
  obtain ⟨v, hv0⟩ : ∃ v, r.get c0 = v := ⟨_, rfl⟩
  rw [hu0, hv0]
  have HU := Lib.hid hu0
  have HVV := Lib.hid hv0
  clear hval hu0 hv0
  obtain ⟨y, hy⟩ : ∃ y, IntKind.i64.wrap (u + v) = y := ⟨_, rfl⟩
  have hy2 : wrap64 (u + v) = y := by rw [← hy, IntWalk.i64_left]
  rw [hy2]
  clear hy2
  go_enter Try.func19, Try.ntmps19
  go_wp2_with fail
  refine (rmay_any ⟨2, (a : Int), (b0 : Int), (c0 : Int), pn⟩ _).mono ?_
  rintro e w1 ⟨rfl, hb1⟩
  have hz : w.heap.size + 1 < w1.heap.size := by have := hb1.size; simp at this; omega
  have hz0 : w.heap.size < w1.heap.size := by omega
  have hbw : Below w.heap.size w w1 := Bth (Bal (Bal (Bre _) _) _) hb1
  have RG : RegAt w1 w.heap.size r := (regBox w r _ _).th hb1
  have RZ : RegAt w1 (w.heap.size + 1) ⟨0, 0, 0, 0⟩ := (regZero _ _ (by simp) _).th hb1
  have y1 := (hbw.cell (p := ⟨b, off + k * 5, none⟩) hb).trans x1
  have y2 := (hbw.cell (p := ⟨b, off + k * 5 + 1, none⟩) hb).trans x2
  have y3 := (hbw.cell (p := ⟨b, off + k * 5 + 2, none⟩) hb).trans x3
  have y4 := (hbw.cell (p := ⟨b, off + k * 5 + 3, none⟩) hb).trans x4
  have y5 := (hbw.cell (p := ⟨b, off + k * 5 + 4, none⟩) hb).trans x5
  clear x1 x2 x3 x4 x5
  have vaa := (RG.2 a ha).1
  have vfa := (RG.2 a ha).2
  have vb : w1.cell? ⟨w.heap.size, b0, none⟩ = some (.int .i64 u) := by rw [(RG.2 b0 hb0).1, HU.out]
  have vc : w1.cell? ⟨w.heap.size, c0, none⟩ = some (.int .i64 v) := by rw [(RG.2 c0 hc0).1, HVV.out]
  go_wp2_with (go_at_call 14; refine (rlocal_any _ _).mono ?_; rintro e w2 ⟨rfl, rfl⟩)
  refine wp_region_aft_tail 12 (by kernel_rfl) (by kernel_rfl) ?_
  simp only [List.take_succ_cons, List.take_zero, List.drop_succ_cons, List.drop_zero]
  repeat (go_big_quiet_step (fail))
  refine wpQuiet_nil ?_
  rintro _ ⟨z, rfl⟩
  have RG3 : RegAt z.w w.heap.size r := (RG.th (Bal (Bre _) _)).th z.h
  have RZ3 : RegAt z.w (w.heap.size + 1) ⟨0, 0, 0, 0⟩ := (RZ.th (Bal (Bre _) _)).th z.h
  have hb3 : Below w.heap.size w z.w := Bth (Bal hbw _) z.h
  have hsz := z.h.size
  generalize z.w = w3 at RG3 RZ3 hb3 hsz ⊢
  clear vaa vfa vb vc
  have va := (RG3.2 a ha).1
  have vf := (RG3.2 a ha).2
  go_wp2_with fail
  have RG4 : RegAt (w3.setCell ⟨w.heap.size, a, none⟩ (.int .i64 y)) w.heap.size (r.set a y) := RG3.set a ha _
  have RZ4 : RegAt (w3.setCell ⟨w.heap.size, a, none⟩ (.int .i64 y)) (w.heap.size + 1) ⟨0, 0, 0, 0⟩ := RZ3.other _ a (by omega) _
  have hb4 : Below w.heap.size w (w3.setCell ⟨w.heap.size, a, none⟩ (.int .i64 y)) := Bset hb3 (Nat.le_refl _) _
  generalize w3.setCell ⟨w.heap.size, a, none⟩ (.int .i64 y) = w4 at RG4 RZ4 hb4 ⊢
  generalize hr2 : r.set a y = r2 at RG4 ⊢
  have HR2 := Lib.hid hr2
  clear hr2
  have ra : w4.cell? ⟨w.heap.size, 0, none⟩ = some (.int .i64 r2.a) := (RG4.2 0 (by omega)).1
  have rb : w4.cell? ⟨w.heap.size, 1, none⟩ = some (.int .i64 r2.b) := (RG4.2 1 (by omega)).1
  have rc : w4.cell? ⟨w.heap.size, 2, none⟩ = some (.int .i64 r2.c) := (RG4.2 2 (by omega)).1
  have rd : w4.cell? ⟨w.heap.size, 3, none⟩ = some (.int .i64 r2.d) := (RG4.2 3 (by omega)).1
  have ea : w4.cell? ⟨w.heap.size + 1, 0, none⟩ = some (.int .i64 0) := (RZ4.2 0 (by omega)).1
  have eb : w4.cell? ⟨w.heap.size + 1, 1, none⟩ = some (.int .i64 0) := (RZ4.2 1 (by omega)).1
  have ec : w4.cell? ⟨w.heap.size + 1, 2, none⟩ = some (.int .i64 0) := (RZ4.2 2 (by omega)).1
  have ed : w4.cell? ⟨w.heap.size + 1, 3, none⟩ = some (.int .i64 0) := (RZ4.2 3 (by omega)).1
  have fa := (RZ4.2 0 (by omega)).2
  have fb := (RZ4.2 1 (by omega)).2
  have fc := (RZ4.2 2 (by omega)).2
  have fd := (RZ4.2 3 (by omega)).2
  go_region
  go_wp2_with fail
  exact bodyPost_ret (v := outV ((k : Int) + 1, r2, true)) (by simp [results, Try.results19, go_sem, outV, ea, eb, ec, ed]) rfl ⟨by rw [HR2.out], (by repeat (first | exact Bre _ | assumption | refine Bdrew ?_ | refine Bal ?_ _ | refine Bset ?_ (by simp) _))⟩
set_option maxRecDepth 100000 in
set_option maxHeartbeats 1600000 in
theorem rnext_s3 (l : List Ins) (u v : Value) (mt : List Int) (k a b0 c0 : Nat) (pn : Int) (r : Rg) (w : World) (hl : l.length ≤ 1048576) (hu : InsAt w u l) (hv : IntsAt w v mt) (hp : l[k]? = some ⟨3, (a : Int), (b0 : Int), (c0 : Int), pn⟩) (hm : mayB ⟨3, (a : Int), (b0 : Int), (c0 : Int), pn⟩ = true) (ha : a < 4) (hb0 : b0 < 4) (hc0 : c0 < 4) :
    Calls Try.prog 19 #[u, v, .int .i64 k, .agg #[.int .i64 r.a, .int .i64 r.b, .int .i64 r.c, .int .i64 r.d]] w fun e w' => e = .returned (outV ((k : Int) + 1, r.set a (valF ⟨3, (a : Int), (b0 : Int), (c0 : Int), pn⟩ r), true)) ∧ Below w.heap.size w w' := by
  obtain ⟨A, c1, rfl, hu⟩ := hu
  obtain ⟨B, c2, rfl, hv⟩ := hv
  obtain ⟨b, off, rfl, hb, x1, x2, x3, x4, x5⟩ := hu k _ hp
  have hkl : k < l.length := (List.getElem?_eq_some_iff.1 hp).1
  have HP := Lib.hid hp
  have HV := Lib.hid hv
  clear hu hv hp
  have hlo : locB 3 = true := rfl
  have q1 : (a : Int) < 4 := by omega
  have q2 : (b0 : Int) < 4 := by omega
  have q3 : (c0 : Int) < 4 := by omega
  have hval : valF ⟨3, (a : Int), (b0 : Int), (c0 : Int), pn⟩ r = wrap64 (r.get b0 - r.get c0) := rfl
  rw [hval]
  obtain ⟨u, hu0⟩ : ∃ u, r.get b0 = u := ⟨_, rfl⟩
  obtain ⟨v, hv0⟩ : ∃ v, r.get c0 = v := ⟨_, rfl⟩
  rw [hu0, hv0]
  have HU := Lib.hid hu0
  have HVV := Lib.hid hv0
  clear hval hu0 hv0
  obtain ⟨y, hy⟩ : ∃ y, IntKind.i64.wrap (u - v) = y := ⟨_, rfl⟩
  have hy2 : wrap64 (u - v) = y := by rw [← hy, IntWalk.i64_left]
  rw [hy2]
  clear hy2
  go_enter Try.func19, Try.ntmps19
  go_wp2_with fail
  refine (rmay_any ⟨3, (a : Int), (b0 : Int), (c0 : Int), pn⟩ _).mono ?_
  rintro e w1 ⟨rfl, hb1⟩
  have hz : w.heap.size + 1 < w1.heap.size := by have := hb1.size; simp at this; omega
  have hz0 : w.heap.size < w1.heap.size := by omega
  have hbw : Below w.heap.size w w1 := Bth (Bal (Bal (Bre _) _) _) hb1
  have RG : RegAt w1 w.heap.size r := (regBox w r _ _).th hb1
  have RZ : RegAt w1 (w.heap.size + 1) ⟨0, 0, 0, 0⟩ := (regZero _ _ (by simp) _).th hb1
  have y1 := (hbw.cell (p := ⟨b, off + k * 5, none⟩) hb).trans x1
  have y2 := (hbw.cell (p := ⟨b, off + k * 5 + 1, none⟩) hb).trans x2
  have y3 := (hbw.cell (p := ⟨b, off + k * 5 + 2, none⟩) hb).trans x3
  have y4 := (hbw.cell (p := ⟨b, off + k * 5 + 3, none⟩) hb).trans x4
  have y5 := (hbw.cell (p := ⟨b, off + k * 5 + 4, none⟩) hb).trans x5
  clear x1 x2 x3 x4 x5
  have vaa := (RG.2 a ha).1
  have vfa := (RG.2 a ha).2
  have vb : w1.cell? ⟨w.heap.size, b0, none⟩ = some (.int .i64 u) := by rw [(RG.2 b0 hb0).1, HU.out]
  have vc : w1.cell? ⟨w.heap.size, c0, none⟩ = some (.int .i64 v) := by rw [(RG.2 c0 hc0).1, HVV.out]
  go_wp2_with (go_at_call 14; refine (rlocal_any _ _).mono ?_; rintro e w2 ⟨rfl, rfl⟩)
  refine wp_region_aft_tail 12 (by kernel_rfl) (by kernel_rfl) ?_
  simp only [List.take_succ_cons, List.take_zero, List.drop_succ_cons, List.drop_zero]
  repeat (go_big_quiet_step (fail))
  refine wpQuiet_nil ?_
  rintro _ ⟨z, rfl⟩
  have RG3 : RegAt z.w w.heap.size r := (RG.th (Bal (Bre _) _)).th z.h
  have RZ3 : RegAt z.w (w.heap.size + 1) ⟨0, 0, 0, 0⟩ := (RZ.th (Bal (Bre _) _)).th z.h
  have hb3 : Below w.heap.size w z.w := Bth (Bal hbw _) z.h
  have hsz := z.h.size
  generalize z.w = w3 at RG3 RZ3 hb3 hsz ⊢
  clear vaa vfa vb vc
  have va := (RG3.2 a ha).1
  have vf := (RG3.2 a ha).2
  go_wp2_with fail
  have RG4 : RegAt (w3.setCell ⟨w.heap.size, a, none⟩ (.int .i64 y)) w.heap.size (r.set a y) := RG3.set a ha _
  have RZ4 : RegAt (w3.setCell ⟨w.heap.size, a, none⟩ (.int .i64 y)) (w.heap.size + 1) ⟨0, 0, 0, 0⟩ := RZ3.other _ a (by omega) _
  have hb4 : Below w.heap.size w (w3.setCell ⟨w.heap.size, a, none⟩ (.int .i64 y)) := Bset hb3 (Nat.le_refl _) _
  generalize w3.setCell ⟨w.heap.size, a, none⟩ (.int .i64 y) = w4 at RG4 RZ4 hb4 ⊢
  generalize hr2 : r.set a y = r2 at RG4 ⊢
  have HR2 := Lib.hid hr2
  clear hr2
  have ra : w4.cell? ⟨w.heap.size, 0, none⟩ = some (.int .i64 r2.a) := (RG4.2 0 (by omega)).1
  have rb : w4.cell? ⟨w.heap.size, 1, none⟩ = some (.int .i64 r2.b) := (RG4.2 1 (by omega)).1
  have rc : w4.cell? ⟨w.heap.size, 2, none⟩ = some (.int .i64 r2.c) := (RG4.2 2 (by omega)).1
  have rd : w4.cell? ⟨w.heap.size, 3, none⟩ = some (.int .i64 r2.d) := (RG4.2 3 (by omega)).1
  have ea : w4.cell? ⟨w.heap.size + 1, 0, none⟩ = some (.int .i64 0) := (RZ4.2 0 (by omega)).1
  have eb : w4.cell? ⟨w.heap.size + 1, 1, none⟩ = some (.int .i64 0) := (RZ4.2 1 (by omega)).1
  have ec : w4.cell? ⟨w.heap.size + 1, 2, none⟩ = some (.int .i64 0) := (RZ4.2 2 (by omega)).1
  have ed : w4.cell? ⟨w.heap.size + 1, 3, none⟩ = some (.int .i64 0) := (RZ4.2 3 (by omega)).1
  have fa := (RZ4.2 0 (by omega)).2
  have fb := (RZ4.2 1 (by omega)).2
  have fc := (RZ4.2 2 (by omega)).2
  have fd := (RZ4.2 3 (by omega)).2
  go_region
  go_wp2_with fail
  exact bodyPost_ret (v := outV ((k : Int) + 1, r2, true)) (by simp [results, Try.results19, go_sem, outV, ea, eb, ec, ed]) rfl ⟨by rw [HR2.out], (by repeat (first | exact Bre _ | assumption | refine Bdrew ?_ | refine Bal ?_ _ | refine Bset ?_ (by simp) _))⟩
set_option maxRecDepth 100000 in
set_option maxHeartbeats 1600000 in
theorem rnext_s4 (l : List Ins) (u v : Value) (mt : List Int) (k a b0 c0 : Nat) (pn : Int) (r : Rg) (w : World) (hl : l.length ≤ 1048576) (hu : InsAt w u l) (hv : IntsAt w v mt) (hp : l[k]? = some ⟨4, (a : Int), (b0 : Int), (c0 : Int), pn⟩) (hm : mayB ⟨4, (a : Int), (b0 : Int), (c0 : Int), pn⟩ = true) (ha : a < 4) (hb0 : b0 < 4) (hc0 : c0 < 4) :
    Calls Try.prog 19 #[u, v, .int .i64 k, .agg #[.int .i64 r.a, .int .i64 r.b, .int .i64 r.c, .int .i64 r.d]] w fun e w' => e = .returned (outV ((k : Int) + 1, r.set a (valF ⟨4, (a : Int), (b0 : Int), (c0 : Int), pn⟩ r), true)) ∧ Below w.heap.size w w' := by
  obtain ⟨A, c1, rfl, hu⟩ := hu
  obtain ⟨B, c2, rfl, hv⟩ := hv
  obtain ⟨b, off, rfl, hb, x1, x2, x3, x4, x5⟩ := hu k _ hp
  have hkl : k < l.length := (List.getElem?_eq_some_iff.1 hp).1
  have HP := Lib.hid hp
  have HV := Lib.hid hv
  clear hu hv hp
  have hlo : locB 4 = true := rfl
  have q1 : (a : Int) < 4 := by omega
  have q2 : (b0 : Int) < 4 := by omega
  have q3 : (c0 : Int) < 4 := by omega
  have hval : valF ⟨4, (a : Int), (b0 : Int), (c0 : Int), pn⟩ r = wrap64 (r.get b0 * r.get c0) := rfl
  rw [hval]
  obtain ⟨u, hu0⟩ : ∃ u, r.get b0 = u := ⟨_, rfl⟩
  obtain ⟨v, hv0⟩ : ∃ v, r.get c0 = v := ⟨_, rfl⟩
  rw [hu0, hv0]
  have HU := Lib.hid hu0
  have HVV := Lib.hid hv0
  clear hval hu0 hv0
  obtain ⟨y, hy⟩ : ∃ y, IntKind.i64.wrap (u * v) = y := ⟨_, rfl⟩
  have hy2 : wrap64 (u * v) = y := by rw [← hy, IntWalk.i64_left]
  rw [hy2]
  clear hy2
  go_enter Try.func19, Try.ntmps19
  go_wp2_with fail
  refine (rmay_any ⟨4, (a : Int), (b0 : Int), (c0 : Int), pn⟩ _).mono ?_
  rintro e w1 ⟨rfl, hb1⟩
  have hz : w.heap.size + 1 < w1.heap.size := by have := hb1.size; simp at this; omega
  have hz0 : w.heap.size < w1.heap.size := by omega
  have hbw : Below w.heap.size w w1 := Bth (Bal (Bal (Bre _) _) _) hb1
  have RG : RegAt w1 w.heap.size r := (regBox w r _ _).th hb1
  have RZ : RegAt w1 (w.heap.size + 1) ⟨0, 0, 0, 0⟩ := (regZero _ _ (by simp) _).th hb1
  have y1 := (hbw.cell (p := ⟨b, off + k * 5, none⟩) hb).trans x1
  have y2 := (hbw.cell (p := ⟨b, off + k * 5 + 1, none⟩) hb).trans x2
  have y3 := (hbw.cell (p := ⟨b, off + k * 5 + 2, none⟩) hb).trans x3
  have y4 := (hbw.cell (p := ⟨b, off + k * 5 + 3, none⟩) hb).trans x4
  have y5 := (hbw.cell (p := ⟨b, off + k * 5 + 4, none⟩) hb).trans x5
  clear x1 x2 x3 x4 x5
  have vaa := (RG.2 a ha).1
  have vfa := (RG.2 a ha).2
  have vb : w1.cell? ⟨w.heap.size, b0, none⟩ = some (.int .i64 u) := by rw [(RG.2 b0 hb0).1, HU.out]
  have vc : w1.cell? ⟨w.heap.size, c0, none⟩ = some (.int .i64 v) := by rw [(RG.2 c0 hc0).1, HVV.out]
  go_wp2_with (go_at_call 14; refine (rlocal_any _ _).mono ?_; rintro e w2 ⟨rfl, rfl⟩)
  refine wp_region_aft_tail 12 (by kernel_rfl) (by kernel_rfl) ?_
  simp only [List.take_succ_cons, List.take_zero, List.drop_succ_cons, List.drop_zero]
  repeat (go_big_quiet_step (fail))
  refine wpQuiet_nil ?_
  rintro _ ⟨z, rfl⟩
  have RG3 : RegAt z.w w.heap.size r := (RG.th (Bal (Bre _) _)).th z.h
  have RZ3 : RegAt z.w (w.heap.size + 1) ⟨0, 0, 0, 0⟩ := (RZ.th (Bal (Bre _) _)).th z.h
  have hb3 : Below w.heap.size w z.w := Bth (Bal hbw _) z.h
  have hsz := z.h.size
  generalize z.w = w3 at RG3 RZ3 hb3 hsz ⊢
  clear vaa vfa vb vc
  have va := (RG3.2 a ha).1
  have vf := (RG3.2 a ha).2
  go_wp2_with fail
  have RG4 : RegAt (w3.setCell ⟨w.heap.size, a, none⟩ (.int .i64 y)) w.heap.size (r.set a y) := RG3.set a ha _
  have RZ4 : RegAt (w3.setCell ⟨w.heap.size, a, none⟩ (.int .i64 y)) (w.heap.size + 1) ⟨0, 0, 0, 0⟩ := RZ3.other _ a (by omega) _
  have hb4 : Below w.heap.size w (w3.setCell ⟨w.heap.size, a, none⟩ (.int .i64 y)) := Bset hb3 (Nat.le_refl _) _
  generalize w3.setCell ⟨w.heap.size, a, none⟩ (.int .i64 y) = w4 at RG4 RZ4 hb4 ⊢
  generalize hr2 : r.set a y = r2 at RG4 ⊢
  have HR2 := Lib.hid hr2
  clear hr2
  have ra : w4.cell? ⟨w.heap.size, 0, none⟩ = some (.int .i64 r2.a) := (RG4.2 0 (by omega)).1
  have rb : w4.cell? ⟨w.heap.size, 1, none⟩ = some (.int .i64 r2.b) := (RG4.2 1 (by omega)).1
  have rc : w4.cell? ⟨w.heap.size, 2, none⟩ = some (.int .i64 r2.c) := (RG4.2 2 (by omega)).1
  have rd : w4.cell? ⟨w.heap.size, 3, none⟩ = some (.int .i64 r2.d) := (RG4.2 3 (by omega)).1
  have ea : w4.cell? ⟨w.heap.size + 1, 0, none⟩ = some (.int .i64 0) := (RZ4.2 0 (by omega)).1
  have eb : w4.cell? ⟨w.heap.size + 1, 1, none⟩ = some (.int .i64 0) := (RZ4.2 1 (by omega)).1
  have ec : w4.cell? ⟨w.heap.size + 1, 2, none⟩ = some (.int .i64 0) := (RZ4.2 2 (by omega)).1
  have ed : w4.cell? ⟨w.heap.size + 1, 3, none⟩ = some (.int .i64 0) := (RZ4.2 3 (by omega)).1
  have fa := (RZ4.2 0 (by omega)).2
  have fb := (RZ4.2 1 (by omega)).2
  have fc := (RZ4.2 2 (by omega)).2
  have fd := (RZ4.2 3 (by omega)).2
  go_region
  go_wp2_with fail
  exact bodyPost_ret (v := outV ((k : Int) + 1, r2, true)) (by simp [results, Try.results19, go_sem, outV, ea, eb, ec, ed]) rfl ⟨by rw [HR2.out], (by repeat (first | exact Bre _ | assumption | refine Bdrew ?_ | refine Bal ?_ _ | refine Bset ?_ (by simp) _))⟩
set_option maxRecDepth 100000 in
set_option maxHeartbeats 1600000 in
theorem rnext_s5 (l : List Ins) (u v : Value) (mt : List Int) (k a b0 c0 : Nat) (pn : Int) (r : Rg) (w : World) (hl : l.length ≤ 1048576) (hu : InsAt w u l) (hv : IntsAt w v mt) (hp : l[k]? = some ⟨5, (a : Int), (b0 : Int), (c0 : Int), pn⟩) (hm : mayB ⟨5, (a : Int), (b0 : Int), (c0 : Int), pn⟩ = true) (ha : a < 4) (hb0 : b0 < 4) (hc0 : c0 < 4) :
    Calls Try.prog 19 #[u, v, .int .i64 k, .agg #[.int .i64 r.a, .int .i64 r.b, .int .i64 r.c, .int .i64 r.d]] w fun e w' => e = .returned (outV ((k : Int) + 1, r.set a (valF ⟨5, (a : Int), (b0 : Int), (c0 : Int), pn⟩ r), true)) ∧ Below w.heap.size w w' := by
  obtain ⟨A, c1, rfl, hu⟩ := hu
  obtain ⟨B, c2, rfl, hv⟩ := hv
  obtain ⟨b, off, rfl, hb, x1, x2, x3, x4, x5⟩ := hu k _ hp
  have hkl : k < l.length := (List.getElem?_eq_some_iff.1 hp).1
  have HP := Lib.hid hp
  have HV := Lib.hid hv
  clear hu hv hp
  have hlo : locB 5 = true := rfl
  have q1 : (a : Int) < 4 := by omega
  have q2 : (b0 : Int) < 4 := by omega
  have q3 : (c0 : Int) < 4 := by omega
  have hval : valF ⟨5, (a : Int), (b0 : Int), (c0 : Int), pn⟩ r = bits .xor .i64 (r.get b0) (r.get c0) := rfl
  rw [hval]
  obtain ⟨u, hu0⟩ : ∃ u, r.get b0 = u := ⟨_, rfl⟩
  obtain ⟨v, hv0⟩ : ∃ v, r.get c0 = v := ⟨_, rfl⟩
  rw [hu0, hv0]
  have HU := Lib.hid hu0
  have HVV := Lib.hid hv0
  clear hval hu0 hv0
  go_enter Try.func19, Try.ntmps19
  go_wp2_with fail
  refine (rmay_any ⟨5, (a : Int), (b0 : Int), (c0 : Int), pn⟩ _).mono ?_
  rintro e w1 ⟨rfl, hb1⟩
  have hz : w.heap.size + 1 < w1.heap.size := by have := hb1.size; simp at this; omega
  have hz0 : w.heap.size < w1.heap.size := by omega
  have hbw : Below w.heap.size w w1 := Bth (Bal (Bal (Bre _) _) _) hb1
  have RG : RegAt w1 w.heap.size r := (regBox w r _ _).th hb1
  have RZ : RegAt w1 (w.heap.size + 1) ⟨0, 0, 0, 0⟩ := (regZero _ _ (by simp) _).th hb1
  have y1 := (hbw.cell (p := ⟨b, off + k * 5, none⟩) hb).trans x1
  have y2 := (hbw.cell (p := ⟨b, off + k * 5 + 1, none⟩) hb).trans x2
  have y3 := (hbw.cell (p := ⟨b, off + k * 5 + 2, none⟩) hb).trans x3
  have y4 := (hbw.cell (p := ⟨b, off + k * 5 + 3, none⟩) hb).trans x4
  have y5 := (hbw.cell (p := ⟨b, off + k * 5 + 4, none⟩) hb).trans x5
  clear x1 x2 x3 x4 x5
  have vaa := (RG.2 a ha).1
  have vfa := (RG.2 a ha).2
  have vb : w1.cell? ⟨w.heap.size, b0, none⟩ = some (.int .i64 u) := by rw [(RG.2 b0 hb0).1, HU.out]
  have vc : w1.cell? ⟨w.heap.size, c0, none⟩ = some (.int .i64 v) := by rw [(RG.2 c0 hc0).1, HVV.out]
  go_wp2_with (go_at_call 14; refine (rlocal_any _ _).mono ?_; rintro e w2 ⟨rfl, rfl⟩)
  refine wp_region_aft_tail 12 (by kernel_rfl) (by kernel_rfl) ?_
  simp only [List.take_succ_cons, List.take_zero, List.drop_succ_cons, List.drop_zero]
  repeat (go_big_quiet_step (fail))
  refine wpQuiet_nil ?_
  rintro _ ⟨z, rfl⟩
  have RG3 : RegAt z.w w.heap.size r := (RG.th (Bal (Bre _) _)).th z.h
  have RZ3 : RegAt z.w (w.heap.size + 1) ⟨0, 0, 0, 0⟩ := (RZ.th (Bal (Bre _) _)).th z.h
  have hb3 : Below w.heap.size w z.w := Bth (Bal hbw _) z.h
  have hsz := z.h.size
  generalize z.w = w3 at RG3 RZ3 hb3 hsz ⊢
  clear vaa vfa vb vc
  have va := (RG3.2 a ha).1
  have vf := (RG3.2 a ha).2
  go_wp2_with fail
  have RG4 : RegAt (w3.setCell ⟨w.heap.size, a, none⟩ (.int .i64 (bits .xor .i64 u v))) w.heap.size (r.set a (bits .xor .i64 u v)) := RG3.set a ha _
  have RZ4 : RegAt (w3.setCell ⟨w.heap.size, a, none⟩ (.int .i64 (bits .xor .i64 u v))) (w.heap.size + 1) ⟨0, 0, 0, 0⟩ := RZ3.other _ a (by omega) _
  have hb4 : Below w.heap.size w (w3.setCell ⟨w.heap.size, a, none⟩ (.int .i64 (bits .xor .i64 u v))) := Bset hb3 (Nat.le_refl _) _
  generalize w3.setCell ⟨w.heap.size, a, none⟩ (.int .i64 (bits .xor .i64 u v)) = w4 at RG4 RZ4 hb4 ⊢
  generalize hr2 : r.set a (bits .xor .i64 u v) = r2 at RG4 ⊢
  have HR2 := Lib.hid hr2
  clear hr2
  have ra : w4.cell? ⟨w.heap.size, 0, none⟩ = some (.int .i64 r2.a) := (RG4.2 0 (by omega)).1
  have rb : w4.cell? ⟨w.heap.size, 1, none⟩ = some (.int .i64 r2.b) := (RG4.2 1 (by omega)).1
  have rc : w4.cell? ⟨w.heap.size, 2, none⟩ = some (.int .i64 r2.c) := (RG4.2 2 (by omega)).1
  have rd : w4.cell? ⟨w.heap.size, 3, none⟩ = some (.int .i64 r2.d) := (RG4.2 3 (by omega)).1
  have ea : w4.cell? ⟨w.heap.size + 1, 0, none⟩ = some (.int .i64 0) := (RZ4.2 0 (by omega)).1
  have eb : w4.cell? ⟨w.heap.size + 1, 1, none⟩ = some (.int .i64 0) := (RZ4.2 1 (by omega)).1
  have ec : w4.cell? ⟨w.heap.size + 1, 2, none⟩ = some (.int .i64 0) := (RZ4.2 2 (by omega)).1
  have ed : w4.cell? ⟨w.heap.size + 1, 3, none⟩ = some (.int .i64 0) := (RZ4.2 3 (by omega)).1
  have fa := (RZ4.2 0 (by omega)).2
  have fb := (RZ4.2 1 (by omega)).2
  have fc := (RZ4.2 2 (by omega)).2
  have fd := (RZ4.2 3 (by omega)).2
  go_region
  go_wp2_with fail
  exact bodyPost_ret (v := outV ((k : Int) + 1, r2, true)) (by simp [results, Try.results19, go_sem, outV, ea, eb, ec, ed]) rfl ⟨by rw [HR2.out], (by repeat (first | exact Bre _ | assumption | refine Bdrew ?_ | refine Bal ?_ _ | refine Bset ?_ (by simp) _))⟩
set_option maxRecDepth 100000 in
set_option maxHeartbeats 1600000 in
theorem rnext_s6 (l : List Ins) (u v : Value) (mt : List Int) (k a b0 c0 : Nat) (pn : Int) (r : Rg) (w : World) (hl : l.length ≤ 1048576) (hu : InsAt w u l) (hv : IntsAt w v mt) (hp : l[k]? = some ⟨6, (a : Int), (b0 : Int), (c0 : Int), pn⟩) (hm : mayB ⟨6, (a : Int), (b0 : Int), (c0 : Int), pn⟩ = true) (ha : a < 4) (hb0 : b0 < 4) (hc0 : c0 < 4) :
    Calls Try.prog 19 #[u, v, .int .i64 k, .agg #[.int .i64 r.a, .int .i64 r.b, .int .i64 r.c, .int .i64 r.d]] w fun e w' => e = .returned (outV ((k : Int) + 1, r.set a (valF ⟨6, (a : Int), (b0 : Int), (c0 : Int), pn⟩ r), true)) ∧ Below w.heap.size w w' := by
  obtain ⟨A, c1, rfl, hu⟩ := hu
  obtain ⟨B, c2, rfl, hv⟩ := hv
  obtain ⟨b, off, rfl, hb, x1, x2, x3, x4, x5⟩ := hu k _ hp
  have hkl : k < l.length := (List.getElem?_eq_some_iff.1 hp).1
  have HP := Lib.hid hp
  have HV := Lib.hid hv
  clear hu hv hp
  have hlo : locB 6 = true := rfl
  have q1 : (a : Int) < 4 := by omega
  have q2 : (b0 : Int) < 4 := by omega
  have q3 : (c0 : Int) < 4 := by omega
  have hval : valF ⟨6, (a : Int), (b0 : Int), (c0 : Int), pn⟩ r = b2i (decide (r.get b0 < r.get c0)) := rfl
  rw [hval]
  obtain ⟨u, hu0⟩ : ∃ u, r.get b0 = u := ⟨_, rfl⟩
  obtain ⟨v, hv0⟩ : ∃ v, r.get c0 = v := ⟨_, rfl⟩
  rw [hu0, hv0]
  have HU := Lib.hid hu0
  have HVV := Lib.hid hv0
  clear hval hu0 hv0
  go_enter Try.func19, Try.ntmps19
  go_wp2_with fail
  refine (rmay_any ⟨6, (a : Int), (b0 : Int), (c0 : Int), pn⟩ _).mono ?_
  rintro e w1 ⟨rfl, hb1⟩
  have hz : w.heap.size + 1 < w1.heap.size := by have := hb1.size; simp at this; omega
  have hz0 : w.heap.size < w1.heap.size := by omega
  have hbw : Below w.heap.size w w1 := Bth (Bal (Bal (Bre _) _) _) hb1
  have RG : RegAt w1 w.heap.size r := (regBox w r _ _).th hb1
  have RZ : RegAt w1 (w.heap.size + 1) ⟨0, 0, 0, 0⟩ := (regZero _ _ (by simp) _).th hb1
  have y1 := (hbw.cell (p := ⟨b, off + k * 5, none⟩) hb).trans x1
  have y2 := (hbw.cell (p := ⟨b, off + k * 5 + 1, none⟩) hb).trans x2
  have y3 := (hbw.cell (p := ⟨b, off + k * 5 + 2, none⟩) hb).trans x3
  have y4 := (hbw.cell (p := ⟨b, off + k * 5 + 3, none⟩) hb).trans x4
  have y5 := (hbw.cell (p := ⟨b, off + k * 5 + 4, none⟩) hb).trans x5
  clear x1 x2 x3 x4 x5
  have vaa := (RG.2 a ha).1
  have vfa := (RG.2 a ha).2
  have vb : w1.cell? ⟨w.heap.size, b0, none⟩ = some (.int .i64 u) := by rw [(RG.2 b0 hb0).1, HU.out]
  have vc : w1.cell? ⟨w.heap.size, c0, none⟩ = some (.int .i64 v) := by rw [(RG.2 c0 hc0).1, HVV.out]
  go_wp2_with (go_at_call 14; refine (rlocal_any _ _).mono ?_; rintro e w2 ⟨rfl, rfl⟩)
  refine wp_region_aft_tail 13 (by kernel_rfl) (by kernel_rfl) ?_
  simp only [List.take_succ_cons, List.take_zero, List.drop_succ_cons, List.drop_zero]
  repeat (go_big_quiet_step (((go_at_call 27; exact Calls.aft_same _ ((truth_any _ _).mono fun e w2 h => ⟨h.1, h.2.symm⟩)))))
  refine wpQuiet_nil ?_
  rintro _ ⟨z, rfl⟩
  have RG3 : RegAt z.w w.heap.size r := (RG.th (Bal (Bre _) _)).th z.h
  have RZ3 : RegAt z.w (w.heap.size + 1) ⟨0, 0, 0, 0⟩ := (RZ.th (Bal (Bre _) _)).th z.h
  have hb3 : Below w.heap.size w z.w := Bth (Bal hbw _) z.h
  have hsz := z.h.size
  generalize z.w = w3 at RG3 RZ3 hb3 hsz ⊢
  clear vaa vfa vb vc
  have va := (RG3.2 a ha).1
  have vf := (RG3.2 a ha).2
  go_wp2_with fail
  have RG4 : RegAt (w3.setCell ⟨w.heap.size, a, none⟩ (.int .i64 (b2i (decide (u < v))))) w.heap.size (r.set a (b2i (decide (u < v)))) := RG3.set a ha _
  have RZ4 : RegAt (w3.setCell ⟨w.heap.size, a, none⟩ (.int .i64 (b2i (decide (u < v))))) (w.heap.size + 1) ⟨0, 0, 0, 0⟩ := RZ3.other _ a (by omega) _
  have hb4 : Below w.heap.size w (w3.setCell ⟨w.heap.size, a, none⟩ (.int .i64 (b2i (decide (u < v))))) := Bset hb3 (Nat.le_refl _) _
  generalize w3.setCell ⟨w.heap.size, a, none⟩ (.int .i64 (b2i (decide (u < v)))) = w4 at RG4 RZ4 hb4 ⊢
  generalize hr2 : r.set a (b2i (decide (u < v))) = r2 at RG4 ⊢
  have HR2 := Lib.hid hr2
  clear hr2
  have ra : w4.cell? ⟨w.heap.size, 0, none⟩ = some (.int .i64 r2.a) := (RG4.2 0 (by omega)).1
  have rb : w4.cell? ⟨w.heap.size, 1, none⟩ = some (.int .i64 r2.b) := (RG4.2 1 (by omega)).1
  have rc : w4.cell? ⟨w.heap.size, 2, none⟩ = some (.int .i64 r2.c) := (RG4.2 2 (by omega)).1
  have rd : w4.cell? ⟨w.heap.size, 3, none⟩ = some (.int .i64 r2.d) := (RG4.2 3 (by omega)).1
  have ea : w4.cell? ⟨w.heap.size + 1, 0, none⟩ = some (.int .i64 0) := (RZ4.2 0 (by omega)).1
  have eb : w4.cell? ⟨w.heap.size + 1, 1, none⟩ = some (.int .i64 0) := (RZ4.2 1 (by omega)).1
  have ec : w4.cell? ⟨w.heap.size + 1, 2, none⟩ = some (.int .i64 0) := (RZ4.2 2 (by omega)).1
  have ed : w4.cell? ⟨w.heap.size + 1, 3, none⟩ = some (.int .i64 0) := (RZ4.2 3 (by omega)).1
  have fa := (RZ4.2 0 (by omega)).2
  have fb := (RZ4.2 1 (by omega)).2
  have fc := (RZ4.2 2 (by omega)).2
  have fd := (RZ4.2 3 (by omega)).2
  go_region
  go_wp2_with fail
  exact bodyPost_ret (v := outV ((k : Int) + 1, r2, true)) (by simp [results, Try.results19, go_sem, outV, ea, eb, ec, ed]) rfl ⟨by rw [HR2.out], (by repeat (first | exact Bre _ | assumption | refine Bdrew ?_ | refine Bal ?_ _ | refine Bset ?_ (by simp) _))⟩
set_option maxRecDepth 100000 in
set_option maxHeartbeats 1600000 in
theorem rnext_s7 (l : List Ins) (u v : Value) (mt : List Int) (k a b0 c0 : Nat) (pn : Int) (r : Rg) (w : World) (hl : l.length ≤ 1048576) (hu : InsAt w u l) (hv : IntsAt w v mt) (hp : l[k]? = some ⟨7, (a : Int), (b0 : Int), (c0 : Int), pn⟩) (hm : mayB ⟨7, (a : Int), (b0 : Int), (c0 : Int), pn⟩ = true) (ha : a < 4) (hb0 : b0 < 4) (hc0 : c0 < 4) :
    Calls Try.prog 19 #[u, v, .int .i64 k, .agg #[.int .i64 r.a, .int .i64 r.b, .int .i64 r.c, .int .i64 r.d]] w fun e w' => e = .returned (outV ((k : Int) + 1, r.set a (valF ⟨7, (a : Int), (b0 : Int), (c0 : Int), pn⟩ r), true)) ∧ Below w.heap.size w w' := by
  obtain ⟨A, c1, rfl, hu⟩ := hu
  obtain ⟨B, c2, rfl, hv⟩ := hv
  obtain ⟨b, off, rfl, hb, x1, x2, x3, x4, x5⟩ := hu k _ hp
  have hkl : k < l.length := (List.getElem?_eq_some_iff.1 hp).1
  have HP := Lib.hid hp
  have HV := Lib.hid hv
  clear hu hv hp
  have hlo : locB 7 = true := rfl
  have q1 : (a : Int) < 4 := by omega
  have q2 : (b0 : Int) < 4 := by omega
  have q3 : (c0 : Int) < 4 := by omega
  have hval : valF ⟨7, (a : Int), (b0 : Int), (c0 : Int), pn⟩ r = b2i (r.get b0 == r.get c0) := rfl
  rw [hval]
  obtain ⟨u, hu0⟩ : ∃ u, r.get b0 = u := ⟨_, rfl⟩
  obtain ⟨v, hv0⟩ : ∃ v, r.get c0 = v := ⟨_, rfl⟩
  rw [hu0, hv0]
  have HU := Lib.hid hu0
  have HVV := Lib.hid hv0
  clear hval hu0 hv0
  go_enter Try.func19, Try.ntmps19
  go_wp2_with fail
  refine (rmay_any ⟨7, (a : Int), (b0 : Int), (c0 : Int), pn⟩ _).mono ?_
  rintro e w1 ⟨rfl, hb1⟩
  have hz : w.heap.size + 1 < w1.heap.size := by have := hb1.size; simp at this; omega
  have hz0 : w.heap.size < w1.heap.size := by omega
  have hbw : Below w.heap.size w w1 := Bth (Bal (Bal (Bre _) _) _) hb1
  have RG : RegAt w1 w.heap.size r := (regBox w r _ _).th hb1
  have RZ : RegAt w1 (w.heap.size + 1) ⟨0, 0, 0, 0⟩ := (regZero _ _ (by simp) _).th hb1
  have y1 := (hbw.cell (p := ⟨b, off + k * 5, none⟩) hb).trans x1
  have y2 := (hbw.cell (p := ⟨b, off + k * 5 + 1, none⟩) hb).trans x2
  have y3 := (hbw.cell (p := ⟨b, off + k * 5 + 2, none⟩) hb).trans x3
  have y4 := (hbw.cell (p := ⟨b, off + k * 5 + 3, none⟩) hb).trans x4
  have y5 := (hbw.cell (p := ⟨b, off + k * 5 + 4, none⟩) hb).trans x5
  clear x1 x2 x3 x4 x5
  have vaa := (RG.2 a ha).1
  have vfa := (RG.2 a ha).2
  have vb : w1.cell? ⟨w.heap.size, b0, none⟩ = some (.int .i64 u) := by rw [(RG.2 b0 hb0).1, HU.out]
  have vc : w1.cell? ⟨w.heap.size, c0, none⟩ = some (.int .i64 v) := by rw [(RG.2 c0 hc0).1, HVV.out]
  go_wp2_with (go_at_call 14; refine (rlocal_any _ _).mono ?_; rintro e w2 ⟨rfl, rfl⟩)
  refine wp_region_aft_tail 13 (by kernel_rfl) (by kernel_rfl) ?_
  simp only [List.take_succ_cons, List.take_zero, List.drop_succ_cons, List.drop_zero]
  repeat (go_big_quiet_step (((go_at_call 27; exact Calls.aft_same _ ((truth_any _ _).mono fun e w2 h => ⟨h.1, h.2.symm⟩)))))
  refine wpQuiet_nil ?_
  rintro _ ⟨z, rfl⟩
  have RG3 : RegAt z.w w.heap.size r := (RG.th (Bal (Bre _) _)).th z.h
  have RZ3 : RegAt z.w (w.heap.size + 1) ⟨0, 0, 0, 0⟩ := (RZ.th (Bal (Bre _) _)).th z.h
  have hb3 : Below w.heap.size w z.w := Bth (Bal hbw _) z.h
  have hsz := z.h.size
  generalize z.w = w3 at RG3 RZ3 hb3 hsz ⊢
  clear vaa vfa vb vc
  have va := (RG3.2 a ha).1
  have vf := (RG3.2 a ha).2
  go_wp2_with fail
  have RG4 : RegAt (w3.setCell ⟨w.heap.size, a, none⟩ (.int .i64 (b2i (u == v)))) w.heap.size (r.set a (b2i (u == v))) := RG3.set a ha _
  have RZ4 : RegAt (w3.setCell ⟨w.heap.size, a, none⟩ (.int .i64 (b2i (u == v)))) (w.heap.size + 1) ⟨0, 0, 0, 0⟩ := RZ3.other _ a (by omega) _
  have hb4 : Below w.heap.size w (w3.setCell ⟨w.heap.size, a, none⟩ (.int .i64 (b2i (u == v)))) := Bset hb3 (Nat.le_refl _) _
  generalize w3.setCell ⟨w.heap.size, a, none⟩ (.int .i64 (b2i (u == v))) = w4 at RG4 RZ4 hb4 ⊢
  generalize hr2 : r.set a (b2i (u == v)) = r2 at RG4 ⊢
  have HR2 := Lib.hid hr2
  clear hr2
  have ra : w4.cell? ⟨w.heap.size, 0, none⟩ = some (.int .i64 r2.a) := (RG4.2 0 (by omega)).1
  have rb : w4.cell? ⟨w.heap.size, 1, none⟩ = some (.int .i64 r2.b) := (RG4.2 1 (by omega)).1
  have rc : w4.cell? ⟨w.heap.size, 2, none⟩ = some (.int .i64 r2.c) := (RG4.2 2 (by omega)).1
  have rd : w4.cell? ⟨w.heap.size, 3, none⟩ = some (.int .i64 r2.d) := (RG4.2 3 (by omega)).1
  have ea : w4.cell? ⟨w.heap.size + 1, 0, none⟩ = some (.int .i64 0) := (RZ4.2 0 (by omega)).1
  have eb : w4.cell? ⟨w.heap.size + 1, 1, none⟩ = some (.int .i64 0) := (RZ4.2 1 (by omega)).1
  have ec : w4.cell? ⟨w.heap.size + 1, 2, none⟩ = some (.int .i64 0) := (RZ4.2 2 (by omega)).1
  have ed : w4.cell? ⟨w.heap.size + 1, 3, none⟩ = some (.int .i64 0) := (RZ4.2 3 (by omega)).1
  have fa := (RZ4.2 0 (by omega)).2
  have fb := (RZ4.2 1 (by omega)).2
  have fc := (RZ4.2 2 (by omega)).2
  have fd := (RZ4.2 3 (by omega)).2
  go_region
  go_wp2_with fail
  exact bodyPost_ret (v := outV ((k : Int) + 1, r2, true)) (by simp [results, Try.results19, go_sem, outV, ea, eb, ec, ed]) rfl ⟨by rw [HR2.out], (by repeat (first | exact Bre _ | assumption | refine Bdrew ?_ | refine Bal ?_ _ | refine Bset ?_ (by simp) _))⟩
end Go.Proofs.Ytipkaloldlplgaa
