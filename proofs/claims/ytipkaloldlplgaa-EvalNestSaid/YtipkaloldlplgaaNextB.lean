/-
  Where it goes on: part of the proof that Next computes nextF.
-/
import Derived.Test.YtipkaloldlplgaaNext
set_option linter.unusedVariables false
namespace Go.Proofs.Ytipkaloldlplgaa
open Go.RowKit
set_option maxRecDepth 100000 in
set_option maxHeartbeats 1600000 in
theorem next_j22 (l : List Ins) (u v : Value) (mt : List Int) (k : Nat) (x : Int) (pa pb pc pn : Int) (r : Rg) (w : World) (hl : l.length ≤ 1048576) (hu : InsAt w u l) (hv : IntsAt w v mt) (hp : l[k]? = some ⟨22, pa, pb, pc, pn⟩) (hm : mayB ⟨22, pa, pb, pc, pn⟩ = true) (hx : mt[k]? = some x) (hx0 : 0 ≤ x) (hx1 : x < l.length) :
    Calls Try.prog 18 #[u, v, .int .i64 k, .agg #[.int .i64 r.a, .int .i64 r.b, .int .i64 r.c, .int .i64 r.d]] w fun e w' => e = .returned (outV (x, r, true)) ∧ Below w.heap.size w w' := by
  obtain ⟨A, c1, rfl, hu⟩ := hu
  obtain ⟨B, c2, rfl, hv⟩ := hv
  obtain ⟨b, off, rfl, hb, x1, x2, x3, x4, x5⟩ := hu k _ hp
  have hkl : k < l.length := (List.getElem?_eq_some_iff.1 hp).1
  have HP := Lib.hid hp
  have HV := Lib.hid hv
  clear hu hv hp
  have hkm : k < mt.length := (List.getElem?_eq_some_iff.1 hx).1
  obtain ⟨bm, om, rfl, hbm, z1⟩ := HV.out k x hx
  clear hx
  have hlo : locB 22 = true := rfl
  have hx2 : ¬ x < 0 := by omega
  go_enter Try.func18, Try.ntmps18
  go_wp2_with fail
  refine (may_any ⟨22, pa, pb, pc, pn⟩ _).mono ?_
  rintro e w1 ⟨rfl, hb1⟩
  have hz : w.heap.size + 1 < w1.heap.size := by have := hb1.size; simp at this; omega
  have hz0 : w.heap.size < w1.heap.size := by omega
  have hbw : Below w.heap.size w w1 := Bth (Bal (Bal (Bre _) _) _) hb1
  have RG : RegAt w1 w.heap.size r := (regBox w r _ _).th hb1
  have RZ : RegAt w1 (w.heap.size + 1) ⟨0, 0, 0, 0⟩ := (regZero _ _ (by simp) _).th hb1
  have ra : w1.cell? ⟨w.heap.size, 0, none⟩ = some (.int .i64 r.a) := (RG.2 0 (by omega)).1
  have rb : w1.cell? ⟨w.heap.size, 1, none⟩ = some (.int .i64 r.b) := (RG.2 1 (by omega)).1
  have rc : w1.cell? ⟨w.heap.size, 2, none⟩ = some (.int .i64 r.c) := (RG.2 2 (by omega)).1
  have rd : w1.cell? ⟨w.heap.size, 3, none⟩ = some (.int .i64 r.d) := (RG.2 3 (by omega)).1
  have ea : w1.cell? ⟨w.heap.size + 1, 0, none⟩ = some (.int .i64 0) := (RZ.2 0 (by omega)).1
  have eb : w1.cell? ⟨w.heap.size + 1, 1, none⟩ = some (.int .i64 0) := (RZ.2 1 (by omega)).1
  have ec : w1.cell? ⟨w.heap.size + 1, 2, none⟩ = some (.int .i64 0) := (RZ.2 2 (by omega)).1
  have ed : w1.cell? ⟨w.heap.size + 1, 3, none⟩ = some (.int .i64 0) := (RZ.2 3 (by omega)).1
  have fa := (RZ.2 0 (by omega)).2
  have fb := (RZ.2 1 (by omega)).2
  have fc := (RZ.2 2 (by omega)).2
  have fd := (RZ.2 3 (by omega)).2
  have y1 := (hbw.cell (p := ⟨b, off + k * 5, none⟩) hb).trans x1
  have y2 := (hbw.cell (p := ⟨b, off + k * 5 + 1, none⟩) hb).trans x2
  have y3 := (hbw.cell (p := ⟨b, off + k * 5 + 2, none⟩) hb).trans x3
  have y4 := (hbw.cell (p := ⟨b, off + k * 5 + 3, none⟩) hb).trans x4
  have y5 := (hbw.cell (p := ⟨b, off + k * 5 + 4, none⟩) hb).trans x5
  clear x1 x2 x3 x4 x5
  have hbm1 : bm < w1.heap.size := by omega
  have z2 := (hbw.cell (p := ⟨bm, om + k, none⟩) hbm).trans z1
  clear z1
  go_wp2_with (go_at_call 13; refine (local_any _ _).mono ?_; rintro e w2 ⟨rfl, rfl⟩)
  go_region
  go_wp2_with fail
  exact bodyPost_ret (v := outV (x, r, true)) (by simp [results, Try.results18, go_sem, outV, ea, eb, ec, ed, hz]) rfl ⟨rfl, (by repeat (first | exact Bre _ | assumption | refine Bdrew ?_ | refine Bal ?_ _ | refine Bset ?_ (by simp) _))⟩
set_option maxRecDepth 100000 in
set_option maxHeartbeats 1600000 in
theorem next_j19 (l : List Ins) (u v : Value) (mt : List Int) (k : Nat) (x : Int) (pa pb pc pn : Int) (r : Rg) (w : World) (hl : l.length ≤ 1048576) (hu : InsAt w u l) (hv : IntsAt w v mt) (hp : l[k]? = some ⟨19, pa, pb, pc, pn⟩) (hm : mayB ⟨19, pa, pb, pc, pn⟩ = true) (hx : mt[k]? = some x) (hx0 : 0 ≤ x) (hx1 : x < l.length) :
    Calls Try.prog 18 #[u, v, .int .i64 k, .agg #[.int .i64 r.a, .int .i64 r.b, .int .i64 r.c, .int .i64 r.d]] w fun e w' => e = .returned (outV (x + 1, r, true)) ∧ Below w.heap.size w w' := by
  obtain ⟨A, c1, rfl, hu⟩ := hu
  obtain ⟨B, c2, rfl, hv⟩ := hv
  obtain ⟨b, off, rfl, hb, x1, x2, x3, x4, x5⟩ := hu k _ hp
  have hkl : k < l.length := (List.getElem?_eq_some_iff.1 hp).1
  have HP := Lib.hid hp
  have HV := Lib.hid hv
  clear hu hv hp
  have hkm : k < mt.length := (List.getElem?_eq_some_iff.1 hx).1
  obtain ⟨bm, om, rfl, hbm, z1⟩ := HV.out k x hx
  clear hx
  have hlo : locB 19 = true := rfl
  have hx2 : ¬ x < 0 := by omega
  go_enter Try.func18, Try.ntmps18
  go_wp2_with fail
  refine (may_any ⟨19, pa, pb, pc, pn⟩ _).mono ?_
  rintro e w1 ⟨rfl, hb1⟩
  have hz : w.heap.size + 1 < w1.heap.size := by have := hb1.size; simp at this; omega
  have hz0 : w.heap.size < w1.heap.size := by omega
  have hbw : Below w.heap.size w w1 := Bth (Bal (Bal (Bre _) _) _) hb1
  have RG : RegAt w1 w.heap.size r := (regBox w r _ _).th hb1
  have RZ : RegAt w1 (w.heap.size + 1) ⟨0, 0, 0, 0⟩ := (regZero _ _ (by simp) _).th hb1
  have ra : w1.cell? ⟨w.heap.size, 0, none⟩ = some (.int .i64 r.a) := (RG.2 0 (by omega)).1
  have rb : w1.cell? ⟨w.heap.size, 1, none⟩ = some (.int .i64 r.b) := (RG.2 1 (by omega)).1
  have rc : w1.cell? ⟨w.heap.size, 2, none⟩ = some (.int .i64 r.c) := (RG.2 2 (by omega)).1
  have rd : w1.cell? ⟨w.heap.size, 3, none⟩ = some (.int .i64 r.d) := (RG.2 3 (by omega)).1
  have ea : w1.cell? ⟨w.heap.size + 1, 0, none⟩ = some (.int .i64 0) := (RZ.2 0 (by omega)).1
  have eb : w1.cell? ⟨w.heap.size + 1, 1, none⟩ = some (.int .i64 0) := (RZ.2 1 (by omega)).1
  have ec : w1.cell? ⟨w.heap.size + 1, 2, none⟩ = some (.int .i64 0) := (RZ.2 2 (by omega)).1
  have ed : w1.cell? ⟨w.heap.size + 1, 3, none⟩ = some (.int .i64 0) := (RZ.2 3 (by omega)).1
  have fa := (RZ.2 0 (by omega)).2
  have fb := (RZ.2 1 (by omega)).2
  have fc := (RZ.2 2 (by omega)).2
  have fd := (RZ.2 3 (by omega)).2
  have y1 := (hbw.cell (p := ⟨b, off + k * 5, none⟩) hb).trans x1
  have y2 := (hbw.cell (p := ⟨b, off + k * 5 + 1, none⟩) hb).trans x2
  have y3 := (hbw.cell (p := ⟨b, off + k * 5 + 2, none⟩) hb).trans x3
  have y4 := (hbw.cell (p := ⟨b, off + k * 5 + 3, none⟩) hb).trans x4
  have y5 := (hbw.cell (p := ⟨b, off + k * 5 + 4, none⟩) hb).trans x5
  clear x1 x2 x3 x4 x5
  have hbm1 : bm < w1.heap.size := by omega
  have z2 := (hbw.cell (p := ⟨bm, om + k, none⟩) hbm).trans z1
  clear z1
  go_wp2_with (go_at_call 13; refine (local_any _ _).mono ?_; rintro e w2 ⟨rfl, rfl⟩)
  go_region
  go_wp2_with fail
  exact bodyPost_ret (v := outV (x + 1, r, true)) (by simp [results, Try.results18, go_sem, outV, ea, eb, ec, ed, hz]) rfl ⟨rfl, (by repeat (first | exact Bre _ | assumption | refine Bdrew ?_ | refine Bal ?_ _ | refine Bset ?_ (by simp) _))⟩
set_option maxRecDepth 100000 in
set_option maxHeartbeats 1600000 in
theorem next_j18y (l : List Ins) (u v : Value) (mt : List Int) (k a : Nat) (x : Int) (pb pc pn : Int) (r : Rg) (w : World) (hl : l.length ≤ 1048576) (hu : InsAt w u l) (hv : IntsAt w v mt) (hp : l[k]? = some ⟨18, (a : Int), pb, pc, pn⟩) (hm : mayB ⟨18, (a : Int), pb, pc, pn⟩ = true) (hx : mt[k]? = some x) (hx0 : 0 ≤ x) (hx1 : x < l.length) (ha : a < 4) (hr : r.get a ≠ 0) :
    Calls Try.prog 18 #[u, v, .int .i64 k, .agg #[.int .i64 r.a, .int .i64 r.b, .int .i64 r.c, .int .i64 r.d]] w fun e w' => e = .returned (outV ((k : Int) + 1, r, true)) ∧ Below w.heap.size w w' := by
  obtain ⟨A, c1, rfl, hu⟩ := hu
  obtain ⟨B, c2, rfl, hv⟩ := hv
  obtain ⟨b, off, rfl, hb, x1, x2, x3, x4, x5⟩ := hu k _ hp
  have hkl : k < l.length := (List.getElem?_eq_some_iff.1 hp).1
  have HP := Lib.hid hp
  have HV := Lib.hid hv
  clear hu hv hp
  have hkm : k < mt.length := (List.getElem?_eq_some_iff.1 hx).1
  obtain ⟨bm, om, rfl, hbm, z1⟩ := HV.out k x hx
  clear hx
  have hlo : locB 18 = true := rfl
  have hx2 : ¬ x < 0 := by omega
  have q1 : (a : Int) < 4 := by omega
  obtain ⟨y, hy⟩ : ∃ y, r.get a = y := ⟨_, rfl⟩
  rw [hy] at hr
  have HY := Lib.hid hy
  clear hy
  have hry : (y != 0) = true := by rw [bne_iff_ne]; exact hr
  have hry2 : (y == 0) = false := by simpa using hr
  clear hr
  go_enter Try.func18, Try.ntmps18
  go_wp2_with fail
  refine (may_any ⟨18, (a : Int), pb, pc, pn⟩ _).mono ?_
  rintro e w1 ⟨rfl, hb1⟩
  have hz : w.heap.size + 1 < w1.heap.size := by have := hb1.size; simp at this; omega
  have hz0 : w.heap.size < w1.heap.size := by omega
  have hbw : Below w.heap.size w w1 := Bth (Bal (Bal (Bre _) _) _) hb1
  have RG : RegAt w1 w.heap.size r := (regBox w r _ _).th hb1
  have RZ : RegAt w1 (w.heap.size + 1) ⟨0, 0, 0, 0⟩ := (regZero _ _ (by simp) _).th hb1
  have ra : w1.cell? ⟨w.heap.size, 0, none⟩ = some (.int .i64 r.a) := (RG.2 0 (by omega)).1
  have rb : w1.cell? ⟨w.heap.size, 1, none⟩ = some (.int .i64 r.b) := (RG.2 1 (by omega)).1
  have rc : w1.cell? ⟨w.heap.size, 2, none⟩ = some (.int .i64 r.c) := (RG.2 2 (by omega)).1
  have rd : w1.cell? ⟨w.heap.size, 3, none⟩ = some (.int .i64 r.d) := (RG.2 3 (by omega)).1
  have ea : w1.cell? ⟨w.heap.size + 1, 0, none⟩ = some (.int .i64 0) := (RZ.2 0 (by omega)).1
  have eb : w1.cell? ⟨w.heap.size + 1, 1, none⟩ = some (.int .i64 0) := (RZ.2 1 (by omega)).1
  have ec : w1.cell? ⟨w.heap.size + 1, 2, none⟩ = some (.int .i64 0) := (RZ.2 2 (by omega)).1
  have ed : w1.cell? ⟨w.heap.size + 1, 3, none⟩ = some (.int .i64 0) := (RZ.2 3 (by omega)).1
  have fa := (RZ.2 0 (by omega)).2
  have fb := (RZ.2 1 (by omega)).2
  have fc := (RZ.2 2 (by omega)).2
  have fd := (RZ.2 3 (by omega)).2
  have y1 := (hbw.cell (p := ⟨b, off + k * 5, none⟩) hb).trans x1
  have y2 := (hbw.cell (p := ⟨b, off + k * 5 + 1, none⟩) hb).trans x2
  have y3 := (hbw.cell (p := ⟨b, off + k * 5 + 2, none⟩) hb).trans x3
  have y4 := (hbw.cell (p := ⟨b, off + k * 5 + 3, none⟩) hb).trans x4
  have y5 := (hbw.cell (p := ⟨b, off + k * 5 + 4, none⟩) hb).trans x5
  clear x1 x2 x3 x4 x5
  have hbm1 : bm < w1.heap.size := by omega
  have z2 := (hbw.cell (p := ⟨bm, om + k, none⟩) hbm).trans z1
  clear z1
  have va : w1.cell? ⟨w.heap.size, a, none⟩ = some (.int .i64 y) := by rw [(RG.2 a ha).1, HY.out]
  go_wp2_with (go_at_call 13; refine (local_any _ _).mono ?_; rintro e w2 ⟨rfl, rfl⟩)
  go_region
  go_wp2_with fail
  exact bodyPost_ret (v := outV ((k : Int) + 1, r, true)) (by simp [results, Try.results18, go_sem, outV, ea, eb, ec, ed, hz]) rfl ⟨rfl, (by repeat (first | exact Bre _ | assumption | refine Bdrew ?_ | refine Bal ?_ _ | refine Bset ?_ (by simp) _))⟩
set_option maxRecDepth 100000 in
set_option maxHeartbeats 1600000 in
theorem next_j18n (l : List Ins) (u v : Value) (mt : List Int) (k a : Nat) (x : Int) (pb pc pn : Int) (r : Rg) (w : World) (hl : l.length ≤ 1048576) (hu : InsAt w u l) (hv : IntsAt w v mt) (hp : l[k]? = some ⟨18, (a : Int), pb, pc, pn⟩) (hm : mayB ⟨18, (a : Int), pb, pc, pn⟩ = true) (hx : mt[k]? = some x) (hx0 : 0 ≤ x) (hx1 : x < l.length) (ha : a < 4) (hr : r.get a = 0) :
    Calls Try.prog 18 #[u, v, .int .i64 k, .agg #[.int .i64 r.a, .int .i64 r.b, .int .i64 r.c, .int .i64 r.d]] w fun e w' => e = .returned (outV (x + 1, r, true)) ∧ Below w.heap.size w w' := by
  obtain ⟨A, c1, rfl, hu⟩ := hu
  obtain ⟨B, c2, rfl, hv⟩ := hv
  obtain ⟨b, off, rfl, hb, x1, x2, x3, x4, x5⟩ := hu k _ hp
  have hkl : k < l.length := (List.getElem?_eq_some_iff.1 hp).1
  have HP := Lib.hid hp
  have HV := Lib.hid hv
  clear hu hv hp
  have hkm : k < mt.length := (List.getElem?_eq_some_iff.1 hx).1
  obtain ⟨bm, om, rfl, hbm, z1⟩ := HV.out k x hx
  clear hx
  have hlo : locB 18 = true := rfl
  have hx2 : ¬ x < 0 := by omega
  have q1 : (a : Int) < 4 := by omega
  obtain ⟨y, hy⟩ : ∃ y, r.get a = y := ⟨_, rfl⟩
  rw [hy] at hr
  have HY := Lib.hid hy
  clear hy
  have hry : (y != 0) = false := by simp [hr]
  have hry2 : (y == 0) = true := by simp [hr]
  clear hr
  go_enter Try.func18, Try.ntmps18
  go_wp2_with fail
  refine (may_any ⟨18, (a : Int), pb, pc, pn⟩ _).mono ?_
  rintro e w1 ⟨rfl, hb1⟩
  have hz : w.heap.size + 1 < w1.heap.size := by have := hb1.size; simp at this; omega
  have hz0 : w.heap.size < w1.heap.size := by omega
  have hbw : Below w.heap.size w w1 := Bth (Bal (Bal (Bre _) _) _) hb1
  have RG : RegAt w1 w.heap.size r := (regBox w r _ _).th hb1
  have RZ : RegAt w1 (w.heap.size + 1) ⟨0, 0, 0, 0⟩ := (regZero _ _ (by simp) _).th hb1
  have ra : w1.cell? ⟨w.heap.size, 0, none⟩ = some (.int .i64 r.a) := (RG.2 0 (by omega)).1
  have rb : w1.cell? ⟨w.heap.size, 1, none⟩ = some (.int .i64 r.b) := (RG.2 1 (by omega)).1
  have rc : w1.cell? ⟨w.heap.size, 2, none⟩ = some (.int .i64 r.c) := (RG.2 2 (by omega)).1
  have rd : w1.cell? ⟨w.heap.size, 3, none⟩ = some (.int .i64 r.d) := (RG.2 3 (by omega)).1
  have ea : w1.cell? ⟨w.heap.size + 1, 0, none⟩ = some (.int .i64 0) := (RZ.2 0 (by omega)).1
  have eb : w1.cell? ⟨w.heap.size + 1, 1, none⟩ = some (.int .i64 0) := (RZ.2 1 (by omega)).1
  have ec : w1.cell? ⟨w.heap.size + 1, 2, none⟩ = some (.int .i64 0) := (RZ.2 2 (by omega)).1
  have ed : w1.cell? ⟨w.heap.size + 1, 3, none⟩ = some (.int .i64 0) := (RZ.2 3 (by omega)).1
  have fa := (RZ.2 0 (by omega)).2
  have fb := (RZ.2 1 (by omega)).2
  have fc := (RZ.2 2 (by omega)).2
  have fd := (RZ.2 3 (by omega)).2
  have y1 := (hbw.cell (p := ⟨b, off + k * 5, none⟩) hb).trans x1
  have y2 := (hbw.cell (p := ⟨b, off + k * 5 + 1, none⟩) hb).trans x2
  have y3 := (hbw.cell (p := ⟨b, off + k * 5 + 2, none⟩) hb).trans x3
  have y4 := (hbw.cell (p := ⟨b, off + k * 5 + 3, none⟩) hb).trans x4
  have y5 := (hbw.cell (p := ⟨b, off + k * 5 + 4, none⟩) hb).trans x5
  clear x1 x2 x3 x4 x5
  have hbm1 : bm < w1.heap.size := by omega
  have z2 := (hbw.cell (p := ⟨bm, om + k, none⟩) hbm).trans z1
  clear z1
  have va : w1.cell? ⟨w.heap.size, a, none⟩ = some (.int .i64 y) := by rw [(RG.2 a ha).1, HY.out]
  go_wp2_with (go_at_call 13; refine (local_any _ _).mono ?_; rintro e w2 ⟨rfl, rfl⟩)
  go_region
  go_wp2_with fail
  exact bodyPost_ret (v := outV (x + 1, r, true)) (by simp [results, Try.results18, go_sem, outV, ea, eb, ec, ed, hz]) rfl ⟨rfl, (by repeat (first | exact Bre _ | assumption | refine Bdrew ?_ | refine Bal ?_ _ | refine Bset ?_ (by simp) _))⟩
set_option maxRecDepth 100000 in
set_option maxHeartbeats 1600000 in
theorem next_j21y (l : List Ins) (u v : Value) (mt : List Int) (k a : Nat) (x : Int) (pb pc pn : Int) (r : Rg) (w : World) (hl : l.length ≤ 1048576) (hu : InsAt w u l) (hv : IntsAt w v mt) (hp : l[k]? = some ⟨21, (a : Int), pb, pc, pn⟩) (hm : mayB ⟨21, (a : Int), pb, pc, pn⟩ = true) (hx : mt[k]? = some x) (hx0 : 0 ≤ x) (hx1 : x < l.length) (ha : a < 4) (hr : r.get a ≠ 0) :
    Calls Try.prog 18 #[u, v, .int .i64 k, .agg #[.int .i64 r.a, .int .i64 r.b, .int .i64 r.c, .int .i64 r.d]] w fun e w' => e = .returned (outV ((k : Int) + 1, r, true)) ∧ Below w.heap.size w w' := by
  obtain ⟨A, c1, rfl, hu⟩ := hu
  obtain ⟨B, c2, rfl, hv⟩ := hv
  obtain ⟨b, off, rfl, hb, x1, x2, x3, x4, x5⟩ := hu k _ hp
  have hkl : k < l.length := (List.getElem?_eq_some_iff.1 hp).1
  have HP := Lib.hid hp
  have HV := Lib.hid hv
  clear hu hv hp
  have hkm : k < mt.length := (List.getElem?_eq_some_iff.1 hx).1
  obtain ⟨bm, om, rfl, hbm, z1⟩ := HV.out k x hx
  clear hx
  have hlo : locB 21 = true := rfl
  have hx2 : ¬ x < 0 := by omega
  have q1 : (a : Int) < 4 := by omega
  obtain ⟨y, hy⟩ : ∃ y, r.get a = y := ⟨_, rfl⟩
  rw [hy] at hr
  have HY := Lib.hid hy
  clear hy
  have hry : (y != 0) = true := by rw [bne_iff_ne]; exact hr
  have hry2 : (y == 0) = false := by simpa using hr
  clear hr
  go_enter Try.func18, Try.ntmps18
  go_wp2_with fail
  refine (may_any ⟨21, (a : Int), pb, pc, pn⟩ _).mono ?_
  rintro e w1 ⟨rfl, hb1⟩
  have hz : w.heap.size + 1 < w1.heap.size := by have := hb1.size; simp at this; omega
  have hz0 : w.heap.size < w1.heap.size := by omega
  have hbw : Below w.heap.size w w1 := Bth (Bal (Bal (Bre _) _) _) hb1
  have RG : RegAt w1 w.heap.size r := (regBox w r _ _).th hb1
  have RZ : RegAt w1 (w.heap.size + 1) ⟨0, 0, 0, 0⟩ := (regZero _ _ (by simp) _).th hb1
  have ra : w1.cell? ⟨w.heap.size, 0, none⟩ = some (.int .i64 r.a) := (RG.2 0 (by omega)).1
  have rb : w1.cell? ⟨w.heap.size, 1, none⟩ = some (.int .i64 r.b) := (RG.2 1 (by omega)).1
  have rc : w1.cell? ⟨w.heap.size, 2, none⟩ = some (.int .i64 r.c) := (RG.2 2 (by omega)).1
  have rd : w1.cell? ⟨w.heap.size, 3, none⟩ = some (.int .i64 r.d) := (RG.2 3 (by omega)).1
  have ea : w1.cell? ⟨w.heap.size + 1, 0, none⟩ = some (.int .i64 0) := (RZ.2 0 (by omega)).1
  have eb : w1.cell? ⟨w.heap.size + 1, 1, none⟩ = some (.int .i64 0) := (RZ.2 1 (by omega)).1
  have ec : w1.cell? ⟨w.heap.size + 1, 2, none⟩ = some (.int .i64 0) := (RZ.2 2 (by omega)).1
  have ed : w1.cell? ⟨w.heap.size + 1, 3, none⟩ = some (.int .i64 0) := (RZ.2 3 (by omega)).1
  have fa := (RZ.2 0 (by omega)).2
  have fb := (RZ.2 1 (by omega)).2
  have fc := (RZ.2 2 (by omega)).2
  have fd := (RZ.2 3 (by omega)).2
  have y1 := (hbw.cell (p := ⟨b, off + k * 5, none⟩) hb).trans x1
  have y2 := (hbw.cell (p := ⟨b, off + k * 5 + 1, none⟩) hb).trans x2
  have y3 := (hbw.cell (p := ⟨b, off + k * 5 + 2, none⟩) hb).trans x3
  have y4 := (hbw.cell (p := ⟨b, off + k * 5 + 3, none⟩) hb).trans x4
  have y5 := (hbw.cell (p := ⟨b, off + k * 5 + 4, none⟩) hb).trans x5
  clear x1 x2 x3 x4 x5
  have hbm1 : bm < w1.heap.size := by omega
  have z2 := (hbw.cell (p := ⟨bm, om + k, none⟩) hbm).trans z1
  clear z1
  have va : w1.cell? ⟨w.heap.size, a, none⟩ = some (.int .i64 y) := by rw [(RG.2 a ha).1, HY.out]
  go_wp2_with (go_at_call 13; refine (local_any _ _).mono ?_; rintro e w2 ⟨rfl, rfl⟩)
  go_region
  go_wp2_with fail
  exact bodyPost_ret (v := outV ((k : Int) + 1, r, true)) (by simp [results, Try.results18, go_sem, outV, ea, eb, ec, ed, hz]) rfl ⟨rfl, (by repeat (first | exact Bre _ | assumption | refine Bdrew ?_ | refine Bal ?_ _ | refine Bset ?_ (by simp) _))⟩
set_option maxRecDepth 100000 in
set_option maxHeartbeats 1600000 in
theorem next_j21n (l : List Ins) (u v : Value) (mt : List Int) (k a : Nat) (x : Int) (pb pc pn : Int) (r : Rg) (w : World) (hl : l.length ≤ 1048576) (hu : InsAt w u l) (hv : IntsAt w v mt) (hp : l[k]? = some ⟨21, (a : Int), pb, pc, pn⟩) (hm : mayB ⟨21, (a : Int), pb, pc, pn⟩ = true) (hx : mt[k]? = some x) (hx0 : 0 ≤ x) (hx1 : x < l.length) (ha : a < 4) (hr : r.get a = 0) :
    Calls Try.prog 18 #[u, v, .int .i64 k, .agg #[.int .i64 r.a, .int .i64 r.b, .int .i64 r.c, .int .i64 r.d]] w fun e w' => e = .returned (outV (x + 1, r, true)) ∧ Below w.heap.size w w' := by
  obtain ⟨A, c1, rfl, hu⟩ := hu
  obtain ⟨B, c2, rfl, hv⟩ := hv
  obtain ⟨b, off, rfl, hb, x1, x2, x3, x4, x5⟩ := hu k _ hp
  have hkl : k < l.length := (List.getElem?_eq_some_iff.1 hp).1
  have HP := Lib.hid hp
  have HV := Lib.hid hv
  clear hu hv hp
  have hkm : k < mt.length := (List.getElem?_eq_some_iff.1 hx).1
  obtain ⟨bm, om, rfl, hbm, z1⟩ := HV.out k x hx
  clear hx
  have hlo : locB 21 = true := rfl
  have hx2 : ¬ x < 0 := by omega
  have q1 : (a : Int) < 4 := by omega
  obtain ⟨y, hy⟩ : ∃ y, r.get a = y := ⟨_, rfl⟩
  rw [hy] at hr
  have HY := Lib.hid hy
  clear hy
  have hry : (y != 0) = false := by simp [hr]
  have hry2 : (y == 0) = true := by simp [hr]
  clear hr
  go_enter Try.func18, Try.ntmps18
  go_wp2_with fail
  refine (may_any ⟨21, (a : Int), pb, pc, pn⟩ _).mono ?_
  rintro e w1 ⟨rfl, hb1⟩
  have hz : w.heap.size + 1 < w1.heap.size := by have := hb1.size; simp at this; omega
  have hz0 : w.heap.size < w1.heap.size := by omega
  have hbw : Below w.heap.size w w1 := Bth (Bal (Bal (Bre _) _) _) hb1
  have RG : RegAt w1 w.heap.size r := (regBox w r _ _).th hb1
  have RZ : RegAt w1 (w.heap.size + 1) ⟨0, 0, 0, 0⟩ := (regZero _ _ (by simp) _).th hb1
  have ra : w1.cell? ⟨w.heap.size, 0, none⟩ = some (.int .i64 r.a) := (RG.2 0 (by omega)).1
  have rb : w1.cell? ⟨w.heap.size, 1, none⟩ = some (.int .i64 r.b) := (RG.2 1 (by omega)).1
  have rc : w1.cell? ⟨w.heap.size, 2, none⟩ = some (.int .i64 r.c) := (RG.2 2 (by omega)).1
  have rd : w1.cell? ⟨w.heap.size, 3, none⟩ = some (.int .i64 r.d) := (RG.2 3 (by omega)).1
  have ea : w1.cell? ⟨w.heap.size + 1, 0, none⟩ = some (.int .i64 0) := (RZ.2 0 (by omega)).1
  have eb : w1.cell? ⟨w.heap.size + 1, 1, none⟩ = some (.int .i64 0) := (RZ.2 1 (by omega)).1
  have ec : w1.cell? ⟨w.heap.size + 1, 2, none⟩ = some (.int .i64 0) := (RZ.2 2 (by omega)).1
  have ed : w1.cell? ⟨w.heap.size + 1, 3, none⟩ = some (.int .i64 0) := (RZ.2 3 (by omega)).1
  have fa := (RZ.2 0 (by omega)).2
  have fb := (RZ.2 1 (by omega)).2
  have fc := (RZ.2 2 (by omega)).2
  have fd := (RZ.2 3 (by omega)).2
  have y1 := (hbw.cell (p := ⟨b, off + k * 5, none⟩) hb).trans x1
  have y2 := (hbw.cell (p := ⟨b, off + k * 5 + 1, none⟩) hb).trans x2
  have y3 := (hbw.cell (p := ⟨b, off + k * 5 + 2, none⟩) hb).trans x3
  have y4 := (hbw.cell (p := ⟨b, off + k * 5 + 3, none⟩) hb).trans x4
  have y5 := (hbw.cell (p := ⟨b, off + k * 5 + 4, none⟩) hb).trans x5
  clear x1 x2 x3 x4 x5
  have hbm1 : bm < w1.heap.size := by omega
  have z2 := (hbw.cell (p := ⟨bm, om + k, none⟩) hbm).trans z1
  clear z1
  have va : w1.cell? ⟨w.heap.size, a, none⟩ = some (.int .i64 y) := by rw [(RG.2 a ha).1, HY.out]
  go_wp2_with (go_at_call 13; refine (local_any _ _).mono ?_; rintro e w2 ⟨rfl, rfl⟩)
  go_region
  go_wp2_with fail
  exact bodyPost_ret (v := outV (x + 1, r, true)) (by simp [results, Try.results18, go_sem, outV, ea, eb, ec, ed, hz]) rfl ⟨rfl, (by repeat (first | exact Bre _ | assumption | refine Bdrew ?_ | refine Bal ?_ _ | refine Bset ?_ (by simp) _))⟩
set_option maxRecDepth 100000 in
set_option maxHeartbeats 1600000 in
theorem next_e20 (l : List Ins) (u v : Value) (mt : List Int) (k : Nat) (pa pb pc pn : Int) (r : Rg) (w : World) (hl : l.length ≤ 1048576) (hu : InsAt w u l) (hv : IntsAt w v mt) (hp : l[k]? = some ⟨20, pa, pb, pc, pn⟩) (hm : mayB ⟨20, pa, pb, pc, pn⟩ = true)  :
    Calls Try.prog 18 #[u, v, .int .i64 k, .agg #[.int .i64 r.a, .int .i64 r.b, .int .i64 r.c, .int .i64 r.d]] w fun e w' => e = .returned (outV ((k : Int) + 1, r, true)) ∧ Below w.heap.size w w' := by
  obtain ⟨A, c1, rfl, hu⟩ := hu
  obtain ⟨B, c2, rfl, hv⟩ := hv
  obtain ⟨b, off, rfl, hb, x1, x2, x3, x4, x5⟩ := hu k _ hp
  have hkl : k < l.length := (List.getElem?_eq_some_iff.1 hp).1
  have HP := Lib.hid hp
  have HV := Lib.hid hv
  clear hu hv hp
  have hlo : locB 20 = true := rfl
  go_enter Try.func18, Try.ntmps18
  go_wp2_with fail
  refine (may_any ⟨20, pa, pb, pc, pn⟩ _).mono ?_
  rintro e w1 ⟨rfl, hb1⟩
  have hz : w.heap.size + 1 < w1.heap.size := by have := hb1.size; simp at this; omega
  have hz0 : w.heap.size < w1.heap.size := by omega
  have hbw : Below w.heap.size w w1 := Bth (Bal (Bal (Bre _) _) _) hb1
  have RG : RegAt w1 w.heap.size r := (regBox w r _ _).th hb1
  have RZ : RegAt w1 (w.heap.size + 1) ⟨0, 0, 0, 0⟩ := (regZero _ _ (by simp) _).th hb1
  have ra : w1.cell? ⟨w.heap.size, 0, none⟩ = some (.int .i64 r.a) := (RG.2 0 (by omega)).1
  have rb : w1.cell? ⟨w.heap.size, 1, none⟩ = some (.int .i64 r.b) := (RG.2 1 (by omega)).1
  have rc : w1.cell? ⟨w.heap.size, 2, none⟩ = some (.int .i64 r.c) := (RG.2 2 (by omega)).1
  have rd : w1.cell? ⟨w.heap.size, 3, none⟩ = some (.int .i64 r.d) := (RG.2 3 (by omega)).1
  have ea : w1.cell? ⟨w.heap.size + 1, 0, none⟩ = some (.int .i64 0) := (RZ.2 0 (by omega)).1
  have eb : w1.cell? ⟨w.heap.size + 1, 1, none⟩ = some (.int .i64 0) := (RZ.2 1 (by omega)).1
  have ec : w1.cell? ⟨w.heap.size + 1, 2, none⟩ = some (.int .i64 0) := (RZ.2 2 (by omega)).1
  have ed : w1.cell? ⟨w.heap.size + 1, 3, none⟩ = some (.int .i64 0) := (RZ.2 3 (by omega)).1
  have fa := (RZ.2 0 (by omega)).2
  have fb := (RZ.2 1 (by omega)).2
  have fc := (RZ.2 2 (by omega)).2
  have fd := (RZ.2 3 (by omega)).2
  have y1 := (hbw.cell (p := ⟨b, off + k * 5, none⟩) hb).trans x1
  have y2 := (hbw.cell (p := ⟨b, off + k * 5 + 1, none⟩) hb).trans x2
  have y3 := (hbw.cell (p := ⟨b, off + k * 5 + 2, none⟩) hb).trans x3
  have y4 := (hbw.cell (p := ⟨b, off + k * 5 + 3, none⟩) hb).trans x4
  have y5 := (hbw.cell (p := ⟨b, off + k * 5 + 4, none⟩) hb).trans x5
  clear x1 x2 x3 x4 x5
  go_wp2_with (go_at_call 13; refine (local_any _ _).mono ?_; rintro e w2 ⟨rfl, rfl⟩)
  go_region
  go_wp2_with fail
  exact bodyPost_ret (v := outV ((k : Int) + 1, r, true)) (by simp [results, Try.results18, go_sem, outV, ea, eb, ec, ed, hz]) rfl ⟨rfl, (by repeat (first | exact Bre _ | assumption | refine Bdrew ?_ | refine Bal ?_ _ | refine Bset ?_ (by simp) _))⟩
end Go.Proofs.Ytipkaloldlplgaa
