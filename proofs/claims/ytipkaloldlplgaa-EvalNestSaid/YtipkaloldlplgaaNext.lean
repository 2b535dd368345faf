/-
  Where it goes on: the program's function.
-/
import Derived.Test.YtipkaloldlplgaaVal
import Derived.BigRegion
set_option linter.unusedVariables false
namespace Go.Proofs.Ytipkaloldlplgaa
open Go.RowKit
def IntsAt (w : World) (v : Value) (zs : List Int) : Prop :=
  ∃ A cap, v = .slice A zs.length cap ∧ ∀ i x, zs[i]? = some x → ∃ b off, A = some ⟨b, off, none⟩ ∧ b < w.heap.size ∧ w.cell? ⟨b, off + i, none⟩ = some (.int .i64 x)
def RegAt (w : World) (g : Nat) (r : Rg) : Prop := g < w.heap.size ∧ ∀ j : Nat, j < 4 → w.cell? ⟨g, j, none⟩ = some (.int .i64 (r.get j)) ∧ w.frozen? ⟨g, j, none⟩ = false
theorem RegAt.th {w w' : World} {g : Nat} {r : Rg} (h : RegAt w g r) (hb : Below w.heap.size w w') : RegAt w' g r :=
  ⟨Nat.lt_of_lt_of_le h.1 hb.size, fun j hj => ⟨(hb.cell h.1).trans (h.2 j hj).1, (hb.frozen h.1).trans (h.2 j hj).2⟩⟩
def isJmp (op : Int) : Bool := decide (op = 18 ∨ op = 19 ∨ op = 21 ∨ op = 22)
def nextF (l : List Ins) (mt : List Int) (at' : Int) (r : Rg) : Int × Rg × Bool :=
  if 0 ≤ at' ∧ at' < l.length then
    let p := l.getD at'.toNat ⟨0, 0, 0, 0, 0⟩
    if mayB p && locB p.op then
      if isJmp p.op then
        if at' < mt.length ∧ 0 ≤ mt.getD at'.toNat 0 ∧ mt.getD at'.toNat 0 < l.length then
          if p.op = 22 then (mt.getD at'.toNat 0, r, true)
          else if (p.op = 18 ∨ p.op = 21) ∧ r.get p.a ≠ 0 then (at' + 1, r, true) else (mt.getD at'.toNat 0 + 1, r, true)
        else (at', r, false)
      else if p.op = 20 then (at' + 1, r, true)
      else (at' + 1, r.set p.a (valF p r), true)
    else (at', r, false)
  else (at', r, false)
def outV (x : Int × Rg × Bool) : Value := .tuple #[.int .i64 x.1, .agg #[.int .i64 x.2.1.a, .int .i64 x.2.1.b, .int .i64 x.2.1.c, .int .i64 x.2.1.d], .bool x.2.2]
theorem may_reg (p : Ins) (h : mayB p = true) : (shA p.op = 1 → 0 ≤ p.a ∧ p.a ≤ 3) ∧ (shB p.op = 1 → 0 ≤ p.b ∧ p.b ≤ 3) ∧ (shC p.op = 1 → 0 ≤ p.c ∧ p.c ≤ 3) ∧ 1 ≤ p.op ∧ p.op ≤ 22 := by
  simp only [mayB, Bool.and_eq_true, decide_eq_true_eq] at h
  obtain ⟨⟨⟨⟨h1, h2⟩, h3⟩, h4⟩, h5⟩ := h
  refine ⟨fun e => ?_, fun e => ?_, fun e => ?_, h1.1, h1.2⟩
  · rw [e] at h2; simpa [fitB, fitM] using h2
  · rw [e] at h3; simpa [fitB, fitM] using h3
  · rw [e] at h4; simpa [fitB, fitM] using h4
theorem Rg.set_get (r : Rg) (i j : Nat) (v : Int) (hi : i < 4) (hj : j < 4) : (r.set i v).get j = if j = i then v else r.get j := by
  have h1 : i = 0 ∨ i = 1 ∨ i = 2 ∨ i = 3 := by omega
  have h2 : j = 0 ∨ j = 1 ∨ j = 2 ∨ j = 3 := by omega
  rcases h1 with rfl | rfl | rfl | rfl <;> rcases h2 with rfl | rfl | rfl | rfl <;> rfl
theorem RegAt.set {w : World} {g : Nat} {r : Rg} (h : RegAt w g r) (a : Nat) (ha : a < 4) (v : Int) : RegAt (w.setCell ⟨g, a, none⟩ (.int .i64 v)) g (r.set a v) := by
  refine ⟨by simpa [World.setCell] using h.1, fun x hx => ?_⟩
  obtain ⟨h1, h2⟩ := h.2 x hx
  rw [Rg.set_get r a x v ha hx]
  by_cases e : x = a
  · subst e
    exact ⟨by rw [World.cell?_setCell_same (h := h1)]; simp, by rw [World.frozen?_setCell]; exact h2⟩
  · exact ⟨by rw [World.cell?_setCell_other (a := ⟨g, a, none⟩) (b := ⟨g, x, none⟩) (h := by intro h; injection h with _ h2; exact e h2.symm)]; simp [e, h1], by rw [World.frozen?_setCell]; exact h2⟩
theorem RegAt.other {w : World} {g : Nat} {r : Rg} (h : RegAt w g r) (g2 a : Nat) (hg : g2 ≠ g) (v : Value) : RegAt (w.setCell ⟨g2, a, none⟩ v) g r := by
  refine ⟨by simpa [World.setCell] using h.1, fun x hx => ?_⟩
  obtain ⟨h1, h2⟩ := h.2 x hx
  exact ⟨by rw [World.cell?_setCell_other (a := ⟨g2, a, none⟩) (b := ⟨g, x, none⟩) (h := by intro h; injection h with h3 _; exact hg h3)]; exact h1, by rw [World.frozen?_setCell]; exact h2⟩
theorem regBox (w : World) (r : Rg) (t : TypeId) (X : Obj) : RegAt ((w.alloc (.cells #[.int .i64 r.a, .int .i64 r.b, .int .i64 r.c, .int .i64 r.d] t)).alloc X) w.heap.size r := by
  refine ⟨by simp <;> omega, fun j hj => ?_⟩
  have h2 : j = 0 ∨ j = 1 ∨ j = 2 ∨ j = 3 := by omega
  rcases h2 with rfl | rfl | rfl | rfl <;> refine ⟨?_, by simp⟩
  all_goals
    rw [(Bal (Bre (w.alloc (.cells #[.int .i64 r.a, .int .i64 r.b, .int .i64 r.c, .int .i64 r.d] t))) X).cell (by simp)]
    simp
    rfl
theorem regZero (w : World) (g : Nat) (hg : g = w.heap.size) (t : TypeId) : RegAt (w.alloc (.cells #[.int .i64 0, .int .i64 0, .int .i64 0, .int .i64 0] t)) g ⟨0, 0, 0, 0⟩ := by
  subst hg
  refine ⟨by simp, fun j hj => ?_⟩
  have h2 : j = 0 ∨ j = 1 ∨ j = 2 ∨ j = 3 := by omega
  rcases h2 with rfl | rfl | rfl | rfl <;> refine ⟨?_, by simp⟩ <;> simp <;> rfl
set_option maxRecDepth 100000 in
set_option maxHeartbeats 1600000 in
theorem next_neg (l : List Ins) (u v : Value) (mt : List Int) (at' : Int) (r : Rg) (w : World) (hl : l.length ≤ 1048576) (hu : InsAt w u l) (hv : IntsAt w v mt) (h0 : at' < 0) :
    Calls Try.prog 18 #[u, v, .int .i64 at', .agg #[.int .i64 r.a, .int .i64 r.b, .int .i64 r.c, .int .i64 r.d]] w fun e w' => e = .returned (outV (at', r, false)) ∧ Below w.heap.size w w' := by
  obtain ⟨A, c1, rfl, hu⟩ := hu
  obtain ⟨B, c2, rfl, hv⟩ := hv
  clear hu hv
  go_enter Try.func18, Try.ntmps18
  go_wp2_with fail
  go_region
  go_wp2_with fail
  exact bodyPost_ret (v := outV (at', r, false)) (by simp [results, Try.results18, go_sem, outV]) rfl ⟨rfl, (by repeat (first | exact Bre _ | assumption | refine Bdrew ?_ | refine Bal ?_ _ | refine Bset ?_ (by simp) _))⟩
set_option maxRecDepth 100000 in
set_option maxHeartbeats 1600000 in
theorem next_out (l : List Ins) (u v : Value) (mt : List Int) (at' : Int) (r : Rg) (w : World) (hl : l.length ≤ 1048576) (hu : InsAt w u l) (hv : IntsAt w v mt) (h0 : (l.length : Int) ≤ at') :
    Calls Try.prog 18 #[u, v, .int .i64 at', .agg #[.int .i64 r.a, .int .i64 r.b, .int .i64 r.c, .int .i64 r.d]] w fun e w' => e = .returned (outV (at', r, false)) ∧ Below w.heap.size w w' := by
  obtain ⟨A, c1, rfl, hu⟩ := hu
  obtain ⟨B, c2, rfl, hv⟩ := hv
  clear hu hv
  have h00 : ¬ at' < 0 := by omega
  go_enter Try.func18, Try.ntmps18
  go_wp2_with fail
  go_region
  go_wp2_with fail
  exact bodyPost_ret (v := outV (at', r, false)) (by simp [results, Try.results18, go_sem, outV]) rfl ⟨rfl, (by repeat (first | exact Bre _ | assumption | refine Bdrew ?_ | refine Bal ?_ _ | refine Bset ?_ (by simp) _))⟩
set_option maxRecDepth 100000 in
set_option maxHeartbeats 1600000 in
theorem next_may (l : List Ins) (u v : Value) (mt : List Int) (k : Nat) (p : Ins) (r : Rg) (w : World) (hl : l.length ≤ 1048576) (hu : InsAt w u l) (hv : IntsAt w v mt) (hp : l[k]? = some p) (hm : mayB p = false) :
    Calls Try.prog 18 #[u, v, .int .i64 k, .agg #[.int .i64 r.a, .int .i64 r.b, .int .i64 r.c, .int .i64 r.d]] w fun e w' => e = .returned (outV ((k : Int), r, false)) ∧ Below w.heap.size w w' := by
  obtain ⟨A, c1, rfl, hu⟩ := hu
  obtain ⟨B, c2, rfl, hv⟩ := hv
  obtain ⟨b, off, rfl, hb, x1, x2, x3, x4, x5⟩ := hu k p hp
  have hkl : k < l.length := (List.getElem?_eq_some_iff.1 hp).1
  have HP := Lib.hid hp
  have HV := Lib.hid hv
  clear hu hv hp
  go_enter Try.func18, Try.ntmps18
  go_wp2_with fail
  refine (may_any p _).mono ?_
  rintro e w1 ⟨rfl, hb1⟩
  have hz : w.heap.size + 1 < w1.heap.size := by have := hb1.size; simp at this; omega
  have hz0 : w.heap.size < w1.heap.size := by omega
  have hbw : Below w.heap.size w w1 := Bth (Bal (Bal (Bre _) _) _) hb1
  have RG : RegAt w1 w.heap.size r := (regBox w r _ _).th hb1
  have RZ : RegAt w1 (w.heap.size + 1) ⟨0, 0, 0, 0⟩ := (regZero _ _ (by simp) _).th hb1
  have ra : w1.cell? ⟨w.heap.size, 0, none⟩ = some (.int .i64 r.a) := (RG.2 0 (by omega)).1
  have rb : w1.cell? ⟨w.heap.size, 1, none⟩ = some (.int .i64 r.b) := (RG.2 1 (by omega)).1
  have rc : w1.cell? ⟨w.heap.size, 2, none⟩ = some (.int .i64 r.c) := (RG.2 2 (by omega)).1
  have rd : w1.cell? ⟨w.heap.size, 3, none⟩ = some (.int .i64 r.d) := (RG.2 3 (by omega)).1
  have ea : w1.cell? ⟨w.heap.size + 1, 0, none⟩ = some (.int .i64 0) := (RZ.2 0 (by omega)).1
  have eb : w1.cell? ⟨w.heap.size + 1, 1, none⟩ = some (.int .i64 0) := (RZ.2 1 (by omega)).1
  have ec : w1.cell? ⟨w.heap.size + 1, 2, none⟩ = some (.int .i64 0) := (RZ.2 2 (by omega)).1
  have ed : w1.cell? ⟨w.heap.size + 1, 3, none⟩ = some (.int .i64 0) := (RZ.2 3 (by omega)).1
  have fa := (RZ.2 0 (by omega)).2
  have fb := (RZ.2 1 (by omega)).2
  have fc := (RZ.2 2 (by omega)).2
  have fd := (RZ.2 3 (by omega)).2
  have y1 := (hbw.cell (p := ⟨b, off + k * 5, none⟩) hb).trans x1
  have y2 := (hbw.cell (p := ⟨b, off + k * 5 + 1, none⟩) hb).trans x2
  have y3 := (hbw.cell (p := ⟨b, off + k * 5 + 2, none⟩) hb).trans x3
  have y4 := (hbw.cell (p := ⟨b, off + k * 5 + 3, none⟩) hb).trans x4
  have y5 := (hbw.cell (p := ⟨b, off + k * 5 + 4, none⟩) hb).trans x5
  clear x1 x2 x3 x4 x5
  go_wp2_with fail
  go_region
  go_wp2_with fail
  exact bodyPost_ret (v := outV ((k : Int), r, false)) (by simp [results, Try.results18, go_sem, outV, ea, eb, ec, ed]) rfl ⟨rfl, (by repeat (first | exact Bre _ | assumption | refine Bdrew ?_ | refine Bal ?_ _ | refine Bset ?_ (by simp) _))⟩
set_option maxRecDepth 100000 in
set_option maxHeartbeats 1600000 in
theorem next_loc (l : List Ins) (u v : Value) (mt : List Int) (k : Nat) (p : Ins) (r : Rg) (w : World) (hl : l.length ≤ 1048576) (hu : InsAt w u l) (hv : IntsAt w v mt) (hp : l[k]? = some p) (hm : mayB p = true) (ho : locB p.op = false) :
    Calls Try.prog 18 #[u, v, .int .i64 k, .agg #[.int .i64 r.a, .int .i64 r.b, .int .i64 r.c, .int .i64 r.d]] w fun e w' => e = .returned (outV ((k : Int), r, false)) ∧ Below w.heap.size w w' := by
  obtain ⟨A, c1, rfl, hu⟩ := hu
  obtain ⟨B, c2, rfl, hv⟩ := hv
  obtain ⟨b, off, rfl, hb, x1, x2, x3, x4, x5⟩ := hu k p hp
  have hkl : k < l.length := (List.getElem?_eq_some_iff.1 hp).1
  have HP := Lib.hid hp
  have HV := Lib.hid hv
  clear hu hv hp
  go_enter Try.func18, Try.ntmps18
  go_wp2_with fail
  refine (may_any p _).mono ?_
  rintro e w1 ⟨rfl, hb1⟩
  have hz : w.heap.size + 1 < w1.heap.size := by have := hb1.size; simp at this; omega
  have hz0 : w.heap.size < w1.heap.size := by omega
  have hbw : Below w.heap.size w w1 := Bth (Bal (Bal (Bre _) _) _) hb1
  have RG : RegAt w1 w.heap.size r := (regBox w r _ _).th hb1
  have RZ : RegAt w1 (w.heap.size + 1) ⟨0, 0, 0, 0⟩ := (regZero _ _ (by simp) _).th hb1
  have ra : w1.cell? ⟨w.heap.size, 0, none⟩ = some (.int .i64 r.a) := (RG.2 0 (by omega)).1
  have rb : w1.cell? ⟨w.heap.size, 1, none⟩ = some (.int .i64 r.b) := (RG.2 1 (by omega)).1
  have rc : w1.cell? ⟨w.heap.size, 2, none⟩ = some (.int .i64 r.c) := (RG.2 2 (by omega)).1
  have rd : w1.cell? ⟨w.heap.size, 3, none⟩ = some (.int .i64 r.d) := (RG.2 3 (by omega)).1
  have ea : w1.cell? ⟨w.heap.size + 1, 0, none⟩ = some (.int .i64 0) := (RZ.2 0 (by omega)).1
  have eb : w1.cell? ⟨w.heap.size + 1, 1, none⟩ = some (.int .i64 0) := (RZ.2 1 (by omega)).1
  have ec : w1.cell? ⟨w.heap.size + 1, 2, none⟩ = some (.int .i64 0) := (RZ.2 2 (by omega)).1
  have ed : w1.cell? ⟨w.heap.size + 1, 3, none⟩ = some (.int .i64 0) := (RZ.2 3 (by omega)).1
  have fa := (RZ.2 0 (by omega)).2
  have fb := (RZ.2 1 (by omega)).2
  have fc := (RZ.2 2 (by omega)).2
  have fd := (RZ.2 3 (by omega)).2
  have y1 := (hbw.cell (p := ⟨b, off + k * 5, none⟩) hb).trans x1
  have y2 := (hbw.cell (p := ⟨b, off + k * 5 + 1, none⟩) hb).trans x2
  have y3 := (hbw.cell (p := ⟨b, off + k * 5 + 2, none⟩) hb).trans x3
  have y4 := (hbw.cell (p := ⟨b, off + k * 5 + 3, none⟩) hb).trans x4
  have y5 := (hbw.cell (p := ⟨b, off + k * 5 + 4, none⟩) hb).trans x5
  clear x1 x2 x3 x4 x5
  go_wp2_with (go_at_call 13; refine (local_any p.op _).mono ?_; rintro e w2 ⟨rfl, rfl⟩)
  go_region
  go_wp2_with fail
  exact bodyPost_ret (v := outV ((k : Int), r, false)) (by simp [results, Try.results18, go_sem, outV, ea, eb, ec, ed]) rfl ⟨rfl, (by repeat (first | exact Bre _ | assumption | refine Bdrew ?_ | refine Bal ?_ _ | refine Bset ?_ (by simp) _))⟩
set_option maxRecDepth 100000 in
set_option maxHeartbeats 1600000 in
theorem next_m1 (l : List Ins) (u v : Value) (mt : List Int) (k : Nat) (p : Ins) (r : Rg) (w : World) (hl : l.length ≤ 1048576) (hu : InsAt w u l) (hv : IntsAt w v mt) (hp : l[k]? = some p) (hm : mayB p = true) (ho : locB p.op = true) (hj : isJmp p.op = true) (hk : mt.length ≤ k) :
    Calls Try.prog 18 #[u, v, .int .i64 k, .agg #[.int .i64 r.a, .int .i64 r.b, .int .i64 r.c, .int .i64 r.d]] w fun e w' => e = .returned (outV ((k : Int), r, false)) ∧ Below w.heap.size w w' := by
  obtain ⟨A, c1, rfl, hu⟩ := hu
  obtain ⟨B, c2, rfl, hv⟩ := hv
  obtain ⟨b, off, rfl, hb, x1, x2, x3, x4, x5⟩ := hu k p hp
  have hkl : k < l.length := (List.getElem?_eq_some_iff.1 hp).1
  have HP := Lib.hid hp
  have HV := Lib.hid hv
  clear hu hv hp
  have h18 : 18 ≤ p.op := by simp only [isJmp, decide_eq_true_eq] at hj; omega
  have h20 : (p.op != 20) = true := by simp only [isJmp, decide_eq_true_eq] at hj; rw [bne_iff_ne]; omega
  clear hj
  go_enter Try.func18, Try.ntmps18
  go_wp2_with fail
  refine (may_any p _).mono ?_
  rintro e w1 ⟨rfl, hb1⟩
  have hz : w.heap.size + 1 < w1.heap.size := by have := hb1.size; simp at this; omega
  have hz0 : w.heap.size < w1.heap.size := by omega
  have hbw : Below w.heap.size w w1 := Bth (Bal (Bal (Bre _) _) _) hb1
  have RG : RegAt w1 w.heap.size r := (regBox w r _ _).th hb1
  have RZ : RegAt w1 (w.heap.size + 1) ⟨0, 0, 0, 0⟩ := (regZero _ _ (by simp) _).th hb1
  have ra : w1.cell? ⟨w.heap.size, 0, none⟩ = some (.int .i64 r.a) := (RG.2 0 (by omega)).1
  have rb : w1.cell? ⟨w.heap.size, 1, none⟩ = some (.int .i64 r.b) := (RG.2 1 (by omega)).1
  have rc : w1.cell? ⟨w.heap.size, 2, none⟩ = some (.int .i64 r.c) := (RG.2 2 (by omega)).1
  have rd : w1.cell? ⟨w.heap.size, 3, none⟩ = some (.int .i64 r.d) := (RG.2 3 (by omega)).1
  have ea : w1.cell? ⟨w.heap.size + 1, 0, none⟩ = some (.int .i64 0) := (RZ.2 0 (by omega)).1
  have eb : w1.cell? ⟨w.heap.size + 1, 1, none⟩ = some (.int .i64 0) := (RZ.2 1 (by omega)).1
  have ec : w1.cell? ⟨w.heap.size + 1, 2, none⟩ = some (.int .i64 0) := (RZ.2 2 (by omega)).1
  have ed : w1.cell? ⟨w.heap.size + 1, 3, none⟩ = some (.int .i64 0) := (RZ.2 3 (by omega)).1
  have fa := (RZ.2 0 (by omega)).2
  have fb := (RZ.2 1 (by omega)).2
  have fc := (RZ.2 2 (by omega)).2
  have fd := (RZ.2 3 (by omega)).2
  have y1 := (hbw.cell (p := ⟨b, off + k * 5, none⟩) hb).trans x1
  have y2 := (hbw.cell (p := ⟨b, off + k * 5 + 1, none⟩) hb).trans x2
  have y3 := (hbw.cell (p := ⟨b, off + k * 5 + 2, none⟩) hb).trans x3
  have y4 := (hbw.cell (p := ⟨b, off + k * 5 + 3, none⟩) hb).trans x4
  have y5 := (hbw.cell (p := ⟨b, off + k * 5 + 4, none⟩) hb).trans x5
  clear x1 x2 x3 x4 x5
  go_wp2_with (go_at_call 13; refine (local_any p.op _).mono ?_; rintro e w2 ⟨rfl, rfl⟩)
  go_region
  go_wp2_with fail
  exact bodyPost_ret (v := outV ((k : Int), r, false)) (by simp [results, Try.results18, go_sem, outV, ea, eb, ec, ed, hz]) rfl ⟨rfl, (by repeat (first | exact Bre _ | assumption | refine Bdrew ?_ | refine Bal ?_ _ | refine Bset ?_ (by simp) _))⟩
set_option maxRecDepth 100000 in
set_option maxHeartbeats 1600000 in
theorem next_m2 (l : List Ins) (u v : Value) (mt : List Int) (k : Nat) (p : Ins) (r : Rg) (w : World) (hl : l.length ≤ 1048576) (hu : InsAt w u l) (hv : IntsAt w v mt) (hp : l[k]? = some p) (hm : mayB p = true) (ho : locB p.op = true) (hj : isJmp p.op = true) (x : Int) (hx : mt[k]? = some x) (hx0 : x < 0) :
    Calls Try.prog 18 #[u, v, .int .i64 k, .agg #[.int .i64 r.a, .int .i64 r.b, .int .i64 r.c, .int .i64 r.d]] w fun e w' => e = .returned (outV ((k : Int), r, false)) ∧ Below w.heap.size w w' := by
  obtain ⟨A, c1, rfl, hu⟩ := hu
  obtain ⟨B, c2, rfl, hv⟩ := hv
  obtain ⟨b, off, rfl, hb, x1, x2, x3, x4, x5⟩ := hu k p hp
  have hkl : k < l.length := (List.getElem?_eq_some_iff.1 hp).1
  have HP := Lib.hid hp
  have HV := Lib.hid hv
  clear hu hv hp
  have hkm : k < mt.length := (List.getElem?_eq_some_iff.1 hx).1
  obtain ⟨bm, om, rfl, hbm, z1⟩ := HV.out k x hx
  clear hx
  have h18 : 18 ≤ p.op := by simp only [isJmp, decide_eq_true_eq] at hj; omega
  have h20 : (p.op != 20) = true := by simp only [isJmp, decide_eq_true_eq] at hj; rw [bne_iff_ne]; omega
  clear hj
  go_enter Try.func18, Try.ntmps18
  go_wp2_with fail
  refine (may_any p _).mono ?_
  rintro e w1 ⟨rfl, hb1⟩
  have hz : w.heap.size + 1 < w1.heap.size := by have := hb1.size; simp at this; omega
  have hz0 : w.heap.size < w1.heap.size := by omega
  have hbw : Below w.heap.size w w1 := Bth (Bal (Bal (Bre _) _) _) hb1
  have RG : RegAt w1 w.heap.size r := (regBox w r _ _).th hb1
  have RZ : RegAt w1 (w.heap.size + 1) ⟨0, 0, 0, 0⟩ := (regZero _ _ (by simp) _).th hb1
  have ra : w1.cell? ⟨w.heap.size, 0, none⟩ = some (.int .i64 r.a) := (RG.2 0 (by omega)).1
  have rb : w1.cell? ⟨w.heap.size, 1, none⟩ = some (.int .i64 r.b) := (RG.2 1 (by omega)).1
  have rc : w1.cell? ⟨w.heap.size, 2, none⟩ = some (.int .i64 r.c) := (RG.2 2 (by omega)).1
  have rd : w1.cell? ⟨w.heap.size, 3, none⟩ = some (.int .i64 r.d) := (RG.2 3 (by omega)).1
  have ea : w1.cell? ⟨w.heap.size + 1, 0, none⟩ = some (.int .i64 0) := (RZ.2 0 (by omega)).1
  have eb : w1.cell? ⟨w.heap.size + 1, 1, none⟩ = some (.int .i64 0) := (RZ.2 1 (by omega)).1
  have ec : w1.cell? ⟨w.heap.size + 1, 2, none⟩ = some (.int .i64 0) := (RZ.2 2 (by omega)).1
  have ed : w1.cell? ⟨w.heap.size + 1, 3, none⟩ = some (.int .i64 0) := (RZ.2 3 (by omega)).1
  have fa := (RZ.2 0 (by omega)).2
  have fb := (RZ.2 1 (by omega)).2
  have fc := (RZ.2 2 (by omega)).2
  have fd := (RZ.2 3 (by omega)).2
  have y1 := (hbw.cell (p := ⟨b, off + k * 5, none⟩) hb).trans x1
  have y2 := (hbw.cell (p := ⟨b, off + k * 5 + 1, none⟩) hb).trans x2
  have y3 := (hbw.cell (p := ⟨b, off + k * 5 + 2, none⟩) hb).trans x3
  have y4 := (hbw.cell (p := ⟨b, off + k * 5 + 3, none⟩) hb).trans x4
  have y5 := (hbw.cell (p := ⟨b, off + k * 5 + 4, none⟩) hb).trans x5
  clear x1 x2 x3 x4 x5
  have hbm1 : bm < w1.heap.size := by omega
  have z2 := (hbw.cell (p := ⟨bm, om + k, none⟩) hbm).trans z1
  clear z1
  go_wp2_with (go_at_call 13; refine (local_any p.op _).mono ?_; rintro e w2 ⟨rfl, rfl⟩)
  go_region
  go_wp2_with fail
  exact bodyPost_ret (v := outV ((k : Int), r, false)) (by simp [results, Try.results18, go_sem, outV, ea, eb, ec, ed, hz]) rfl ⟨rfl, (by repeat (first | exact Bre _ | assumption | refine Bdrew ?_ | refine Bal ?_ _ | refine Bset ?_ (by simp) _))⟩
set_option maxRecDepth 100000 in
set_option maxHeartbeats 1600000 in
theorem next_m3 (l : List Ins) (u v : Value) (mt : List Int) (k : Nat) (p : Ins) (r : Rg) (w : World) (hl : l.length ≤ 1048576) (hu : InsAt w u l) (hv : IntsAt w v mt) (hp : l[k]? = some p) (hm : mayB p = true) (ho : locB p.op = true) (hj : isJmp p.op = true) (x : Int) (hx : mt[k]? = some x) (hx0 : ¬ x < 0) (hx1 : (l.length : Int) ≤ x) :
    Calls Try.prog 18 #[u, v, .int .i64 k, .agg #[.int .i64 r.a, .int .i64 r.b, .int .i64 r.c, .int .i64 r.d]] w fun e w' => e = .returned (outV ((k : Int), r, false)) ∧ Below w.heap.size w w' := by
  obtain ⟨A, c1, rfl, hu⟩ := hu
  obtain ⟨B, c2, rfl, hv⟩ := hv
  obtain ⟨b, off, rfl, hb, x1, x2, x3, x4, x5⟩ := hu k p hp
  have hkl : k < l.length := (List.getElem?_eq_some_iff.1 hp).1
  have HP := Lib.hid hp
  have HV := Lib.hid hv
  clear hu hv hp
  have hkm : k < mt.length := (List.getElem?_eq_some_iff.1 hx).1
  obtain ⟨bm, om, rfl, hbm, z1⟩ := HV.out k x hx
  clear hx
  have h18 : 18 ≤ p.op := by simp only [isJmp, decide_eq_true_eq] at hj; omega
  have h20 : (p.op != 20) = true := by simp only [isJmp, decide_eq_true_eq] at hj; rw [bne_iff_ne]; omega
  clear hj
  go_enter Try.func18, Try.ntmps18
  go_wp2_with fail
  refine (may_any p _).mono ?_
  rintro e w1 ⟨rfl, hb1⟩
  have hz : w.heap.size + 1 < w1.heap.size := by have := hb1.size; simp at this; omega
  have hz0 : w.heap.size < w1.heap.size := by omega
  have hbw : Below w.heap.size w w1 := Bth (Bal (Bal (Bre _) _) _) hb1
  have RG : RegAt w1 w.heap.size r := (regBox w r _ _).th hb1
  have RZ : RegAt w1 (w.heap.size + 1) ⟨0, 0, 0, 0⟩ := (regZero _ _ (by simp) _).th hb1
  have ra : w1.cell? ⟨w.heap.size, 0, none⟩ = some (.int .i64 r.a) := (RG.2 0 (by omega)).1
  have rb : w1.cell? ⟨w.heap.size, 1, none⟩ = some (.int .i64 r.b) := (RG.2 1 (by omega)).1
  have rc : w1.cell? ⟨w.heap.size, 2, none⟩ = some (.int .i64 r.c) := (RG.2 2 (by omega)).1
  have rd : w1.cell? ⟨w.heap.size, 3, none⟩ = some (.int .i64 r.d) := (RG.2 3 (by omega)).1
  have ea : w1.cell? ⟨w.heap.size + 1, 0, none⟩ = some (.int .i64 0) := (RZ.2 0 (by omega)).1
  have eb : w1.cell? ⟨w.heap.size + 1, 1, none⟩ = some (.int .i64 0) := (RZ.2 1 (by omega)).1
  have ec : w1.cell? ⟨w.heap.size + 1, 2, none⟩ = some (.int .i64 0) := (RZ.2 2 (by omega)).1
  have ed : w1.cell? ⟨w.heap.size + 1, 3, none⟩ = some (.int .i64 0) := (RZ.2 3 (by omega)).1
  have fa := (RZ.2 0 (by omega)).2
  have fb := (RZ.2 1 (by omega)).2
  have fc := (RZ.2 2 (by omega)).2
  have fd := (RZ.2 3 (by omega)).2
  have y1 := (hbw.cell (p := ⟨b, off + k * 5, none⟩) hb).trans x1
  have y2 := (hbw.cell (p := ⟨b, off + k * 5 + 1, none⟩) hb).trans x2
  have y3 := (hbw.cell (p := ⟨b, off + k * 5 + 2, none⟩) hb).trans x3
  have y4 := (hbw.cell (p := ⟨b, off + k * 5 + 3, none⟩) hb).trans x4
  have y5 := (hbw.cell (p := ⟨b, off + k * 5 + 4, none⟩) hb).trans x5
  clear x1 x2 x3 x4 x5
  have hbm1 : bm < w1.heap.size := by omega
  have z2 := (hbw.cell (p := ⟨bm, om + k, none⟩) hbm).trans z1
  clear z1
  go_wp2_with (go_at_call 13; refine (local_any p.op _).mono ?_; rintro e w2 ⟨rfl, rfl⟩)
  go_region
  go_wp2_with fail
  exact bodyPost_ret (v := outV ((k : Int), r, false)) (by simp [results, Try.results18, go_sem, outV, ea, eb, ec, ed, hz]) rfl ⟨rfl, (by repeat (first | exact Bre _ | assumption | refine Bdrew ?_ | refine Bal ?_ _ | refine Bset ?_ (by simp) _))⟩
end Go.Proofs.Ytipkaloldlplgaa
