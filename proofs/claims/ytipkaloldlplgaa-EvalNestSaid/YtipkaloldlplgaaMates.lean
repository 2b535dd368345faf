/-
  Which blocks belong together: the program's function computes mres.
-/
import Derived.Test.YtipkaloldlplgaaMt
import Derived.Deep.OwnRows
set_option linter.unusedVariables false
namespace Go.Proofs.Ytipkaloldlplgaa
open Go.RowKit
def MV (w : World) (base : Nat) (v : Value) : Option (List Int) → Prop
  | none => v = .slice none 0 0
  | some m => w.ownsRow base 3 1 v m.length (m.map (Value.int .i64))
theorem drewN_below {B : Nat} {a w : World} (h : Below B a w) (n : Nat) : Below B a (w.drewN n) := ⟨h.os, h.tape, h.output, h.size, h.block⟩
def EntOk (l : List Ins) (k : Nat) (t : Ent) : Prop := t.pos < k ∧ t.last < k ∧ ∀ d, (l.getD t.pos d).op = t.op
theorem EntOk.up {l : List Ins} {k : Nat} {t : Ent} (h : EntOk l k t) : EntOk l (k + 1) t := ⟨by have := h.1; omega, by have := h.2.1; omega, h.2.2⟩
theorem mgo_none (l : List Ins) (k : Nat) (p : Ins) (hp : l[k]? = some p) (s : St) (h : mstep s p.op = none) : mgo ((l.drop k).map Ins.op) s = (none, (s.1.length : Int)) := by
  have h1 : k < l.length := (List.getElem?_eq_some_iff.1 hp).1
  have h2 : l[k] = p := (List.getElem?_eq_some_iff.1 hp).2
  rw [List.drop_eq_getElem_cons h1, h2, List.map_cons, mgo, h]
theorem mgo_some (l : List Ins) (k : Nat) (p : Ins) (hp : l[k]? = some p) (s s' : St) (h : mstep s p.op = some s') : mgo ((l.drop k).map Ins.op) s = mgo ((l.drop (k + 1)).map Ins.op) s' := by
  have h1 : k < l.length := (List.getElem?_eq_some_iff.1 hp).1
  have h2 : l[k] = p := (List.getElem?_eq_some_iff.1 hp).2
  rw [List.drop_eq_getElem_cons h1, h2, List.map_cons, mgo, h]
theorem news2 (w : World) (g : Nat) (hg : g = w.heap.size) (x y : Int) (t : TypeId) : ∀ j u, [Value.int .i64 x, .int .i64 y][j]? = some u → (w.alloc (.cells #[.int .i64 x, .int .i64 y] t)).cell? ((⟨g, 0, none⟩ : Addr).add j) = some u := by
  subst hg
  intro j u hu
  match j, hu with
  | 0, hu => simp at hu; subst hu; simp [Addr.add]
  | 1, hu => simp at hu; subst hu; simp [Addr.add]
theorem one2 (x y : Int) : ∀ u ∈ [Value.int .i64 x, .int .i64 y], u.oneCell' = true := by
  intro u hu
  simp at hu
  rcases hu with rfl | rfl <;> rfl
theorem own_ne {w : World} {base e sz n : Nat} {v : Value} {xs : List Value} (h : w.ownsRow (base + 1) e sz v n xs) : some base ≠ v.ownBlock := fun e => by
  have := h.lt base e.symm
  omega
theorem ms_m {wr : World} {base n n2 : Nat} {C S : List Value} {v : Value} (h1 : wr.ownsRow base 3 1 (.slice (some ⟨base, 0, none⟩) n n) n C) (h2 : wr.ownsRow (base + 1) 52 2 v n2 S) (i : Nat) (x : Value) :
    (wr.setCell ⟨base, i, none⟩ x).ownsRow base 3 1 (.slice (some ⟨base, 0, none⟩) n n) n (C.set i x) ∧ (wr.setCell ⟨base, i, none⟩ x).ownsRow (base + 1) 52 2 v n2 S :=
  ⟨(h1.stored i x).1, h2.kept (h1.stored i x).2 (Or.inr (fun e => own_ne h2 e.symm))⟩
theorem ms_o {wr : World} {base n n2 g c : Nat} {C S : List Value} (h1 : wr.ownsRow base 3 1 (.slice (some ⟨base, 0, none⟩) n n) n C) (h2 : wr.ownsRow (base + 1) 52 2 (.slice (some ⟨g, 0, none⟩) n2 c) n2 S) (i : Nat) (x : Value) :
    (wr.setCell ⟨g, i, none⟩ x).ownsRow base 3 1 (.slice (some ⟨base, 0, none⟩) n n) n C ∧ (wr.setCell ⟨g, i, none⟩ x).ownsRow (base + 1) 52 2 (.slice (some ⟨g, 0, none⟩) n2 c) n2 (S.set i x) :=
  ⟨h1.kept (h2.stored i x).2 (Or.inr (own_ne h2)), (h2.stored i x).1⟩
theorem ent_cells (t : Ent) (st : List Ent) : (stCells (t :: st))[st.length * 2]? = some (.int .i64 t.pos) ∧ (stCells (t :: st))[st.length * 2 + 1]? = some (.int .i64 t.last) := by
  rw [stCells_cons, ← stCells_len]
  constructor
  · rw [List.getElem?_append_right (by omega)]; simp
  · rw [List.getElem?_append_right (by omega)]; simp
theorem ent_set (t : Ent) (st : List Ent) (k : Nat) (op : Int) : (stCells (t :: st)).set (st.length * 2 + 1) (.int .i64 k) = stCells (⟨t.pos, k, op⟩ :: st) := by
  rw [stCells_cons, stCells_cons, ← stCells_len, List.set_append_right _ _ (by omega)]; simp
theorem ent_pop (t : Ent) (st : List Ent) : (stCells (t :: st)).take (st.length * 2) = stCells st := by
  rw [stCells_cons, ← stCells_len]; simp
set_option maxRecDepth 100000 in
set_option maxHeartbeats 4000000 in
theorem mates_any (l : List Ins) (u : Value) (w : World) (hl : l.length ≤ 1048576) (hu : InsAt w u l) :
    Calls Try.prog 16 #[u] w fun e w' => ∃ v, e = .returned (.tuple #[v, .int .i64 (mres (l.map Ins.op)).2]) ∧ MV w' w.heap.size v (mres (l.map Ins.op)).1 ∧ Below w.heap.size w w' := by
  obtain ⟨A, c1, rfl, hu⟩ := hu
  have HU := Lib.hid hu
  clear hu
  obtain ⟨i0, hi, hz0, hz1, hz2⟩ := info_parts info52
  obtain ⟨n, hn⟩ : ∃ n, l.length = n := ⟨_, rfl⟩
  rw [hn] at hl ⊢
  have HN := Lib.hid hn
  clear hn
  have hmk := fun w => run_make_row' (P := Try.prog) 31 3 (.int .i64 0) 8 Try.underlying31 info3 rfl .i64 .i64 n (by omega) (by omega) w
  go_enter Try.func16, Try.ntmps16
  go_wp2_with fail
  clear hmk
  go_loopw [5, 14] (fun o i wr => ∃ (k : Nat) (m : List Int) (st : List Ent) (B : Option Addr) (c : Nat), k ≤ n ∧ m.length = k ∧ i = .int .i64 k ∧ o = .slice B st.length c ∧ mgo ((l.drop k).map Ins.op) (m, st) = mres (l.map Ins.op) ∧
    wr.ownsRow w.heap.size 3 1 (.slice (some ⟨w.heap.size, 0, none⟩) n n) n (mCells m n) ∧ wr.ownsRow (w.heap.size + 1) 52 2 (.slice B st.length c) st.length (stCells st) ∧ Below w.heap.size w wr ∧ (∀ t ∈ st, EntOk l k t) ∧ st.length ≤ k) (fun _ i _ => n - (intOf i).toNat)
  case atStart =>
    refine ⟨0, [], [], none, 0, by omega, rfl, rfl, rfl, rfl, ?_, World.ownsRow_nil _ _ _ _, Bal (Bre _) _, by simp, by simp⟩
    have := World.ownsRow_lit (base := w.heap.size) (size := 1) (e := 3) w (madeCells #[.int .i64 0] n) n (Nat.le_refl _) (by unfold maxLen; omega) (by rw [size_madeCells]; omega)
    rw [toList_madeCells_one] at this
    rw [mCells_nil]
    exact this
  case round =>
    obtain ⟨k, m, st, B, c, hk, hmk, rfl, rfl, hres, hom, hos, hbel, hst, hstk⟩ := hrel
    by_cases hlt : k < n
    · obtain ⟨p, hp⟩ : ∃ p, l[k]? = some p := ⟨_, List.getElem?_eq_getElem (by rw [HN.out]; exact hlt)⟩
      obtain ⟨b, off, rfl, hb, x1, xx1, xx2, xx3, xx4⟩ := HU.out k p hp
      clear xx1 xx2 xx3 xx4
      have HR := Lib.hid hres
      have HMK := Lib.hid hmk
      have y0 : wr.cell? ⟨w.heap.size, k, none⟩ = some (.int .i64 0) := by rw [hom.cellAt k (by omega), ← hmk]; exact mCells_at m n (by omega)
      have y1 := hom.frozenAt k
      have hw0 : w.heap.size < wr.heap.size := (hom.lt _ rfl).2
      have hom1 := (hom.stored k (.int .i64 (-1))).1
      have hg1 := (hom.stored k (.int .i64 (-1))).2
      have hm1 : (mCells m n).set k (.int .i64 (-1)) = mCells (m ++ [-1]) n := by rw [← hmk]; exact mCells_snoc m n (-1) (by omega)
      rw [hm1] at hom1
      have hos1 := hos.kept hg1 (by
        rcases hos.2 with ⟨h, _⟩ | ⟨g, cap, cur, h, h2, _⟩
        · exact Or.inl (by rw [h]; rfl)
        · refine Or.inr ?_
          rw [h]
          show some g ≠ some w.heap.size
          intro e
          injection e with e
          omega)
      have HOM := Lib.hid hom1
      have HOS := Lib.hid hos1
      have hbel1 : Below w.heap.size w (wr.setCell ⟨w.heap.size, k, none⟩ (.int .i64 (-1))) := Bset hbel (Nat.le_refl _) _
      have hbw : b < w.heap.size := hb
      have x2 : (wr.setCell ⟨w.heap.size, k, none⟩ (.int .i64 (-1))).cell? ⟨b, off + k * 5, none⟩ = some (.int .i64 p.op) := (hbel1.cell hb).trans x1
      have HX1 := Lib.hid x1
      clear hres hmk hom hos hom1 hos1 hm1 hg1 x1
      obtain ⟨x, hx⟩ : ∃ x, p.op = x := ⟨_, rfl⟩
      rw [hx] at x2 HX1
      have HPP := Lib.hid hp
      have HX := Lib.hid hx
      clear hx
      have HST := Lib.hid hst
      clear hst
      by_cases c0 : x = 18 ∨ x = 21 ∨ x = 13
      · have hst' : Hid (mstep (m, st) x = some (m ++ [-1], ⟨k, k, x⟩ :: st)) := by
          show _ = _
          simp only [mstep]; rw [if_pos c0, HMK.out]
        have hmres := HR.out
        rw [mgo_some l k p HPP.out _ _ (by rw [HX.out]; exact hst'.out)] at hmres
        have HR' := Lib.hid hmres
        have hbs : w.heap.size ≤ wr.heap.size := hbel.size
        have hek : Hid (∀ t ∈ (⟨k, k, x⟩ : Ent) :: st, EntOk l (k + 1) t) := fun t ht => by
          rcases List.mem_cons.1 ht with rfl | ht
          · exact ⟨by show k < k + 1; omega, by show k < k + 1; omega, fun d => by rw [← HX.out]; simp [List.getD, hp]⟩
          · exact (HST.out t ht).up
        clear hmres hp
        rcases c0 with rfl | rfl | rfl
        all_goals
          go_wp2_with (at_builtin; refine wpList_append_own _ rfl (.tmp 29) (.tmp 33) 50 rfl (w.heap.size + 1) 52 i0 _ 2 16 Try.underlying50 hi hz0 hz1 hz2 rfl (by omega) (.slice B st.length c) st.length (stCells st) rfl (HOS.out.alloc _) ⟨wr.heap.size, 0, none⟩ 1 1 [.int .i64 k, .int .i64 k] rfl rfl (news2 _ _ (by simp) _ _ _) (one2 _ _) (by unfold maxLen; omega) (by omega) (by simp; omega) ?_; intro v' w1 hown' hgrow _)
          have hbelA : Below w.heap.size w ((wr.setCell ⟨w.heap.size, k, none⟩ (.int .i64 (-1))).alloc (.cells #[.int .i64 k, .int .i64 k] 52)) := Bal hbel1 _
          have hb1 : Below w.heap.size w w1 := hbelA.grown hgrow hbelA.size (fun g hg => by have := (HOS.out.lt g hg).1; omega)
          have hm1 := (HOM.out.alloc (.cells #[.int .i64 k, .int .i64 k] 52)).kept hgrow (Or.inr (own_ne HOS.out))
          obtain ⟨B1, cc1, rfl⟩ := own_form hown'
          exact ⟨⟨k + 1, m ++ [-1], ⟨k, k, _⟩ :: st, B1, cc1, by omega, by simp [HMK.out], by go_num, rfl, HR'.out, hm1, by rw [stCells_cons]; exact hown', hb1, hek.out, by simp; omega⟩, by (simp [intOf]) <;> omega⟩
      by_cases c19 : x = 19
      · subst c19
        cases st with
        | nil =>
          have hst' : Hid (mstep (m, []) 19 = none) := rfl
          have hfin : Hid (mres (l.map Ins.op) = (none, (k : Int))) := by
            show _ = _
            rw [← HR.out, mgo_none l k p HPP.out _ (by rw [HX.out]; exact hst'.out), HMK.out]
          clear hp
          go_wp2_with fail
          go_quiet (fail)
          go_wp2_with fail
          go_ret2
          exact ⟨_, by rw [hfin.out]; rfl, by rw [hfin.out]; rfl, drewN_below hbel1 _⟩
        | cons t st =>
          obtain ⟨g, rfl⟩ : ∃ g, B = some ⟨g, 0, none⟩ := by
            rcases HOS.out.2 with ⟨h, _⟩ | ⟨g, cap, cur, h, _⟩
            · simp at h
            · simp only [Value.slice.injEq] at h; exact ⟨g, h.1⟩
          obtain ⟨e0, e1, e2⟩ := HST.out t (by simp)
          obtain ⟨tp, tl, top⟩ := t
          dsimp only at e0 e1 e2
          obtain ⟨pt, hpt⟩ : ∃ pt, l[tp]? = some pt := ⟨_, List.getElem?_eq_getElem (by rw [HN.out]; omega)⟩
          have e2' : pt.op = top := by rw [← e2 ⟨0, 0, 0, 0, 0⟩]; simp [List.getD, hpt]
          obtain ⟨b', off', hbo, hb', o1, oo1, oo2, oo3, oo4⟩ := HU.out tp pt hpt
          clear oo1 oo2 oo3 oo4
          injection hbo with hbo
          injection hbo with q1 q2
          subst q1 q2
          rw [e2'] at o1
          have o2 := (hbel1.cell hb').trans o1
          have hqc : (st.length : Int) + 1 ≤ (c : Int) := by
            rcases HOS.out.2 with ⟨h, _⟩ | ⟨g', cap, cur, h, _, _, h3, _⟩
            · simp at h
            · simp only [Value.slice.injEq] at h
              have h4 := h.2.2
              simp only [List.length_cons] at h3
              omega
          have z0 := (HOS.out.cellAt (st.length * 2) (by simp only [List.length_cons]; omega)).trans (ent_cells ⟨tp, tl, top⟩ st).1
          have z1 := (HOS.out.cellAt (st.length * 2 + 1) (by simp only [List.length_cons]; omega)).trans (ent_cells ⟨tp, tl, top⟩ st).2
          dsimp only at z0 z1
          simp only [List.length_cons] at HOS hstk ⊢
          have hd0 : decide ((st.length : Int) < 0) = false := by simp
          clear e2 e2' hpt o1 hp
          by_cases d0 : top = 18
          case neg =>
            have hst' : Hid (mstep (m, ⟨tp, tl, top⟩ :: st) 19 = none) := by
              show _ = _
              simp [mstep, opn, d0]
            have hfin : Hid (mres (l.map Ins.op) = (none, (k : Int))) := by
              show _ = _
              rw [← HR.out, mgo_none l k p HPP.out _ (by rw [HX.out]; exact hst'.out), HMK.out]
            have d1 : (top != 18) = true := by simpa using d0
            go_wp2_with fail
            go_quiet (fail)
            go_wp2_with fail
            go_ret2
            exact ⟨_, by rw [hfin.out]; rfl, by rw [hfin.out]; rfl, drewN_below hbel1 _⟩
          subst d0
          by_cases d2 : tl = tp
          case neg =>
            have hst' : Hid (mstep (m, ⟨tp, tl, 18⟩ :: st) 19 = none) := by
              show _ = _
              simp [mstep, opn, d2]
            have hfin : Hid (mres (l.map Ins.op) = (none, (k : Int))) := by
              show _ = _
              rw [← HR.out, mgo_none l k p HPP.out _ (by rw [HX.out]; exact hst'.out), HMK.out]
            have d1 : ((tl : Int) != (tp : Int)) = true := by simpa using (show (tl : Int) ≠ tp by omega)
            go_wp2_with fail
            go_quiet (fail)
            go_wp2_with fail
            go_ret2
            exact ⟨_, by rw [hfin.out]; rfl, by rw [hfin.out]; rfl, drewN_below hbel1 _⟩
          subst d2
          have hst' : Hid (mstep (m, ⟨tl, tl, 18⟩ :: st) 19 = some ((m ++ [-1]).set tl k, ⟨tl, k, 18⟩ :: st)) := by
            show _ = _
            simp [mstep, opn, HMK.out]
          have hmres := HR.out
          rw [mgo_some l k p HPP.out _ _ (by rw [HX.out]; exact hst'.out)] at hmres
          have HR' := Lib.hid hmres
          clear hmres
          go_wp2_with fail
          go_quiet (fail)
          obtain ⟨W2, hW2⟩ : ∃ W2, (wr.setCell ⟨w.heap.size, k, none⟩ (.int .i64 (-1))).drewN nq = W2 := ⟨_, rfl⟩
          have hb12 : Below (wr.setCell ⟨w.heap.size, k, none⟩ (.int .i64 (-1))).heap.size (wr.setCell ⟨w.heap.size, k, none⟩ (.int .i64 (-1))) W2 := by rw [← hW2]; exact drewN_below (Bre _) _
          have hb2 : Below w.heap.size w W2 := by rw [← hW2]; exact drewN_below hbel1 _
          rw [hW2]
          clear hW2
          have hm2 := own_th HOM.out hb12
          have hs2 := own_th HOS.out hb12
          have v2 := (hm2.cellAt tl (by omega)).trans (mCells_get (m ++ [-1]) n tl (by simp [HMK.out]; omega))
          have v3 := hm2.frozenAt tl
          have z5 := (hs2.cellAt (st.length * 2 + 1) (by omega)).trans (ent_cells ⟨tl, tl, 18⟩ st).2
          dsimp only at z5
          obtain ⟨hm3, hs3⟩ := ms_m hm2 hs2 tl (.int .i64 k)
          rw [mCells_set _ n tl k (by simp [HMK.out]; omega)] at hm3
          have hb3 : Below w.heap.size w (W2.setCell ⟨w.heap.size, tl, none⟩ (.int .i64 k)) := Bset hb2 (Nat.le_refl _) _
          have x3 := (hb3.cell (p := ⟨b, off + k * 5, none⟩) hb).trans HX1.out
          generalize (m ++ [-1]).getD tl 0 = old at v2
          have z2 := (hs3.cellAt (st.length * 2) (by omega)).trans (ent_cells ⟨tl, tl, 18⟩ st).1
          have z3 := (hs3.cellAt (st.length * 2 + 1) (by omega)).trans (ent_cells ⟨tl, tl, 18⟩ st).2
          have z4 := hs3.frozenAt (st.length * 2 + 1)
          dsimp only at z2 z3
          have HM3 := Lib.hid hm3
          have HS3 := Lib.hid hs3
          clear hm2 hs2 hm3 hs3 hb12 hb2 x2 o2 z0 z1 y0 y1 hbel1
          clear z2
          have hfin3 := ms_o HM3.out HS3.out (st.length * 2 + 1) (.int .i64 k)
          rw [ent_set ⟨tl, tl, 18⟩ st k 18] at hfin3
          have HF3 := Lib.hid hfin3
          clear hfin3
          have hgb := (HS3.out.lt g rfl).1
          go_wp2_with fail
          exact ⟨⟨k + 1, _, ⟨tl, k, 18⟩ :: st, _, c, by omega, by simp [HMK.out], by go_num, rfl, HR'.out, HF3.out.1, HF3.out.2, Bset hb3 (by show w.heap.size ≤ g; omega) _, fun t ht => by
            rcases List.mem_cons.1 ht with rfl | ht
            · exact ⟨by show tl < k + 1; omega, by show k < k + 1; omega, (HST.out ⟨tl, tl, 18⟩ (by simp)).2.2⟩
            · exact (HST.out t (List.mem_cons_of_mem _ ht)).up, by simp; omega⟩, by (simp [intOf]) <;> omega⟩
      by_cases c20 : x = 20
      · subst c20
        cases st with
        | nil =>
          have hst' : Hid (mstep (m, []) 20 = none) := rfl
          have hfin : Hid (mres (l.map Ins.op) = (none, (k : Int))) := by
            show _ = _
            rw [← HR.out, mgo_none l k p HPP.out _ (by rw [HX.out]; exact hst'.out), HMK.out]
          clear hp
          go_wp2_with fail
          go_quiet (fail)
          go_wp2_with fail
          go_ret2
          exact ⟨_, by rw [hfin.out]; rfl, by rw [hfin.out]; rfl, drewN_below hbel1 _⟩
        | cons t st =>
          obtain ⟨g, rfl⟩ : ∃ g, B = some ⟨g, 0, none⟩ := by
            rcases HOS.out.2 with ⟨h, _⟩ | ⟨g, cap, cur, h, _⟩
            · simp at h
            · simp only [Value.slice.injEq] at h; exact ⟨g, h.1⟩
          obtain ⟨e0, e1, e2⟩ := HST.out t (by simp)
          obtain ⟨tp, tl, top⟩ := t
          dsimp only at e0 e1 e2
          obtain ⟨pt, hpt⟩ : ∃ pt, l[tp]? = some pt := ⟨_, List.getElem?_eq_getElem (by rw [HN.out]; omega)⟩
          have e2' : pt.op = top := by rw [← e2 ⟨0, 0, 0, 0, 0⟩]; simp [List.getD, hpt]
          obtain ⟨b', off', hbo, hb', o1, oo1, oo2, oo3, oo4⟩ := HU.out tp pt hpt
          clear oo1 oo2 oo3 oo4
          injection hbo with hbo
          injection hbo with q1 q2
          subst q1 q2
          rw [e2'] at o1
          have o2 := (hbel1.cell hb').trans o1
          have hqc : (st.length : Int) + 1 ≤ (c : Int) := by
            rcases HOS.out.2 with ⟨h, _⟩ | ⟨g', cap, cur, h, _, _, h3, _⟩
            · simp at h
            · simp only [Value.slice.injEq] at h
              have h4 := h.2.2
              simp only [List.length_cons] at h3
              omega
          have z0 := (HOS.out.cellAt (st.length * 2) (by simp only [List.length_cons]; omega)).trans (ent_cells ⟨tp, tl, top⟩ st).1
          have z1 := (HOS.out.cellAt (st.length * 2 + 1) (by simp only [List.length_cons]; omega)).trans (ent_cells ⟨tp, tl, top⟩ st).2
          dsimp only at z0 z1
          simp only [List.length_cons] at HOS hstk ⊢
          have hd0 : decide ((st.length : Int) < 0) = false := by simp
          clear e2 e2' hpt o1 hp
          by_cases d0 : top = 18
          case neg =>
            have hst' : Hid (mstep (m, ⟨tp, tl, top⟩ :: st) 20 = none) := by
              show _ = _
              simp [mstep, opn, d0]
            have hfin : Hid (mres (l.map Ins.op) = (none, (k : Int))) := by
              show _ = _
              rw [← HR.out, mgo_none l k p HPP.out _ (by rw [HX.out]; exact hst'.out), HMK.out]
            have d1 : (top != 18) = true := by simpa using d0
            go_wp2_with fail
            go_quiet (fail)
            go_wp2_with fail
            go_ret2
            exact ⟨_, by rw [hfin.out]; rfl, by rw [hfin.out]; rfl, drewN_below hbel1 _⟩
          subst d0
          have hst' : Hid (mstep (m, ⟨tp, tl, 18⟩ :: st) 20 = some ((m ++ [-1]).set tl k, st)) := by
            show _ = _
            simp [mstep, opn, HMK.out]
          have hmres := HR.out
          rw [mgo_some l k p HPP.out _ _ (by rw [HX.out]; exact hst'.out)] at hmres
          have HR' := Lib.hid hmres
          clear hmres
          go_wp2_with fail
          go_quiet (fail)
          obtain ⟨W2, hW2⟩ : ∃ W2, (wr.setCell ⟨w.heap.size, k, none⟩ (.int .i64 (-1))).drewN nq = W2 := ⟨_, rfl⟩
          have hb12 : Below (wr.setCell ⟨w.heap.size, k, none⟩ (.int .i64 (-1))).heap.size (wr.setCell ⟨w.heap.size, k, none⟩ (.int .i64 (-1))) W2 := by rw [← hW2]; exact drewN_below (Bre _) _
          have hb2 : Below w.heap.size w W2 := by rw [← hW2]; exact drewN_below hbel1 _
          rw [hW2]
          clear hW2
          have hm2 := own_th HOM.out hb12
          have hs2 := own_th HOS.out hb12
          have v2 := (hm2.cellAt tl (by omega)).trans (mCells_get (m ++ [-1]) n tl (by simp [HMK.out]; omega))
          have v3 := hm2.frozenAt tl
          have z5 := (hs2.cellAt (st.length * 2 + 1) (by omega)).trans (ent_cells ⟨tp, tl, 18⟩ st).2
          dsimp only at z5
          obtain ⟨hm3, hs3⟩ := ms_m hm2 hs2 tl (.int .i64 k)
          rw [mCells_set _ n tl k (by simp [HMK.out]; omega)] at hm3
          have hb3 : Below w.heap.size w (W2.setCell ⟨w.heap.size, tl, none⟩ (.int .i64 k)) := Bset hb2 (Nat.le_refl _) _
          have x3 := (hb3.cell (p := ⟨b, off + k * 5, none⟩) hb).trans HX1.out
          generalize (m ++ [-1]).getD tl 0 = old at v2
          have z2 := (hs3.cellAt (st.length * 2) (by omega)).trans (ent_cells ⟨tp, tl, 18⟩ st).1
          have z3 := (hs3.cellAt (st.length * 2 + 1) (by omega)).trans (ent_cells ⟨tp, tl, 18⟩ st).2
          have z4 := hs3.frozenAt (st.length * 2 + 1)
          dsimp only at z2 z3
          have HM3 := Lib.hid hm3
          have HS3 := Lib.hid hs3
          clear hm2 hs2 hm3 hs3 hb12 hb2 x2 o2 z0 z1 y0 y1 hbel1
          clear z2 z3 z4
          go_wp2_with fail
          have hpop := own_cut HS3.out (show st.length ≤ st.length + 1 by omega)
          rw [ent_pop] at hpop
          exact ⟨⟨k + 1, _, st, _, c, by omega, by simp [HMK.out], by go_num, rfl, HR'.out, HM3.out, hpop, hb3, fun t ht => (HST.out t (List.mem_cons_of_mem _ ht)).up, by omega⟩, by (simp [intOf]) <;> omega⟩
      by_cases c22 : x = 22
      · subst c22
        cases st with
        | nil =>
          have hst' : Hid (mstep (m, []) 22 = none) := rfl
          have hfin : Hid (mres (l.map Ins.op) = (none, (k : Int))) := by
            show _ = _
            rw [← HR.out, mgo_none l k p HPP.out _ (by rw [HX.out]; exact hst'.out), HMK.out]
          clear hp
          go_wp2_with fail
          go_quiet (fail)
          go_wp2_with fail
          go_ret2
          exact ⟨_, by rw [hfin.out]; rfl, by rw [hfin.out]; rfl, drewN_below hbel1 _⟩
        | cons t st =>
          obtain ⟨g, rfl⟩ : ∃ g, B = some ⟨g, 0, none⟩ := by
            rcases HOS.out.2 with ⟨h, _⟩ | ⟨g, cap, cur, h, _⟩
            · simp at h
            · simp only [Value.slice.injEq] at h; exact ⟨g, h.1⟩
          obtain ⟨e0, e1, e2⟩ := HST.out t (by simp)
          obtain ⟨tp, tl, top⟩ := t
          dsimp only at e0 e1 e2
          obtain ⟨pt, hpt⟩ : ∃ pt, l[tp]? = some pt := ⟨_, List.getElem?_eq_getElem (by rw [HN.out]; omega)⟩
          have e2' : pt.op = top := by rw [← e2 ⟨0, 0, 0, 0, 0⟩]; simp [List.getD, hpt]
          obtain ⟨b', off', hbo, hb', o1, oo1, oo2, oo3, oo4⟩ := HU.out tp pt hpt
          clear oo1 oo2 oo3 oo4
          injection hbo with hbo
          injection hbo with q1 q2
          subst q1 q2
          rw [e2'] at o1
          have o2 := (hbel1.cell hb').trans o1
          have hqc : (st.length : Int) + 1 ≤ (c : Int) := by
            rcases HOS.out.2 with ⟨h, _⟩ | ⟨g', cap, cur, h, _, _, h3, _⟩
            · simp at h
            · simp only [Value.slice.injEq] at h
              have h4 := h.2.2
              simp only [List.length_cons] at h3
              omega
          have z0 := (HOS.out.cellAt (st.length * 2) (by simp only [List.length_cons]; omega)).trans (ent_cells ⟨tp, tl, top⟩ st).1
          have z1 := (HOS.out.cellAt (st.length * 2 + 1) (by simp only [List.length_cons]; omega)).trans (ent_cells ⟨tp, tl, top⟩ st).2
          dsimp only at z0 z1
          simp only [List.length_cons] at HOS hstk ⊢
          have hd0 : decide ((st.length : Int) < 0) = false := by simp
          clear e2 e2' hpt o1 hp
          by_cases d0 : top = 21
          case neg =>
            have hst' : Hid (mstep (m, ⟨tp, tl, top⟩ :: st) 22 = none) := by
              show _ = _
              simp [mstep, opn, d0]
            have hfin : Hid (mres (l.map Ins.op) = (none, (k : Int))) := by
              show _ = _
              rw [← HR.out, mgo_none l k p HPP.out _ (by rw [HX.out]; exact hst'.out), HMK.out]
            have d1 : (top != 21) = true := by simpa using d0
            go_wp2_with fail
            go_quiet (fail)
            go_wp2_with fail
            go_ret2
            exact ⟨_, by rw [hfin.out]; rfl, by rw [hfin.out]; rfl, drewN_below hbel1 _⟩
          subst d0
          have hst' : Hid (mstep (m, ⟨tp, tl, 21⟩ :: st) 22 = some (((m ++ [-1]).set tl k).set k tp, st)) := by
            show _ = _
            simp [mstep, opn, HMK.out]
          have hmres := HR.out
          rw [mgo_some l k p HPP.out _ _ (by rw [HX.out]; exact hst'.out)] at hmres
          have HR' := Lib.hid hmres
          clear hmres
          go_wp2_with fail
          go_quiet (fail)
          obtain ⟨W2, hW2⟩ : ∃ W2, (wr.setCell ⟨w.heap.size, k, none⟩ (.int .i64 (-1))).drewN nq = W2 := ⟨_, rfl⟩
          have hb12 : Below (wr.setCell ⟨w.heap.size, k, none⟩ (.int .i64 (-1))).heap.size (wr.setCell ⟨w.heap.size, k, none⟩ (.int .i64 (-1))) W2 := by rw [← hW2]; exact drewN_below (Bre _) _
          have hb2 : Below w.heap.size w W2 := by rw [← hW2]; exact drewN_below hbel1 _
          rw [hW2]
          clear hW2
          have hm2 := own_th HOM.out hb12
          have hs2 := own_th HOS.out hb12
          have v2 := (hm2.cellAt tl (by omega)).trans (mCells_get (m ++ [-1]) n tl (by simp [HMK.out]; omega))
          have v3 := hm2.frozenAt tl
          have z5 := (hs2.cellAt (st.length * 2 + 1) (by omega)).trans (ent_cells ⟨tp, tl, 21⟩ st).2
          dsimp only at z5
          obtain ⟨hm3, hs3⟩ := ms_m hm2 hs2 tl (.int .i64 k)
          rw [mCells_set _ n tl k (by simp [HMK.out]; omega)] at hm3
          have hb3 : Below w.heap.size w (W2.setCell ⟨w.heap.size, tl, none⟩ (.int .i64 k)) := Bset hb2 (Nat.le_refl _) _
          have x3 := (hb3.cell (p := ⟨b, off + k * 5, none⟩) hb).trans HX1.out
          generalize (m ++ [-1]).getD tl 0 = old at v2
          have z2 := (hs3.cellAt (st.length * 2) (by omega)).trans (ent_cells ⟨tp, tl, 21⟩ st).1
          have z3 := (hs3.cellAt (st.length * 2 + 1) (by omega)).trans (ent_cells ⟨tp, tl, 21⟩ st).2
          have z4 := hs3.frozenAt (st.length * 2 + 1)
          dsimp only at z2 z3
          have HM3 := Lib.hid hm3
          have HS3 := Lib.hid hs3
          clear hm2 hs2 hm3 hs3 hb12 hb2 x2 o2 z0 z1 y0 y1 hbel1
          clear z3 z4
          have u2 := (HM3.out.cellAt k (by omega)).trans (mCells_get ((m ++ [-1]).set tl k) n k (by simp [HMK.out]))
          have u3 := HM3.out.frozenAt k
          generalize ((m ++ [-1]).set tl (k : Int)).getD k 0 = old2 at u2
          have hfin3 := ms_m HM3.out HS3.out k (.int .i64 tp)
          rw [mCells_set _ n k tp (by simp [HMK.out])] at hfin3
          have HF3 := Lib.hid hfin3
          clear hfin3
          go_wp2_with fail
          have hpop := own_cut HF3.out.2 (show st.length ≤ st.length + 1 by omega)
          rw [ent_pop] at hpop
          exact ⟨⟨k + 1, _, st, _, c, by omega, by simp [HMK.out], by go_num, rfl, HR'.out, HF3.out.1, hpop, Bset hb3 (Nat.le_refl _) _, fun t ht => (HST.out t (List.mem_cons_of_mem _ ht)).up, by omega⟩, by (simp [intOf]) <;> omega⟩
      by_cases c14 : x = 14
      · subst c14
        cases st with
        | nil =>
          have hst' : Hid (mstep (m, []) 14 = none) := rfl
          have hfin : Hid (mres (l.map Ins.op) = (none, (k : Int))) := by
            show _ = _
            rw [← HR.out, mgo_none l k p HPP.out _ (by rw [HX.out]; exact hst'.out), HMK.out]
          clear hp
          go_wp2_with fail
          go_quiet (fail)
          go_wp2_with fail
          go_ret2
          exact ⟨_, by rw [hfin.out]; rfl, by rw [hfin.out]; rfl, drewN_below hbel1 _⟩
        | cons t st =>
          obtain ⟨g, rfl⟩ : ∃ g, B = some ⟨g, 0, none⟩ := by
            rcases HOS.out.2 with ⟨h, _⟩ | ⟨g, cap, cur, h, _⟩
            · simp at h
            · simp only [Value.slice.injEq] at h; exact ⟨g, h.1⟩
          obtain ⟨e0, e1, e2⟩ := HST.out t (by simp)
          obtain ⟨tp, tl, top⟩ := t
          dsimp only at e0 e1 e2
          obtain ⟨pt, hpt⟩ : ∃ pt, l[tp]? = some pt := ⟨_, List.getElem?_eq_getElem (by rw [HN.out]; omega)⟩
          have e2' : pt.op = top := by rw [← e2 ⟨0, 0, 0, 0, 0⟩]; simp [List.getD, hpt]
          obtain ⟨b', off', hbo, hb', o1, oo1, oo2, oo3, oo4⟩ := HU.out tp pt hpt
          clear oo1 oo2 oo3 oo4
          injection hbo with hbo
          injection hbo with q1 q2
          subst q1 q2
          rw [e2'] at o1
          have o2 := (hbel1.cell hb').trans o1
          have hqc : (st.length : Int) + 1 ≤ (c : Int) := by
            rcases HOS.out.2 with ⟨h, _⟩ | ⟨g', cap, cur, h, _, _, h3, _⟩
            · simp at h
            · simp only [Value.slice.injEq] at h
              have h4 := h.2.2
              simp only [List.length_cons] at h3
              omega
          have z0 := (HOS.out.cellAt (st.length * 2) (by simp only [List.length_cons]; omega)).trans (ent_cells ⟨tp, tl, top⟩ st).1
          have z1 := (HOS.out.cellAt (st.length * 2 + 1) (by simp only [List.length_cons]; omega)).trans (ent_cells ⟨tp, tl, top⟩ st).2
          dsimp only at z0 z1
          simp only [List.length_cons] at HOS hstk ⊢
          have hd0 : decide ((st.length : Int) < 0) = false := by simp
          clear e2 e2' hpt o1 hp
          by_cases d0 : top = 13
          case neg =>
            have hst' : Hid (mstep (m, ⟨tp, tl, top⟩ :: st) 14 = none) := by
              show _ = _
              simp [mstep, opn, d0]
            have hfin : Hid (mres (l.map Ins.op) = (none, (k : Int))) := by
              show _ = _
              rw [← HR.out, mgo_none l k p HPP.out _ (by rw [HX.out]; exact hst'.out), HMK.out]
            have d1 : (top != 13) = true := by simpa using d0
            go_wp2_with fail
            go_quiet (fail)
            go_wp2_with fail
            go_ret2
            exact ⟨_, by rw [hfin.out]; rfl, by rw [hfin.out]; rfl, drewN_below hbel1 _⟩
          subst d0
          have hst' : Hid (mstep (m, ⟨tp, tl, 13⟩ :: st) 14 = some (((m ++ [-1]).set tl k).set k tp, st)) := by
            show _ = _
            simp [mstep, opn, HMK.out]
          have hmres := HR.out
          rw [mgo_some l k p HPP.out _ _ (by rw [HX.out]; exact hst'.out)] at hmres
          have HR' := Lib.hid hmres
          clear hmres
          go_wp2_with fail
          go_quiet (fail)
          obtain ⟨W2, hW2⟩ : ∃ W2, (wr.setCell ⟨w.heap.size, k, none⟩ (.int .i64 (-1))).drewN nq = W2 := ⟨_, rfl⟩
          have hb12 : Below (wr.setCell ⟨w.heap.size, k, none⟩ (.int .i64 (-1))).heap.size (wr.setCell ⟨w.heap.size, k, none⟩ (.int .i64 (-1))) W2 := by rw [← hW2]; exact drewN_below (Bre _) _
          have hb2 : Below w.heap.size w W2 := by rw [← hW2]; exact drewN_below hbel1 _
          rw [hW2]
          clear hW2
          have hm2 := own_th HOM.out hb12
          have hs2 := own_th HOS.out hb12
          have v2 := (hm2.cellAt tl (by omega)).trans (mCells_get (m ++ [-1]) n tl (by simp [HMK.out]; omega))
          have v3 := hm2.frozenAt tl
          have z5 := (hs2.cellAt (st.length * 2 + 1) (by omega)).trans (ent_cells ⟨tp, tl, 13⟩ st).2
          dsimp only at z5
          obtain ⟨hm3, hs3⟩ := ms_m hm2 hs2 tl (.int .i64 k)
          rw [mCells_set _ n tl k (by simp [HMK.out]; omega)] at hm3
          have hb3 : Below w.heap.size w (W2.setCell ⟨w.heap.size, tl, none⟩ (.int .i64 k)) := Bset hb2 (Nat.le_refl _) _
          have x3 := (hb3.cell (p := ⟨b, off + k * 5, none⟩) hb).trans HX1.out
          generalize (m ++ [-1]).getD tl 0 = old at v2
          have z2 := (hs3.cellAt (st.length * 2) (by omega)).trans (ent_cells ⟨tp, tl, 13⟩ st).1
          have z3 := (hs3.cellAt (st.length * 2 + 1) (by omega)).trans (ent_cells ⟨tp, tl, 13⟩ st).2
          have z4 := hs3.frozenAt (st.length * 2 + 1)
          dsimp only at z2 z3
          have HM3 := Lib.hid hm3
          have HS3 := Lib.hid hs3
          clear hm2 hs2 hm3 hs3 hb12 hb2 x2 o2 z0 z1 y0 y1 hbel1
          clear z3 z4
          have u2 := (HM3.out.cellAt k (by omega)).trans (mCells_get ((m ++ [-1]).set tl k) n k (by simp [HMK.out]))
          have u3 := HM3.out.frozenAt k
          generalize ((m ++ [-1]).set tl (k : Int)).getD k 0 = old2 at u2
          have hfin3 := ms_m HM3.out HS3.out k (.int .i64 tp)
          rw [mCells_set _ n k tp (by simp [HMK.out])] at hfin3
          have HF3 := Lib.hid hfin3
          clear hfin3
          go_wp2_with fail
          have hpop := own_cut HF3.out.2 (show st.length ≤ st.length + 1 by omega)
          rw [ent_pop] at hpop
          exact ⟨⟨k + 1, _, st, _, c, by omega, by simp [HMK.out], by go_num, rfl, HR'.out, HF3.out.1, hpop, Bset hb3 (Nat.le_refl _) _, fun t ht => (HST.out t (List.mem_cons_of_mem _ ht)).up, by omega⟩, by (simp [intOf]) <;> omega⟩
      have hst' : Hid (mstep (m, st) x = some (m ++ [-1], st)) := by
        show _ = _
        simp only [mstep]; rw [if_neg c0, if_neg (by omega)]
      have hmres := HR.out
      rw [mgo_some l k p HPP.out _ _ (by rw [HX.out]; exact hst'.out)] at hmres
      have HR' := Lib.hid hmres
      have t1 : (x == 18) = false := bne_of (by omega)
      have t2 : (x == 21) = false := bne_of (by omega)
      have t3 : (x == 13) = false := bne_of (by omega)
      have t4 : (x == 19) = false := bne_of c19
      have t5 : (x == 20) = false := bne_of c20
      have t6 : (x == 22) = false := bne_of c22
      have t7 : (x == 14) = false := bne_of c14
      clear hmres hp c0 c19 c20 c22 c14
      go_wp2_with fail
      exact ⟨⟨k + 1, m ++ [-1], st, B, c, by omega, by simp [HMK.out], by go_num, rfl, HR'.out, HOM.out, HOS.out, hbel1, fun t ht => (HST.out t ht).up, by omega⟩, by (simp [intOf]) <;> omega⟩
    · have hkn : k = n := by omega
      have hrr : mend (m, st) = mres (l.map Ins.op) := by
        rw [← hres, List.drop_of_length_le (by rw [HN.out]; omega)]; rfl
      have HRR := Lib.hid hrr
      have HMK := Lib.hid hmk
      have HKN := Lib.hid hkn
      clear hres hmk hrr hkn
      have HST := Lib.hid hst
      clear hst
      cases st with
      | nil =>
        have hom2 : Hid (wr.ownsRow w.heap.size 3 1 (.slice (some ⟨w.heap.size, 0, none⟩) n n) m.length (m.map (Value.int .i64))) := by
          have h1 : m.length = n := by rw [HMK.out, HKN.out]
          rw [← mCells_full, h1]; exact hom
        clear hom hos
        go_wp2_with fail
        go_ret2
        exact ⟨_, by rw [← HRR.out]; rfl, by rw [← HRR.out]; exact hom2.out, hbel⟩
      | cons t st =>
        obtain ⟨g, rfl⟩ : ∃ g, B = some ⟨g, 0, none⟩ := by
          rcases hos.2 with ⟨h, _⟩ | ⟨g, cap, cur, h, _⟩
          · simp at h
          · simp only [Value.slice.injEq] at h; exact ⟨g, h.1⟩
        have z0 := (hos.cellAt (st.length * 2) (by simp only [List.length_cons]; omega)).trans (ent_cells t st).1
        clear hom hos
        simp only [List.length_cons] at hstk ⊢
        obtain ⟨tp, tl, top⟩ := t
        dsimp only at z0
        go_wp2_with fail
        go_quiet (fail)
        go_wp2_with fail
        go_ret2
        exact ⟨_, by rw [← HRR.out]; rfl, by rw [← HRR.out]; rfl, drewN_below hbel _⟩
end Go.Proofs.Ytipkaloldlplgaa
