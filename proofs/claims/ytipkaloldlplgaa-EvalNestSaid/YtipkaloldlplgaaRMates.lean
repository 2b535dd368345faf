/-
  Which blocks belong together: the reference's function computes rres.
-/
import Derived.Test.YtipkaloldlplgaaMates
set_option linter.unusedVariables false
namespace Go.Proofs.Ytipkaloldlplgaa
open Go.RowKit
abbrev RSt := List Int × List (Nat × Int)
def fitsR (op y : Int) : Bool := if op = 19 then decide (y = 18) else if op = 20 then decide (y = 18 ∨ y = 19) else if op = 22 then decide (y = 21) else decide (y = 13)
def rstep (s : RSt) (op : Int) : Option RSt :=
  if op = 18 ∨ op = 21 ∨ op = 13 then some (s.1 ++ [-1], (s.1.length, op) :: s.2)
  else if op = 19 ∨ op = 20 ∨ op = 22 ∨ op = 14 then
    match s.2 with
    | [] => none
    | t :: st =>
      if fitsR op t.2 = false then none
      else if op = 19 then some ((s.1 ++ [-1]).set t.1 s.1.length, (s.1.length, 19) :: st)
      else if op = 20 then some ((s.1 ++ [-1]).set t.1 s.1.length, st)
      else some (((s.1 ++ [-1]).set t.1 s.1.length).set s.1.length t.1, st)
  else some (s.1 ++ [-1], s.2)
def ffR (m : List Int) (p : Nat) : Nat → Nat → Nat
  | 0, _ => p
  | f + 1, k => if m.getD k 0 = p then k else ffR m p f (k + 1)
def rend (s : RSt) : Option (List Int) × Int := match s.2 with | [] => (some s.1, -1) | t :: _ => if t.2 = 19 then (none, ffR s.1 t.1 t.1 0) else (none, t.1)
def rgo : List Int → RSt → Option (List Int) × Int
  | [], s => rend s
  | op :: l, s => match rstep s op with | none => (none, s.1.length) | some s' => rgo l s'
def rres (ops : List Int) : Option (List Int) × Int := rgo ops ([], [])
def rsCells (st : List (Nat × Int)) : List Value := st.reverse.map fun t => .int .i64 t.1
theorem rsCells_cons (t : Nat × Int) (st : List (Nat × Int)) : rsCells (t :: st) = rsCells st ++ [.int .i64 t.1] := by simp [rsCells]
theorem rsCells_len (st : List (Nat × Int)) : (rsCells st).length = st.length := by simp [rsCells]
theorem rs_top (t : Nat × Int) (st : List (Nat × Int)) : (rsCells (t :: st))[st.length]? = some (.int .i64 t.1) := by
  rw [rsCells_cons, ← rsCells_len, List.getElem?_append_right (by omega)]; simp
theorem rs_set (t : Nat × Int) (st : List (Nat × Int)) (k : Nat) (y : Int) : (rsCells (t :: st)).set st.length (.int .i64 k) = rsCells ((k, y) :: st) := by
  rw [rsCells_cons, rsCells_cons, ← rsCells_len, List.set_append_right _ _ (by omega)]; simp
theorem rs_pop (t : Nat × Int) (st : List (Nat × Int)) : (rsCells (t :: st)).take st.length = rsCells st := by
  rw [rsCells_cons, ← rsCells_len]; simp
theorem rgo_none (l : List Ins) (k : Nat) (p : Ins) (hp : l[k]? = some p) (s : RSt) (h : rstep s p.op = none) : rgo ((l.drop k).map Ins.op) s = (none, (s.1.length : Int)) := by
  have h1 : k < l.length := (List.getElem?_eq_some_iff.1 hp).1
  have h2 : l[k] = p := (List.getElem?_eq_some_iff.1 hp).2
  rw [List.drop_eq_getElem_cons h1, h2, List.map_cons, rgo, h]
theorem rgo_some (l : List Ins) (k : Nat) (p : Ins) (hp : l[k]? = some p) (s s' : RSt) (h : rstep s p.op = some s') : rgo ((l.drop k).map Ins.op) s = rgo ((l.drop (k + 1)).map Ins.op) s' := by
  have h1 : k < l.length := (List.getElem?_eq_some_iff.1 hp).1
  have h2 : l[k] = p := (List.getElem?_eq_some_iff.1 hp).2
  rw [List.drop_eq_getElem_cons h1, h2, List.map_cons, rgo, h]
def REnt (l : List Ins) (k : Nat) (t : Nat × Int) : Prop := t.1 < k ∧ ∀ d, (l.getD t.1 d).op = t.2
theorem REnt.up {l : List Ins} {k : Nat} {t : Nat × Int} (h : REnt l k t) : REnt l (k + 1) t := ⟨by have := h.1; omega, h.2⟩
theorem rs_m {wr : World} {base n n2 : Nat} {C S : List Value} {v : Value} (h1 : wr.ownsRow base 3 1 (.slice (some ⟨base, 0, none⟩) n n) n C) (h2 : wr.ownsRow (base + 1) 3 1 v n2 S) (i : Nat) (x : Value) :
    (wr.setCell ⟨base, i, none⟩ x).ownsRow base 3 1 (.slice (some ⟨base, 0, none⟩) n n) n (C.set i x) ∧ (wr.setCell ⟨base, i, none⟩ x).ownsRow (base + 1) 3 1 v n2 S :=
  ⟨(h1.stored i x).1, h2.kept (h1.stored i x).2 (Or.inr (fun e => own_ne h2 e.symm))⟩
theorem rs_o {wr : World} {base n n2 g c : Nat} {C S : List Value} (h1 : wr.ownsRow base 3 1 (.slice (some ⟨base, 0, none⟩) n n) n C) (h2 : wr.ownsRow (base + 1) 3 1 (.slice (some ⟨g, 0, none⟩) n2 c) n2 S) (i : Nat) (x : Value) :
    (wr.setCell ⟨g, i, none⟩ x).ownsRow base 3 1 (.slice (some ⟨base, 0, none⟩) n n) n C ∧ (wr.setCell ⟨g, i, none⟩ x).ownsRow (base + 1) 3 1 (.slice (some ⟨g, 0, none⟩) n2 c) n2 (S.set i x) :=
  ⟨h1.kept (h2.stored i x).2 (Or.inr (own_ne h2)), (h2.stored i x).1⟩
theorem news1 (w : World) (g : Nat) (hg : g = w.heap.size) (x : Value) (t : TypeId) : ∀ j u, [x][j]? = some u → (w.alloc (.cells #[x] t)).cell? ((⟨g, 0, none⟩ : Addr).add j) = some u := by
  subst hg
  intro j u hu
  match j, hu with
  | 0, hu => simp at hu; subst hu; simp [Addr.add]
theorem one1 (x : Value) (h : x.oneCell' = true) : ∀ u ∈ [x], u.oneCell' = true := by
  intro u hu
  simp at hu; subst hu; exact h
set_option maxRecDepth 100000 in
set_option maxHeartbeats 4000000 in
theorem rmates_any (l : List Ins) (u : Value) (w : World) (hl : l.length ≤ 1048576) (hu : InsAt w u l) :
    Calls Try.prog 17 #[u] w fun e w' => ∃ v, e = .returned (.tuple #[v, .int .i64 (rres (l.map Ins.op)).2]) ∧ MV w' w.heap.size v (rres (l.map Ins.op)).1 ∧ Below w.heap.size w w' := by
  obtain ⟨A, c1, rfl, hu⟩ := hu
  have HU := Lib.hid hu
  clear hu
  obtain ⟨i0, hi, hz0, hz1, hz2⟩ := info_parts info3
  obtain ⟨n, hn⟩ : ∃ n, l.length = n := ⟨_, rfl⟩
  rw [hn] at hl ⊢
  have HN := Lib.hid hn
  clear hn
  have hmk := fun w => run_make_row' (P := Try.prog) 31 3 (.int .i64 0) 8 Try.underlying31 info3 rfl .i64 .i64 n (by omega) (by omega) w
  go_enter Try.func17, Try.ntmps17
  go_wp2_with fail
  clear hmk
  go_loopw [5, 6] (fun o i wr => ∃ (k : Nat) (m : List Int) (st : List (Nat × Int)) (B : Option Addr) (c : Nat), k ≤ n ∧ m.length = k ∧ i = .int .i64 k ∧ o = .slice B st.length c ∧ rgo ((l.drop k).map Ins.op) (m, st) = rres (l.map Ins.op) ∧
    wr.ownsRow w.heap.size 3 1 (.slice (some ⟨w.heap.size, 0, none⟩) n n) n (mCells m n) ∧ wr.ownsRow (w.heap.size + 1) 3 1 (.slice B st.length c) st.length (rsCells st) ∧ Below w.heap.size w wr ∧ (∀ t ∈ st, REnt l k t) ∧ st.length ≤ k) (fun _ i _ => n - (intOf i).toNat)
  case atStart =>
    refine ⟨0, [], [], none, 0, by omega, rfl, rfl, rfl, rfl, ?_, World.ownsRow_nil _ _ _ _, Bal (Bre _) _, by simp, by simp⟩
    have := World.ownsRow_lit (base := w.heap.size) (size := 1) (e := 3) w (madeCells #[.int .i64 0] n) n (Nat.le_refl _) (by unfold maxLen; omega) (by rw [size_madeCells]; omega)
    rw [toList_madeCells_one] at this
    rw [mCells_nil]
    exact this
  case round =>
    obtain ⟨k, m, st, B, c, hk, hmk, rfl, rfl, hres, hom, hos, hbel, hst, hstk⟩ := hrel
    by_cases hlt : k < n
    · obtain ⟨p, hp⟩ : ∃ p, l[k]? = some p := ⟨_, List.getElem?_eq_getElem (by rw [HN.out]; exact hlt)⟩
      obtain ⟨b, off, rfl, hb, x1, xx1, xx2, xx3, xx4⟩ := HU.out k p hp
      clear xx1 xx2 xx3 xx4
      have HR := Lib.hid hres
      have HMK := Lib.hid hmk
      have y0 : wr.cell? ⟨w.heap.size, k, none⟩ = some (.int .i64 0) := by rw [hom.cellAt k (by omega), ← hmk]; exact mCells_at m n (by omega)
      have y1 := hom.frozenAt k
      have hw0 : w.heap.size < wr.heap.size := (hom.lt _ rfl).2
      obtain ⟨hom1, hos1⟩ := rs_m hom hos k (.int .i64 (-1))
      have hm1 : (mCells m n).set k (.int .i64 (-1)) = mCells (m ++ [-1]) n := by rw [← hmk]; exact mCells_snoc m n (-1) (by omega)
      rw [hm1] at hom1
      have HOM := Lib.hid hom1
      have HOS := Lib.hid hos1
      have hbel1 : Below w.heap.size w (wr.setCell ⟨w.heap.size, k, none⟩ (.int .i64 (-1))) := Bset hbel (Nat.le_refl _) _
      have hbw : b < w.heap.size := hb
      have x2 : (wr.setCell ⟨w.heap.size, k, none⟩ (.int .i64 (-1))).cell? ⟨b, off + k * 5, none⟩ = some (.int .i64 p.op) := (hbel1.cell hb).trans x1
      have HX1 := Lib.hid x1
      clear hres hmk hom hos hom1 hos1 hm1 x1
      obtain ⟨x, hx⟩ : ∃ x, p.op = x := ⟨_, rfl⟩
      rw [hx] at x2 HX1
      have HPP := Lib.hid hp
      have HX := Lib.hid hx
      clear hx
      have HST := Lib.hid hst
      clear hst
      have hbs : w.heap.size ≤ wr.heap.size := hbel.size
      cases st with
      | nil =>
        simp only [List.length_nil] at HOS hstk ⊢
        by_cases c0 : x = 18 ∨ x = 21 ∨ x = 13
        · have hst' : Hid (rstep (m, []) x = some (m ++ [-1], (k, x) :: [])) := by
            show _ = _
            simp only [rstep]; rw [if_pos c0, HMK.out]
          have hmres := HR.out
          rw [rgo_some l k p HPP.out _ _ (by rw [HX.out]; exact hst'.out)] at hmres
          have HR' := Lib.hid hmres
          have hek : Hid (∀ t ∈ (k, x) :: [], REnt l (k + 1) t) := fun t ht => by
            rcases List.mem_cons.1 ht with rfl | ht
            · exact ⟨by show k < k + 1; omega, fun d => by rw [← HX.out]; simp [List.getD, HPP.out]⟩
            · exact (HST.out t ht).up
          clear hmres hp
          rcases c0 with rfl | rfl | rfl
          all_goals
            go_wp2_with (at_builtin; refine wpList_append_own _ rfl (.tmp 49) (.tmp 51) 31 rfl (w.heap.size + 1) 3 i0 _ 1 8 Try.underlying31 hi hz0 hz1 hz2 rfl (by omega) (.slice B 0 c) 0 (rsCells []) rfl (HOS.out.alloc _) ⟨wr.heap.size, 0, none⟩ 1 1 [.int .i64 k] rfl rfl (news1 _ _ (by simp) _ _) (one1 _ rfl) (by unfold maxLen; omega) (by omega) (by first | omega | (simp; omega) | simp) ?_; intro v' w1 hown' hgrow _)
            have hbelA : Below w.heap.size w ((wr.setCell ⟨w.heap.size, k, none⟩ (.int .i64 (-1))).alloc (.cells #[.int .i64 k] 3)) := Bal hbel1 _
            have hb1 : Below w.heap.size w w1 := hbelA.grown hgrow hbelA.size (fun g hg => by have := (HOS.out.lt g hg).1; omega)
            have hm1 := (HOM.out.alloc (.cells #[.int .i64 k] 3)).kept hgrow (Or.inr (own_ne HOS.out))
            obtain ⟨B1, cc1, rfl⟩ := own_form hown'
            exact ⟨⟨k + 1, m ++ [-1], (k, _) :: [], B1, cc1, by omega, by simp [HMK.out], by go_num, rfl, HR'.out, hm1, by rw [rsCells_cons]; exact hown', hb1, hek.out, by (try simp) <;> omega⟩, by (simp [intOf]) <;> omega⟩
        by_cases c19 : x = 19
        · subst c19
          have hst' : Hid (rstep (m, []) 19 = none) := by
            show _ = _
            simp [rstep]
          have hfin : Hid (rres (l.map Ins.op) = (none, (k : Int))) := by
            show _ = _
            rw [← HR.out, rgo_none l k p HPP.out _ (by rw [HX.out]; exact hst'.out), HMK.out]
          clear hp
          go_wp2_with fail
          go_ret2
          exact ⟨_, by rw [hfin.out]; rfl, by rw [hfin.out]; rfl, hbel1⟩
        by_cases c20 : x = 20
        · subst c20
          have hst' : Hid (rstep (m, []) 20 = none) := by
            show _ = _
            simp [rstep]
          have hfin : Hid (rres (l.map Ins.op) = (none, (k : Int))) := by
            show _ = _
            rw [← HR.out, rgo_none l k p HPP.out _ (by rw [HX.out]; exact hst'.out), HMK.out]
          clear hp
          go_wp2_with fail
          go_ret2
          exact ⟨_, by rw [hfin.out]; rfl, by rw [hfin.out]; rfl, hbel1⟩
        by_cases c22 : x = 22
        · subst c22
          have hst' : Hid (rstep (m, []) 22 = none) := by
            show _ = _
            simp [rstep]
          have hfin : Hid (rres (l.map Ins.op) = (none, (k : Int))) := by
            show _ = _
            rw [← HR.out, rgo_none l k p HPP.out _ (by rw [HX.out]; exact hst'.out), HMK.out]
          clear hp
          go_wp2_with fail
          go_ret2
          exact ⟨_, by rw [hfin.out]; rfl, by rw [hfin.out]; rfl, hbel1⟩
        by_cases c14 : x = 14
        · subst c14
          have hst' : Hid (rstep (m, []) 14 = none) := by
            show _ = _
            simp [rstep]
          have hfin : Hid (rres (l.map Ins.op) = (none, (k : Int))) := by
            show _ = _
            rw [← HR.out, rgo_none l k p HPP.out _ (by rw [HX.out]; exact hst'.out), HMK.out]
          clear hp
          go_wp2_with fail
          go_ret2
          exact ⟨_, by rw [hfin.out]; rfl, by rw [hfin.out]; rfl, hbel1⟩
        have hst' : Hid (rstep (m, []) x = some (m ++ [-1], [])) := by
          show _ = _
          simp only [rstep]; rw [if_neg c0, if_neg (by omega)]
        have hmres := HR.out
        rw [rgo_some l k p HPP.out _ _ (by rw [HX.out]; exact hst'.out)] at hmres
        have HR' := Lib.hid hmres
        have t1 : (x == 18) = false := bne_of (by omega)
        have t2 : (x == 21) = false := bne_of (by omega)
        have t3 : (x == 13) = false := bne_of (by omega)
        have t4 : (x == 19) = false := bne_of c19
        have t5 : (x == 20) = false := bne_of c20
        have t6 : (x == 22) = false := bne_of c22
        have t7 : (x == 14) = false := bne_of c14
        clear hmres hp c0 c19 c20 c22 c14
        go_wp2_with fail
        exact ⟨⟨k + 1, m ++ [-1], [], _, c, by omega, by simp [HMK.out], by go_num, rfl, HR'.out, HOM.out, HOS.out, hbel1, fun t ht => (HST.out t ht).up, by (try simp) <;> omega⟩, by (simp [intOf]) <;> omega⟩
      | cons t st =>
        obtain ⟨g, rfl⟩ : ∃ g, B = some ⟨g, 0, none⟩ := by
          rcases HOS.out.2 with ⟨h, _⟩ | ⟨g, cap, cur, h, _⟩
          · simp at h
          · simp only [Value.slice.injEq] at h; exact ⟨g, h.1⟩
        obtain ⟨e0, e2⟩ := HST.out t (by simp)
        obtain ⟨tp, top⟩ := t
        dsimp only at e0 e2
        obtain ⟨pt, hpt⟩ : ∃ pt, l[tp]? = some pt := ⟨_, List.getElem?_eq_getElem (by rw [HN.out]; omega)⟩
        have e2' : pt.op = top := by rw [← e2 ⟨0, 0, 0, 0, 0⟩]; simp [List.getD, hpt]
        obtain ⟨b', off', hbo, hb', o1, oo1, oo2, oo3, oo4⟩ := HU.out tp pt hpt
        clear oo1 oo2 oo3 oo4
        injection hbo with hbo
        injection hbo with q1 q2
        subst q1 q2
        rw [e2'] at o1
        have o2 := (hbel1.cell hb').trans o1
        have hqc : (st.length : Int) + 1 ≤ (c : Int) := by
          rcases HOS.out.2 with ⟨h, _⟩ | ⟨g', cap, cur, h, _, _, h3, _⟩
          · simp at h
          · simp only [Value.slice.injEq] at h
            have h4 := h.2.2
            simp only [List.length_cons] at h3
            omega
        have z0 := (HOS.out.cellAt st.length (by simp only [List.length_cons]; omega)).trans (rs_top (tp, top) st)
        dsimp only at z0
        simp only [List.length_cons] at HOS hstk ⊢
        clear e2 e2' hpt o1
        by_cases c0 : x = 18 ∨ x = 21 ∨ x = 13
        · have hst' : Hid (rstep (m, ((tp, top) :: st)) x = some (m ++ [-1], (k, x) :: ((tp, top) :: st))) := by
            show _ = _
            simp only [rstep]; rw [if_pos c0, HMK.out]
          have hmres := HR.out
          rw [rgo_some l k p HPP.out _ _ (by rw [HX.out]; exact hst'.out)] at hmres
          have HR' := Lib.hid hmres
          have hek : Hid (∀ t ∈ (k, x) :: ((tp, top) :: st), REnt l (k + 1) t) := fun t ht => by
            rcases List.mem_cons.1 ht with rfl | ht
            · exact ⟨by show k < k + 1; omega, fun d => by rw [← HX.out]; simp [List.getD, HPP.out]⟩
            · exact (HST.out t ht).up
          clear hmres hp
          rcases c0 with rfl | rfl | rfl
          all_goals
            go_wp2_with (at_builtin; refine wpList_append_own _ rfl (.tmp 49) (.tmp 51) 31 rfl (w.heap.size + 1) 3 i0 _ 1 8 Try.underlying31 hi hz0 hz1 hz2 rfl (by omega) (.slice (some ⟨g, 0, none⟩) (st.length + 1) c) (st.length + 1) (rsCells ((tp, top) :: st)) rfl (HOS.out.alloc _) ⟨wr.heap.size, 0, none⟩ 1 1 [.int .i64 k] rfl rfl (news1 _ _ (by simp) _ _) (one1 _ rfl) (by unfold maxLen; omega) (by omega) (by first | omega | (simp; omega) | simp) ?_; intro v' w1 hown' hgrow _)
            have hbelA : Below w.heap.size w ((wr.setCell ⟨w.heap.size, k, none⟩ (.int .i64 (-1))).alloc (.cells #[.int .i64 k] 3)) := Bal hbel1 _
            have hb1 : Below w.heap.size w w1 := hbelA.grown hgrow hbelA.size (fun g hg => by have := (HOS.out.lt g hg).1; omega)
            have hm1 := (HOM.out.alloc (.cells #[.int .i64 k] 3)).kept hgrow (Or.inr (own_ne HOS.out))
            obtain ⟨B1, cc1, rfl⟩ := own_form hown'
            exact ⟨⟨k + 1, m ++ [-1], (k, _) :: ((tp, top) :: st), B1, cc1, by omega, by simp [HMK.out], by go_num, rfl, HR'.out, hm1, by rw [rsCells_cons]; exact hown', hb1, hek.out, by (try simp) <;> omega⟩, by (simp [intOf]) <;> omega⟩
        by_cases c19 : x = 19
        · subst c19
          by_cases d18 : top = 18
          · subst d18
            have hst' : Hid (rstep (m, (tp, 18) :: st) 19 = some ((m ++ [-1]).set tp k, (k, 19) :: st)) := by
              show _ = _
              simp [rstep, fitsR, HMK.out]
            have hmres := HR.out
            rw [rgo_some l k p HPP.out _ _ (by rw [HX.out]; exact hst'.out)] at hmres
            have HR' := Lib.hid hmres
            clear hmres hp
            have v2 := (HOM.out.cellAt tp (by omega)).trans (mCells_get (m ++ [-1]) n tp (by simp [HMK.out]; omega))
            have v3 := HOM.out.frozenAt tp
            obtain ⟨hm3, hs3⟩ := rs_m HOM.out HOS.out tp (.int .i64 k)
            rw [mCells_set _ n tp k (by simp [HMK.out]; omega)] at hm3
            have hb3 : Below w.heap.size w ((wr.setCell ⟨w.heap.size, k, none⟩ (.int .i64 (-1))).setCell ⟨w.heap.size, tp, none⟩ (.int .i64 k)) := Bset hbel1 (Nat.le_refl _) _
            generalize (m ++ [-1]).getD tp 0 = old at v2
            have HM3 := Lib.hid hm3
            have HS3 := Lib.hid hs3
            have z3 := (hs3.cellAt st.length (by omega)).trans (rs_top (tp, 18) st)
            dsimp only at z3
            have z4 := hs3.frozenAt st.length
            have hfin3 := rs_o HM3.out HS3.out st.length (.int .i64 k)
            rw [rs_set (tp, 18) st k 19] at hfin3
            have HF3 := Lib.hid hfin3
            clear hfin3 hm3 hs3
            have hgb := (HS3.out.lt g rfl).1
            go_wp2_with fail
            exact ⟨⟨k + 1, _, (k, 19) :: st, _, c, by omega, by simp [HMK.out], by go_num, rfl, HR'.out, HF3.out.1, HF3.out.2, Bset hb3 (by show w.heap.size ≤ g; omega) _, fun t ht => by
              rcases List.mem_cons.1 ht with rfl | ht
              · exact ⟨by show k < k + 1; omega, fun d => by rw [← HX.out]; simp [List.getD, HPP.out]⟩
              · exact (HST.out t (List.mem_cons_of_mem _ ht)).up, by simp; omega⟩, by (simp [intOf]) <;> omega⟩
          have dd18 : (top == 18) = false := bne_of d18
          have hst' : Hid (rstep (m, ((tp, top) :: st)) 19 = none) := by
            show _ = _
            simp [rstep, fitsR, d18]
          have hfin : Hid (rres (l.map Ins.op) = (none, (k : Int))) := by
            show _ = _
            rw [← HR.out, rgo_none l k p HPP.out _ (by rw [HX.out]; exact hst'.out), HMK.out]
          clear hp
          go_wp2_with fail
          go_ret2
          exact ⟨_, by rw [hfin.out]; rfl, by rw [hfin.out]; rfl, hbel1⟩
        by_cases c20 : x = 20
        · subst c20
          by_cases d18 : top = 18
          · subst d18
            have hst' : Hid (rstep (m, (tp, 18) :: st) 20 = some ((m ++ [-1]).set tp k, st)) := by
              show _ = _
              simp [rstep, fitsR, HMK.out]
            have hmres := HR.out
            rw [rgo_some l k p HPP.out _ _ (by rw [HX.out]; exact hst'.out)] at hmres
            have HR' := Lib.hid hmres
            clear hmres hp
            have v2 := (HOM.out.cellAt tp (by omega)).trans (mCells_get (m ++ [-1]) n tp (by simp [HMK.out]; omega))
            have v3 := HOM.out.frozenAt tp
            obtain ⟨hm3, hs3⟩ := rs_m HOM.out HOS.out tp (.int .i64 k)
            rw [mCells_set _ n tp k (by simp [HMK.out]; omega)] at hm3
            have hb3 : Below w.heap.size w ((wr.setCell ⟨w.heap.size, k, none⟩ (.int .i64 (-1))).setCell ⟨w.heap.size, tp, none⟩ (.int .i64 k)) := Bset hbel1 (Nat.le_refl _) _
            generalize (m ++ [-1]).getD tp 0 = old at v2
            have HM3 := Lib.hid hm3
            have HS3 := Lib.hid hs3
            clear hm3 hs3
            go_wp2_with fail
            have hpop := own_cut HS3.out (show st.length ≤ st.length + 1 by omega)
            rw [Nat.mul_one, rs_pop] at hpop
            exact ⟨⟨k + 1, _, st, _, c, by omega, by simp [HMK.out], by go_num, rfl, HR'.out, HM3.out, hpop, hb3, fun t ht => (HST.out t (List.mem_cons_of_mem _ ht)).up, by omega⟩, by (simp [intOf]) <;> omega⟩
          by_cases d19 : top = 19
          · subst d19
            have hst' : Hid (rstep (m, (tp, 19) :: st) 20 = some ((m ++ [-1]).set tp k, st)) := by
              show _ = _
              simp [rstep, fitsR, HMK.out]
            have hmres := HR.out
            rw [rgo_some l k p HPP.out _ _ (by rw [HX.out]; exact hst'.out)] at hmres
            have HR' := Lib.hid hmres
            clear hmres hp
            have v2 := (HOM.out.cellAt tp (by omega)).trans (mCells_get (m ++ [-1]) n tp (by simp [HMK.out]; omega))
            have v3 := HOM.out.frozenAt tp
            obtain ⟨hm3, hs3⟩ := rs_m HOM.out HOS.out tp (.int .i64 k)
            rw [mCells_set _ n tp k (by simp [HMK.out]; omega)] at hm3
            have hb3 : Below w.heap.size w ((wr.setCell ⟨w.heap.size, k, none⟩ (.int .i64 (-1))).setCell ⟨w.heap.size, tp, none⟩ (.int .i64 k)) := Bset hbel1 (Nat.le_refl _) _
            generalize (m ++ [-1]).getD tp 0 = old at v2
            have HM3 := Lib.hid hm3
            have HS3 := Lib.hid hs3
            clear hm3 hs3
            go_wp2_with fail
            have hpop := own_cut HS3.out (show st.length ≤ st.length + 1 by omega)
            rw [Nat.mul_one, rs_pop] at hpop
            exact ⟨⟨k + 1, _, st, _, c, by omega, by simp [HMK.out], by go_num, rfl, HR'.out, HM3.out, hpop, hb3, fun t ht => (HST.out t (List.mem_cons_of_mem _ ht)).up, by omega⟩, by (simp [intOf]) <;> omega⟩
          have dd18 : (top == 18) = false := bne_of d18
          have dd19 : (top == 19) = false := bne_of d19
          have hst' : Hid (rstep (m, ((tp, top) :: st)) 20 = none) := by
            show _ = _
            simp [rstep, fitsR, d18, d19]
          have hfin : Hid (rres (l.map Ins.op) = (none, (k : Int))) := by
            show _ = _
            rw [← HR.out, rgo_none l k p HPP.out _ (by rw [HX.out]; exact hst'.out), HMK.out]
          clear hp
          go_wp2_with fail
          go_ret2
          exact ⟨_, by rw [hfin.out]; rfl, by rw [hfin.out]; rfl, hbel1⟩
        by_cases c22 : x = 22
        · subst c22
          by_cases d21 : top = 21
          · subst d21
            have hst' : Hid (rstep (m, (tp, 21) :: st) 22 = some (((m ++ [-1]).set tp k).set k tp, st)) := by
              show _ = _
              simp [rstep, fitsR, HMK.out]
            have hmres := HR.out
            rw [rgo_some l k p HPP.out _ _ (by rw [HX.out]; exact hst'.out)] at hmres
            have HR' := Lib.hid hmres
            clear hmres hp
            have v2 := (HOM.out.cellAt tp (by omega)).trans (mCells_get (m ++ [-1]) n tp (by simp [HMK.out]; omega))
            have v3 := HOM.out.frozenAt tp
            obtain ⟨hm3, hs3⟩ := rs_m HOM.out HOS.out tp (.int .i64 k)
            rw [mCells_set _ n tp k (by simp [HMK.out]; omega)] at hm3
            have hb3 : Below w.heap.size w ((wr.setCell ⟨w.heap.size, k, none⟩ (.int .i64 (-1))).setCell ⟨w.heap.size, tp, none⟩ (.int .i64 k)) := Bset hbel1 (Nat.le_refl _) _
            generalize (m ++ [-1]).getD tp 0 = old at v2
            have HM3 := Lib.hid hm3
            have HS3 := Lib.hid hs3
            clear hm3 hs3
            have u2 := (HM3.out.cellAt k (by omega)).trans (mCells_get ((m ++ [-1]).set tp k) n k (by simp [HMK.out]))
            have u3 := HM3.out.frozenAt k
            generalize ((m ++ [-1]).set tp (k : Int)).getD k 0 = old2 at u2
            have hfin3 := rs_m HM3.out HS3.out k (.int .i64 tp)
            rw [mCells_set _ n k tp (by simp [HMK.out])] at hfin3
            have HF3 := Lib.hid hfin3
            clear hfin3
            go_wp2_with fail
            have hpop := own_cut HF3.out.2 (show st.length ≤ st.length + 1 by omega)
            rw [Nat.mul_one, rs_pop] at hpop
            exact ⟨⟨k + 1, _, st, _, c, by omega, by simp [HMK.out], by go_num, rfl, HR'.out, HF3.out.1, hpop, Bset hb3 (Nat.le_refl _) _, fun t ht => (HST.out t (List.mem_cons_of_mem _ ht)).up, by omega⟩, by (simp [intOf]) <;> omega⟩
          have dd21 : (top == 21) = false := bne_of d21
          by_cases d13 : top = 13
          · subst d13
            clear dd21 d21
            have hst' : Hid (rstep (m, ((tp, 13) :: st)) 22 = none) := by
              show _ = _
              simp [rstep, fitsR]
            have hfin : Hid (rres (l.map Ins.op) = (none, (k : Int))) := by
              show _ = _
              rw [← HR.out, rgo_none l k p HPP.out _ (by rw [HX.out]; exact hst'.out), HMK.out]
            clear hp
            go_wp2_with fail
            go_ret2
            exact ⟨_, by rw [hfin.out]; rfl, by rw [hfin.out]; rfl, hbel1⟩
          have dd13 : (top == 13) = false := bne_of d13
          have hst' : Hid (rstep (m, ((tp, top) :: st)) 22 = none) := by
            show _ = _
            simp [rstep, fitsR, d21]
          have hfin : Hid (rres (l.map Ins.op) = (none, (k : Int))) := by
            show _ = _
            rw [← HR.out, rgo_none l k p HPP.out _ (by rw [HX.out]; exact hst'.out), HMK.out]
          clear hp
          go_wp2_with fail
          go_ret2
          exact ⟨_, by rw [hfin.out]; rfl, by rw [hfin.out]; rfl, hbel1⟩
        by_cases c14 : x = 14
        · subst c14
          by_cases d13 : top = 13
          · subst d13
            have hst' : Hid (rstep (m, (tp, 13) :: st) 14 = some (((m ++ [-1]).set tp k).set k tp, st)) := by
              show _ = _
              simp [rstep, fitsR, HMK.out]
            have hmres := HR.out
            rw [rgo_some l k p HPP.out _ _ (by rw [HX.out]; exact hst'.out)] at hmres
            have HR' := Lib.hid hmres
            clear hmres hp
            have v2 := (HOM.out.cellAt tp (by omega)).trans (mCells_get (m ++ [-1]) n tp (by simp [HMK.out]; omega))
            have v3 := HOM.out.frozenAt tp
            obtain ⟨hm3, hs3⟩ := rs_m HOM.out HOS.out tp (.int .i64 k)
            rw [mCells_set _ n tp k (by simp [HMK.out]; omega)] at hm3
            have hb3 : Below w.heap.size w ((wr.setCell ⟨w.heap.size, k, none⟩ (.int .i64 (-1))).setCell ⟨w.heap.size, tp, none⟩ (.int .i64 k)) := Bset hbel1 (Nat.le_refl _) _
            generalize (m ++ [-1]).getD tp 0 = old at v2
            have HM3 := Lib.hid hm3
            have HS3 := Lib.hid hs3
            clear hm3 hs3
            have u2 := (HM3.out.cellAt k (by omega)).trans (mCells_get ((m ++ [-1]).set tp k) n k (by simp [HMK.out]))
            have u3 := HM3.out.frozenAt k
            generalize ((m ++ [-1]).set tp (k : Int)).getD k 0 = old2 at u2
            have hfin3 := rs_m HM3.out HS3.out k (.int .i64 tp)
            rw [mCells_set _ n k tp (by simp [HMK.out])] at hfin3
            have HF3 := Lib.hid hfin3
            clear hfin3
            go_wp2_with fail
            have hpop := own_cut HF3.out.2 (show st.length ≤ st.length + 1 by omega)
            rw [Nat.mul_one, rs_pop] at hpop
            exact ⟨⟨k + 1, _, st, _, c, by omega, by simp [HMK.out], by go_num, rfl, HR'.out, HF3.out.1, hpop, Bset hb3 (Nat.le_refl _) _, fun t ht => (HST.out t (List.mem_cons_of_mem _ ht)).up, by omega⟩, by (simp [intOf]) <;> omega⟩
          have dd13 : (top == 13) = false := bne_of d13
          by_cases d21 : top = 21
          · subst d21
            clear dd13 d13
            have hst' : Hid (rstep (m, ((tp, 21) :: st)) 14 = none) := by
              show _ = _
              simp [rstep, fitsR]
            have hfin : Hid (rres (l.map Ins.op) = (none, (k : Int))) := by
              show _ = _
              rw [← HR.out, rgo_none l k p HPP.out _ (by rw [HX.out]; exact hst'.out), HMK.out]
            clear hp
            go_wp2_with fail
            go_ret2
            exact ⟨_, by rw [hfin.out]; rfl, by rw [hfin.out]; rfl, hbel1⟩
          have dd21 : (top == 21) = false := bne_of d21
          have hst' : Hid (rstep (m, ((tp, top) :: st)) 14 = none) := by
            show _ = _
            simp [rstep, fitsR, d13]
          have hfin : Hid (rres (l.map Ins.op) = (none, (k : Int))) := by
            show _ = _
            rw [← HR.out, rgo_none l k p HPP.out _ (by rw [HX.out]; exact hst'.out), HMK.out]
          clear hp
          go_wp2_with fail
          go_ret2
          exact ⟨_, by rw [hfin.out]; rfl, by rw [hfin.out]; rfl, hbel1⟩
        have hst' : Hid (rstep (m, ((tp, top) :: st)) x = some (m ++ [-1], ((tp, top) :: st))) := by
          show _ = _
          simp only [rstep]; rw [if_neg c0, if_neg (by omega)]
        have hmres := HR.out
        rw [rgo_some l k p HPP.out _ _ (by rw [HX.out]; exact hst'.out)] at hmres
        have HR' := Lib.hid hmres
        have t1 : (x == 18) = false := bne_of (by omega)
        have t2 : (x == 21) = false := bne_of (by omega)
        have t3 : (x == 13) = false := bne_of (by omega)
        have t4 : (x == 19) = false := bne_of c19
        have t5 : (x == 20) = false := bne_of c20
        have t6 : (x == 22) = false := bne_of c22
        have t7 : (x == 14) = false := bne_of c14
        clear hmres hp c0 c19 c20 c22 c14
        go_wp2_with fail
        exact ⟨⟨k + 1, m ++ [-1], ((tp, top) :: st), _, c, by omega, by simp [HMK.out], by go_num, rfl, HR'.out, HOM.out, HOS.out, hbel1, fun t ht => (HST.out t ht).up, by (try simp) <;> omega⟩, by (simp [intOf]) <;> omega⟩
    · have hkn : k = n := by omega
      have hrr : rend (m, st) = rres (l.map Ins.op) := by
        rw [← hres, List.drop_of_length_le (by rw [HN.out]; omega)]; rfl
      have HRR := Lib.hid hrr
      have HMK := Lib.hid hmk
      have HKN := Lib.hid hkn
      clear hres hmk hrr
      have HST := Lib.hid hst
      clear hst
      cases st with
      | nil =>
        have hom2 : Hid (wr.ownsRow w.heap.size 3 1 (.slice (some ⟨w.heap.size, 0, none⟩) n n) m.length (m.map (Value.int .i64))) := by
          have h1 : m.length = n := by rw [HMK.out, HKN.out]
          rw [← mCells_full, h1]; exact hom
        clear hom hos hkn
        go_wp2_with fail
        go_ret2
        exact ⟨_, by rw [← HRR.out]; rfl, by rw [← HRR.out]; exact hom2.out, hbel⟩
      | cons t st =>
        obtain ⟨g, rfl⟩ : ∃ g, B = some ⟨g, 0, none⟩ := by
          rcases hos.2 with ⟨h, _⟩ | ⟨g, cap, cur, h, _⟩
          · simp at h
          · simp only [Value.slice.injEq] at h; exact ⟨g, h.1⟩
        have z0 := (hos.cellAt st.length (by simp only [List.length_cons]; omega)).trans (rs_top t st)
        obtain ⟨e0, e2⟩ := HST.out t (by simp)
        obtain ⟨tp, top⟩ := t
        dsimp only at e0 e2 z0
        obtain ⟨pt, hpt⟩ : ∃ pt, l[tp]? = some pt := ⟨_, List.getElem?_eq_getElem (by rw [HN.out]; omega)⟩
        have e2' : pt.op = top := by rw [← e2 ⟨0, 0, 0, 0, 0⟩]; simp [List.getD, hpt]
        obtain ⟨b, off, rfl, hb', o1, oo1, oo2, oo3, oo4⟩ := HU.out tp pt hpt
        rw [e2'] at o1
        have o2 := (hbel.cell hb').trans o1
        have HOM := Lib.hid hom
        simp only [List.length_cons] at hstk ⊢
        have htn : tp < n := by omega
        clear hom hos oo1 oo2 oo3 oo4 e2 e2' hpt o1 hkn
        by_cases d19 : top = 19
        · subst d19
          go_wp2_with fail
          go_loop [11] (fun i => ∃ q : Nat, q ≤ tp ∧ i = .int .i64 q ∧ ffR m tp (tp - q) q = ffR m tp tp 0) (fun i => tp - (intOf i).toNat)
          case atStart => exact ⟨0, by omega, rfl, rfl⟩
          case round =>
            obtain ⟨q, hq, rfl, hff⟩ := hrel
            have HFF := Lib.hid hff
            clear hff
            by_cases hqt : q < tp
            · have v0 := (HOM.out.cellAt q (by omega)).trans (mCells_get m n q (by rw [HMK.out]; omega))
              have hs : Hid (ffR m tp (tp - q) q = if m.getD q 0 = tp then q else ffR m tp (tp - (q + 1)) (q + 1)) := by
                show _ = _
                rw [show tp - q = (tp - (q + 1)) + 1 by omega, ffR]
              obtain ⟨y, hy⟩ : ∃ y, m.getD q 0 = y := ⟨_, rfl⟩
              rw [hy] at v0
              by_cases hyt : y = tp
              · have hfin : Hid (rres (l.map Ins.op) = (none, (q : Int))) := by
                  show _ = _
                  rw [← HRR.out]
                  simp only [rend, if_true]
                  rw [← HFF.out, hs.out, if_pos (by rw [hy, hyt])]
                rw [hyt] at v0
                clear hy hyt
                go_wp2_with fail
                go_ret2
                exact ⟨_, by rw [hfin.out]; rfl, by rw [hfin.out]; rfl, hbel⟩
              · have hnx : Hid (ffR m tp (tp - (q + 1)) (q + 1) = ffR m tp tp 0) := by
                  show _ = _
                  rw [← HFF.out, hs.out, if_neg (by rw [hy]; exact hyt)]
                have hne : (y == (tp : Int)) = false := bne_of hyt
                clear hy hyt
                go_wp2_with fail
                go_round
                case rel => exact ⟨q + 1, by omega, by go_num, hnx.out⟩
                case measure => (simp [intOf]) <;> omega
            · have hfin : Hid (rres (l.map Ins.op) = (none, (tp : Int))) := by
                show _ = _
                rw [← HRR.out]
                simp only [rend, if_true]
                rw [← HFF.out, show tp - q = 0 by omega, ffR]
              go_wp2_with fail
              go_ret2
              exact ⟨_, by rw [hfin.out]; rfl, by rw [hfin.out]; rfl, hbel⟩
        · have hd : (top == 19) = false := bne_of d19
          have hfin : Hid (rres (l.map Ins.op) = (none, (tp : Int))) := by
            show _ = _
            rw [← HRR.out]
            simp only [rend]
            rw [if_neg d19]
          go_wp2_with fail
          go_ret2
          exact ⟨_, by rw [hfin.out]; rfl, by rw [hfin.out]; rfl, hbel⟩
end Go.Proofs.Ytipkaloldlplgaa
