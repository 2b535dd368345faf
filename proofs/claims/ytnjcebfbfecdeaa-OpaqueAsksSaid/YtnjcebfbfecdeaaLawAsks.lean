/-
  Which orders may be, in which each reads what it may, which keep time: the law.
-/
import Derived.Test.YtnjcebfbfecdeaaAsks
set_option linter.unusedVariables false
namespace Go.Proofs.Ytnjcebfbfecdeaa
open Go.RowKit Go.Maps
def Lo (B : Nat) (v : Value) (l : List Row) : Prop := ∀ g ∈ ob v ++ l.flatMap Row.bl, g < B
theorem Lo.set {B : Nat} {v : Value} {l : List Row} (h : Lo B v l) (i : Nat) (r r2 : Row) (hi : l[i]? = some r) (hs : ∀ g ∈ r2.bl, g ∈ r.bl) : Lo B v (l.set i r2) := by
  intro g hg
  rcases List.mem_append.1 hg with hg | hg
  · exact h g (List.mem_append_left _ hg)
  · obtain ⟨q, hq, hg2⟩ := List.mem_flatMap.1 hg
    rcases List.mem_or_eq_of_mem_set hq with hq | rfl
    · exact h g (List.mem_append_right _ (List.mem_flatMap.2 ⟨q, hq, hg2⟩))
    · exact h g (List.mem_append_right _ (List.mem_flatMap.2 ⟨r, List.mem_of_getElem? hi, hs g hg2⟩))
theorem bl_nl (r : Row) (p : Att) : ∀ g ∈ (⟨p, r.vr, r.vw, .slice none 0 0⟩ : Row).bl, g ∈ r.bl := by
  intro g hg
  have : ob (Value.slice none 0 0) = [] := rfl
  simp only [Row.bl, this, List.append_nil, List.mem_append] at hg ⊢
  rcases hg with h | h
  · exact .inl h
  · exact .inr (.inl h)
theorem own_set {w : World} {base e sz n b o : Nat} {v x : Value} {xs : List Value} (h : w.ownsRow base e sz v n xs) (hb : b < base) : (w.setCell ⟨b, o, none⟩ x).ownsRow base e sz v n xs :=
  own_same h (fun g hg => heap_setCell_other w ⟨b, o, none⟩ g x (by have := (h.lt g hg).1; show g ≠ b; omega))
set_option maxRecDepth 100000 in
set_option maxHeartbeats 9600000 in
theorem law_asks (s0 s1 s2 : Int) (u : Value) (n : Nat) (ms : Nat → Nat) (x : Value) (xs : List Int) (right raw : Bool) (sv : Int) (w : World) (hu : TrysAt w u n ms) (hx : IntsAt w x xs) :
    Calls Try.prog 3 #[.agg #[.int .i64 s0, .int .i64 s1, .int .i64 s2], u, x, .bool right, .bool raw, .int .i64 sv] w fun e w' => e = .returned (.bool true) ∧ Below w.heap.size w w' := by
  have HU := Lib.hid hu
  have HX := Lib.hid hx
  obtain ⟨A, cu, hv, hcu, -⟩ := hu
  subst hv
  obtain ⟨Bx, cx, hv, hcx, hxc⟩ := hx
  subst hv
  have hxn : Bx = none → xs.length = 0 := fun e => by
    cases xs with
    | nil => rfl
    | cons y xs => obtain ⟨b, off, h, _⟩ := hxc 0 y rfl; rw [e] at h; cases h
  have HXN := Lib.hid hxn
  clear hxn hxc
  obtain ⟨a0, e0, l0, m0⟩ := tmod3 s0
  obtain ⟨a1, e1, l1, m1⟩ := tmod3 s1
  obtain ⟨a2, e2, l2, m2⟩ := tmod3 s2
  obtain ⟨ib, hib, bz0, bz1, bz2⟩ := info_parts info3
  go_enter Try.func3, Try.ntmps3
  go_wp2_with fail
  refine (few_any _ n 8 ms _ (HU.out.th (Bal (Bre w) _)) (by decide)).mono ?_
  rintro e w1 ⟨b, rfl, hb, rfl⟩
  dsimp only
  cases b with
  | false =>
    go_wp2_with (go_at_call 9; refine (told_any _).mono ?_; rintro e w1 ⟨rfl, hb⟩)
    go_ret
    exact ⟨rfl, Bth (Bal (Bre _) _) hb⟩
  | true =>
    obtain ⟨hn, hms⟩ := hb rfl
    clear hb
    have HMS := Lib.hid hms
    clear hms
    by_cases hxl : 10 < xs.length
    · go_wp2_with (go_at_call 9; refine (told_any _).mono ?_; rintro e w1 ⟨rfl, hb⟩)
      go_ret
      exact ⟨rfl, Bth (Bal (Bre _) _) hb⟩
    go_wp2_with fail
    obtain ⟨W0, hW0⟩ : ∃ W0, W0 = ((w.alloc (.cells #[.int .i64 s0, .int .i64 s1, .int .i64 s2] 22)).alloc (.cells #[.int .i64 a0, .int .i64 a1, .int .i64 a2] 22)) := ⟨_, rfl⟩
    have hb0 : Below w.heap.size w W0 := by rw [hW0]; exact Bal (Bal (Bre _) _) _
    have hs0 : W0.heap.size = w.heap.size + 1 + 1 := by rw [hW0]; simp
    have y0 : W0.cell? ⟨w.heap.size + 1, 0, none⟩ = some (.int .i64 a0) := by rw [hW0]; go_simp
    have y1 : W0.cell? ⟨w.heap.size + 1, 1, none⟩ = some (.int .i64 a1) := by rw [hW0]; go_simp
    have y2 : W0.cell? ⟨w.heap.size + 1, 2, none⟩ = some (.int .i64 a2) := by rw [hW0]; go_simp
    rw [← hW0]
    clear hW0
    have HS : Hid (IntsAt W0 (.slice (some ⟨w.heap.size + 1, 0, none⟩) 3 3) [a0, a1, a2]) := ints3 (by omega) y0 y1 y2
    have HSW : Hid (∀ x ∈ [a0, a1, a2], wf64 x) := by
      show ∀ x ∈ [a0, a1, a2], wf64 x
      intro x hx
      simp at hx
      rcases hx with rfl | rfl | rfl <;> exact wf_int (by omega)
    clear e0 e1 e2 y0 y1 y2
    refine (attempts_any _ n ms a0 a1 a2 right _ (HU.out.th hb0) (by omega) HMS.out).mono ?_
    rintro e W ⟨v, rows, rfl, hO, hlen, hB, hG⟩
    dsimp only
    obtain ⟨Av, cv, hvv, hcv⟩ := own_form hO.out
    subst hvv
    rw [hlen] at hcv
    have HO : Hid (Outs W W0.heap.size (.slice Av n cv) rows) := by rw [← hlen]; exact hO
    rw [hlen]
    have HL := Lib.hid hlen
    have HFN : Hid (∀ p ∈ rows.map Row.p, Fine p) := hG.fine
    have HXW : Hid (IntsAt W (.slice Bx xs.length cx) xs) := HX.out.th (Bth hb0 hB)
    clear hG hO hlen HU HMS HX
    go_wp2_with fail
    refine (order_any _ xs n _ HXW.out (by omega) (by omega)).mono ?_
    rintro e w3 ⟨v3, ord0, rfl, ho3, -, -, hb3⟩
    dsimp only
    have HV3 := Lib.hid ho3
    clear ho3
    have HXW3 : Hid (IntsAt w3 (.slice Bx xs.length cx) xs) := HXW.out.th hb3
    have hXN := HXN.out
    go_upto_if 44 with fail
    go_cut [15] from 17 to 113 (fun v w4 => ∃ ord : List Int, Hid (w4.ownsRow W.heap.size 3 1 v ord.length (intCells ord)) ∧ Below w3.heap.size w3 w4)
    case first =>
      cases raw with
      | false =>
        go_wp2_with fail
        go_meet
        exact ⟨ord0, HV3, Bre _⟩
      | true =>
        have hnw : Hid (∀ a, Bx = some a → ∀ j u, (intCells xs)[j]? = some u → (w3.alloc (.cells #[] 3)).cell? (a.add j) = some u) := by
          show ∀ a, _
          rintro a ha j u hu
          rw [intCells, List.getElem?_map] at hu
          obtain ⟨y, hy, rfl⟩ := Option.map_eq_some_iff.1 hu
          obtain ⟨A', c', he, _, hc⟩ := HXW3.out
          simp only [Value.slice.injEq] at he
          obtain ⟨rfl, _, _⟩ := he
          obtain ⟨b, off, he, hb, hcell⟩ := hc j y hy
          rw [ha] at he
          obtain rfl := Option.some.inj he
          rw [Addr.add_lit]
          exact ((Bal (Bre w3) _).cell (p := ⟨b, off + j, none⟩) hb).trans hcell
        go_wp2_with (at_builtin; refine wpList_append_wild rfl (.tmp 45) (.tmp 46) 24 rfl w3.heap.size 3 ib _ 1 8 Try.underlying24 hib bz0 bz1 bz2 rfl (Nat.succ_pos _) (.slice (some ⟨w3.heap.size, 0, none⟩) 0 0) 0 [] rfl (World.ownsRow_lit (base := w3.heap.size) (e := 3) (size := 1) w3 #[] 0 (Nat.le_refl _) (by unfold maxLen; omega) rfl) Bx xs.length cx (intCells xs) rfl hXN (by simp [intCells]) hnw.out (ints_one _) (by unfold maxLen; omega) (by omega) (by simp) ?_; intro v4 w4 hown hgrow)
        go_meet
        have h9 : w4.ownsRow w3.heap.size 3 1 v4 xs.length (intCells xs) := by
          have h8 : w4.ownsRow w3.heap.size 3 1 v4 (0 + xs.length) ([] ++ intCells xs) := hown
          rwa [Nat.zero_add, List.nil_append] at h8
        exact ⟨xs, own_base h9 hb3.size, (Bal (Bre w3) _).grown hgrow (by simp) (fun g hg => by
          have : w3.heap.size = g := by simpa [Value.ownBlock] using hg
          omega)⟩
    case rest =>
      obtain ⟨ord, HOR, hb4⟩ := hcut
      have hbW : Below W.heap.size W wc := Bth hb3 hb4
      have HO4 : Hid (Outs wc W0.heap.size (.slice Av n cv) rows) := HO.out.th hbW
      have hb04 : Below W0.heap.size W0 wc := Bth hB hbW
      have HLo0 : Hid (Lo W.heap.size (.slice Av n cv) rows) := fun g hg => (HO.out.lt g hg).2
      have hcW0 : W0.heap.size ≤ W.heap.size := hB.size
      clear HV3 HXW3 HXW hb3 hb4 HO hB hbW hXN HXN
      obtain ⟨d, hd, d1, d2⟩ := umodI sv 3 3 rfl (by omega) (by omega)
      clear d1
      go_wp2_with fail
      go_loopw [16] (fun i wr => ∃ (k : Nat) (rows' : List Row), k ≤ n ∧ i = .int .i64 k ∧ Hid (Outs wr W0.heap.size (.slice Av n cv) rows') ∧ Hid (rows'.length = n) ∧ Hid (Lo W.heap.size (.slice Av n cv) rows') ∧ Hid (∀ p ∈ rows'.map Row.p, Fine p) ∧ Hid (wr.ownsRow W.heap.size 3 1 u15 ord.length (intCells ord)) ∧ Below W0.heap.size W0 wr) (fun i _ => n - (intOf i).toNat)
      case atStart => exact ⟨0, rows, by omega, rfl, HO4, HL, HLo0, HFN, HOR, hb04⟩
      case round =>
        clear HO4 HOR hb04
        obtain ⟨k, rows', hk, rfl, HOr, hln, HLo, HFr, HRO, hbel⟩ := hrel
        by_cases hlt : k < n
        · by_cases hd0 : d = 0
          · subst hd0
            have hH := HOr.out.out
            rw [hln.out] at hH
            obtain ⟨bb, hvb, hA, hbl, -⟩ := own_at hH k hlt
            obtain rfl := hA _ _ _ rfl
            obtain ⟨r, hr⟩ : ∃ r, rows'[k]? = some r := ⟨_, List.getElem?_eq_getElem (by rw [hln.out]; exact hlt)⟩
            have hlb : ∀ o, o < n * 12 → wr.cell? ⟨bb, o, none⟩ = (rowCells rows')[o]? := fun o ho => hH.cellAt o ho
            have hfz := fun o => hH.frozenAt o
            have hbase := (hH.lt bb rfl).1
            have hloB : bb < W.heap.size := HLo.out bb (List.mem_append_left _ (mem_ob.2 rfl))
            have hrow := HOr.out.each r (List.mem_of_getElem? hr)
            have hfr : Fine r.p := HFr.out r.p (List.mem_map.2 ⟨r, List.mem_of_getElem? hr, rfl⟩)
            obtain ⟨As, cs, hvs, hcs⟩ := own_form hrow.2.2
            have c10 : wr.cell? ⟨bb, k * 12 + 10, none⟩ = some (.slice As r.p.seen.length cs) := by
              rw [hlb _ (by omega), ← hvs]
              exact flat_get Row.cells 12 Row.cells_len rows' k r hr 10 (by decide)
            have c1 : wr.cell? ⟨bb, k * 12 + 1, none⟩ = some (.int .i64 r.p.tr) := by
              rw [hlb _ (by omega)]
              exact flat_get Row.cells 12 Row.cells_len rows' k r hr 1 (by decide)
            have f10 := hfz (k * 12 + 10)
            have f1 := hfz (k * 12 + 1)
            have k0 : (0 : Int) ≤ (k : Int) := by omega
            have kn : (k : Int) < (n : Int) := by omega
            have hrl : k < rows'.length := by rw [hln.out]; exact hlt
            -- the row behind the first store
            have H1 : (0 < r.p.seen.length → ∃ gs, As = some ⟨gs, 0, none⟩ ∧ gs < wr.heap.size ∧ W0.heap.size ≤ gs ∧ gs < W.heap.size ∧ gs ≠ bb ∧ wr.frozen? ⟨gs, 0, none⟩ = false ∧ (∃ y, wr.cell? ⟨gs, 0, none⟩ = some (.int .i64 y)) ∧ Outs (wr.setCell ⟨gs, 0, none⟩ (.int .i64 sv)) W0.heap.size (.slice (some ⟨bb, 0, none⟩) n cv) (rows'.set k ⟨{ r.p with seen := r.p.seen.set 0 sv }, r.vr, r.vw, r.vs⟩)) := by
              intro hpos
              obtain ⟨gs, hgs, hAs, hgl, hcell⟩ := own_at hrow.2.2 0 hpos
              have hAe := hAs _ _ _ hvs
              refine ⟨gs, hAe, hgl, (hrow.2.2.lt gs hgs).1, HLo.out gs (List.mem_append_right _ (List.mem_flatMap.2 ⟨r, List.mem_of_getElem? hr, by simp [Row.bl, mem_ob, hgs]⟩)), ?_, ?_, ?_, HOr.out.sn k 0 r sv hr hpos hgs⟩
              · intro e
                have hnd := HOr.out.nd
                rw [List.nodup_append] at hnd
                exact hnd.2.2 bb (by simp [ob, Value.ownBlock]) gs (List.mem_flatMap.2 ⟨r, List.mem_of_getElem? hr, by simp [Row.bl, mem_ob, hgs]⟩) e.symm
              · have := hrow.2.2
                rw [hvs, hAe] at this
                exact this.frozenAt 0
              · obtain ⟨y, hy⟩ : ∃ y, r.p.seen[0]? = some y := ⟨_, List.getElem?_eq_getElem hpos⟩
                exact ⟨y, by rw [hcell 0 (by omega), intCells, List.getElem?_map, hy]; rfl⟩
            have HH1 := Lib.hid H1
            have HHR := Lib.hid hr
            clear H1 hH hlb hfz hA hrow hr
            by_cases hk1 : k = 1
            · subst hk1
              by_cases hpos : 0 < r.p.seen.length
              · obtain ⟨gs, rfl, hgl, hgb, hgW, hne, fg, ⟨y, cg⟩, hO1⟩ := HH1.out hpos
                have hr1 : (rows'.set 1 ⟨{ r.p with seen := r.p.seen.set 0 sv }, r.vr, r.vw, r.vs⟩)[1]? = some ⟨{ r.p with seen := r.p.seen.set 0 sv }, r.vr, r.vw, r.vs⟩ := List.getElem?_set_self hrl
                have hO2 := hO1.nl hvb 1 _ hr1
                rw [List.set_set] at hO2
                have hO3 := hO2.put hvb 1 1 _ { r.p with seen := [], tr := 0 } (.int .i64 0) (List.getElem?_set_self hrl) (by decide) rfl rfl rfl rfl
                rw [List.set_set] at hO3
                have HO3 := Lib.hid hO3
                have hn3 : Hid ((rows'.set 1 ⟨{ r.p with seen := [], tr := 0 }, r.vr, r.vw, .slice none 0 0⟩).length = n) := by show _ = _; rw [List.length_set]; exact hln.out
                have hl3 : Hid (Lo W.heap.size (.slice (some ⟨bb, 0, none⟩) n cv) (rows'.set 1 ⟨{ r.p with seen := [], tr := 0 }, r.vr, r.vw, .slice none 0 0⟩)) := HLo.out.set 1 r _ HHR.out (bl_nl r _)
                have hf3 : Hid (∀ p ∈ (rows'.set 1 ⟨{ r.p with seen := [], tr := 0 }, r.vr, r.vw, .slice none 0 0⟩).map Row.p, Fine p) := fine_set HFr.out 1 _ (hfr.seen [] (by simp) 0)
                have hro3 : Hid (((((wr.setCell ⟨gs, 0, none⟩ (.int .i64 sv)).setCell ⟨bb, 1 * 12 + 10, none⟩ (.slice none 0 0)).setCell ⟨bb, 1 * 12 + 1, none⟩ (.int .i64 0))).ownsRow W.heap.size 3 1 u15 ord.length (intCells ord)) := own_set (own_set (own_set HRO.out hgW) hloB) hloB
                have hb3 : Hid (Below W0.heap.size W0 (((wr.setCell ⟨gs, 0, none⟩ (.int .i64 sv)).setCell ⟨bb, 1 * 12 + 10, none⟩ (.slice none 0 0)).setCell ⟨bb, 1 * 12 + 1, none⟩ (.int .i64 0))) := Bset (Bset (Bset hbel hgb _) hbase _) hbase _
                have hpi : (0 : Int) < (r.p.seen.length : Int) := by omega
                have hne2 : bb ≠ gs := fun e => hne e.symm
                have hgl2 : bb < wr.heap.size := hbl
                clear hO1 hO2 hO3 HH1 HHR hr1 HOr HRO HLo HFr hbel
                go_wp2_with fail
                exact ⟨⟨2, _, by omega, by go_num, HO3, hn3, hl3, hf3, hro3, hb3.out⟩, by (simp [intOf]) <;> omega⟩
              · have hpi : ¬ (0 : Int) < (r.p.seen.length : Int) := by omega
                have hO2 := HOr.out.nl hvb 1 r HHR.out
                have hO3 := hO2.put hvb 1 1 _ { r.p with seen := [], tr := 0 } (.int .i64 0) (List.getElem?_set_self hrl) (by decide) rfl rfl rfl rfl
                rw [List.set_set] at hO3
                have HO3 := Lib.hid hO3
                have hn3 : Hid ((rows'.set 1 ⟨{ r.p with seen := [], tr := 0 }, r.vr, r.vw, .slice none 0 0⟩).length = n) := by show _ = _; rw [List.length_set]; exact hln.out
                have hl3 : Hid (Lo W.heap.size (.slice (some ⟨bb, 0, none⟩) n cv) (rows'.set 1 ⟨{ r.p with seen := [], tr := 0 }, r.vr, r.vw, .slice none 0 0⟩)) := HLo.out.set 1 r _ HHR.out (bl_nl r _)
                have hf3 : Hid (∀ p ∈ (rows'.set 1 ⟨{ r.p with seen := [], tr := 0 }, r.vr, r.vw, .slice none 0 0⟩).map Row.p, Fine p) := fine_set HFr.out 1 _ (hfr.seen [] (by simp) 0)
                have hro3 : Hid (((wr.setCell ⟨bb, 1 * 12 + 10, none⟩ (.slice none 0 0)).setCell ⟨bb, 1 * 12 + 1, none⟩ (.int .i64 0)).ownsRow W.heap.size 3 1 u15 ord.length (intCells ord)) := own_set (own_set HRO.out hloB) hloB
                have hb3 : Hid (Below W0.heap.size W0 ((wr.setCell ⟨bb, 1 * 12 + 10, none⟩ (.slice none 0 0)).setCell ⟨bb, 1 * 12 + 1, none⟩ (.int .i64 0))) := Bset (Bset hbel hbase _) hbase _
                have hgl2 : bb < wr.heap.size := hbl
                clear hO2 hO3 HH1 HHR HOr HRO HLo HFr hbel
                go_wp2_with fail
                exact ⟨⟨2, _, by omega, by go_num, HO3, hn3, hl3, hf3, hro3, hb3.out⟩, by (simp [intOf]) <;> omega⟩
            · have hkb : ((k : Int) == 1) = false := by rw [beq_eq_false_iff_ne]; omega
              by_cases hpos : 0 < r.p.seen.length
              · obtain ⟨gs, rfl, hgl, hgb, hgW, hne, fg, ⟨y, cg⟩, hO1⟩ := HH1.out hpos
                have HO3 := Lib.hid hO1
                have hn3 : Hid ((rows'.set k ⟨{ r.p with seen := r.p.seen.set 0 sv }, r.vr, r.vw, r.vs⟩).length = n) := by show _ = _; rw [List.length_set]; exact hln.out
                have hl3 : Hid (Lo W.heap.size (.slice (some ⟨bb, 0, none⟩) n cv) (rows'.set k ⟨{ r.p with seen := r.p.seen.set 0 sv }, r.vr, r.vw, r.vs⟩)) := HLo.out.set k r _ HHR.out (fun g hg => hg)
                have hf3 : Hid (∀ p ∈ (rows'.set k ⟨{ r.p with seen := r.p.seen.set 0 sv }, r.vr, r.vw, r.vs⟩).map Row.p, Fine p) := fine_set HFr.out k _ (hfr.seen (r.p.seen.set 0 sv) (by simp) r.p.tr)
                have hro3 : Hid ((wr.setCell ⟨gs, 0, none⟩ (.int .i64 sv)).ownsRow W.heap.size 3 1 u15 ord.length (intCells ord)) := own_set HRO.out hgW
                have hb3 : Hid (Below W0.heap.size W0 (wr.setCell ⟨gs, 0, none⟩ (.int .i64 sv))) := Bset hbel hgb _
                have hpi : (0 : Int) < (r.p.seen.length : Int) := by omega
                have hne2 : bb ≠ gs := fun e => hne e.symm
                clear hO1 HH1 HHR HOr HRO HLo HFr hbel
                go_wp2_with fail
                exact ⟨⟨k + 1, _, by omega, by go_num, HO3, hn3, hl3, hf3, hro3, hb3.out⟩, by (simp [intOf]) <;> omega⟩
              · have hpi : ¬ (0 : Int) < (r.p.seen.length : Int) := by omega
                clear HH1 HHR
                go_wp2_with fail
                exact ⟨⟨k + 1, rows', by omega, by go_num, HOr, hln, HLo, HFr, HRO, hbel⟩, by (simp [intOf]) <;> omega⟩
          · have hd9 : (d == 0) = false := by simpa using hd0
            have HAT : Hid (AttsAt wr (.slice Av n cv) (rows'.map Row.p)) := HOr.out.atts
            have hll : Hid ((rows'.map Row.p).length = n) := by show _ = _; rw [List.length_map]; exact hln.out
            have HIo : Hid (IntsAt wr u15 ord) := ints_own HRO.out
            have HSr : Hid (IntsAt wr (.slice (some ⟨w.heap.size + 1, 0, none⟩) 3 3) [a0, a1, a2]) := HS.out.th hbel
            have HBw : Hid (Below w.heap.size w wr) := Bth hb0 hbel
            clear HOr HRO HLo hln
            generalize rows'.map Row.p = L at HAT hll HFr
            have hL8 : Hid (L.length ≤ 1048576) := by show _ ≤ _; rw [hll.out]; omega
            have hn8 : n ≤ 1048576 := by omega
            have HMB : Hid (mayB L.length ord = mayB n ord) := by show _ = _; rw [hll.out]
            clear hk hbel
            go_wp2_with fail
            clear d2 hd9
            have HBa := Lib.hid (Bre wr)
            have HBb := Lib.hid (Bdrew (Bre wr))
            go_region_held3 (fun w' => Hid (Below wr.heap.size wr w')) (assumption) (first
              | (go_at_call 9
                 refine (told_any _).mono ?_
                 rintro e w9 ⟨rfl, hb9⟩
                 have HB9 : Hid (Below wr.heap.size wr w9) := Bth (Bdrew (Bre wr)) hb9
                 dsimp only)
              | (go_at_call 12
                 refine (may_any _ n _ _ ord _ hn8 (HIo.out.th HB9.out)).mono ?_
                 rintro e w10 ⟨rfl, hb10⟩
                 have HB10 : Hid (Below wr.heap.size wr w10) := Bth HB9.out hb10
                 dsimp only)
              | (go_at_call 13
                 refine (rmay_any _ n _ _ ord _ hn8 (HIo.out.th HB10.out)).mono ?_
                 rintro e w11 ⟨rfl, rfl⟩
                 dsimp only)
              | (go_at_call 14
                 refine (Legal_any _ _ _ [a0, a1, a2] L ord _ (HSr.out.th HB10.out) (HAT.out.th HB10.out) (HIo.out.th HB10.out) HSW.out HFr.out hL8.out (by simp)).mono ?_
                 rintro e w12 ⟨r12, rfl, hr12, hb12⟩
                 have HB12 : Hid (Below wr.heap.size wr w12) := Bth HB10.out hb12
                 have HR12 := Lib.hid hr12
                 clear hr12
                 dsimp only)
              | (go_at_call 15
                 refine (rlegal_any _ _ _ [a0, a1, a2] L ord _ (HSr.out.th HB12.out) (HAT.out.th HB12.out) (HIo.out.th HB12.out) HFr.out hL8.out).mono ?_
                 rintro e w13 ⟨r13, rfl, hr13, hb13⟩
                 have HB13 : Hid (Below wr.heap.size wr w13) := Bth HB12.out hb13
                 obtain rfl : r13 = r12 := hr13.unique HR12.out
                 dsimp only)
              | (go_at_call 16
                 refine (timely_any _ _ L ord _ hL8.out (HAT.out.th HB13.out) (HIo.out.th HB13.out)).mono ?_
                 rintro e w14 ⟨rfl, hb14⟩
                 have HB14 : Hid (Below wr.heap.size wr w14) := Bth HB13.out hb14
                 dsimp only)
              | (go_at_call 17
                 refine (rtimely_any _ _ L ord _ hL8.out (HAT.out.th HB14.out) (HIo.out.th HB14.out)).mono ?_
                 rintro e w15 ⟨rfl, hb15⟩
                 have HB15 : Hid (Below wr.heap.size wr w15) := Bth HB14.out hb15
                 dsimp only))
            go_wp2_with fail
            go_ret
            exact ⟨rfl, Bth HBw.out HB15.out⟩
        · obtain rfl : k = n := by omega
          have HAT : Hid (AttsAt wr (.slice Av k cv) (rows'.map Row.p)) := HOr.out.atts
          have hll : Hid ((rows'.map Row.p).length = k) := by show _ = _; rw [List.length_map]; exact hln.out
          have HIo : Hid (IntsAt wr u15 ord) := ints_own HRO.out
          have HSr : Hid (IntsAt wr (.slice (some ⟨w.heap.size + 1, 0, none⟩) 3 3) [a0, a1, a2]) := HS.out.th hbel
          have HBw : Hid (Below w.heap.size w wr) := Bth hb0 hbel
          clear HOr HRO HLo hln
          generalize rows'.map Row.p = L at HAT hll HFr
          have hL8 : Hid (L.length ≤ 1048576) := by show _ ≤ _; rw [hll.out]; omega
          have hn8 : k ≤ 1048576 := by omega
          have HMB : Hid (mayB L.length ord = mayB k ord) := by show _ = _; rw [hll.out]
          clear d2 hk hbel
          go_wp2_with fail
          have HBa := Lib.hid (Bre wr)
          have HBb := Lib.hid (Bdrew (Bre wr))
          go_region_held3 (fun w' => Hid (Below wr.heap.size wr w')) (assumption) (first
            | (go_at_call 9
               refine (told_any _).mono ?_
               rintro e w9 ⟨rfl, hb9⟩
               have HB9 : Hid (Below wr.heap.size wr w9) := Bth (Bdrew (Bre wr)) hb9
               dsimp only)
            | (go_at_call 12
               refine (may_any _ k _ _ ord _ hn8 (HIo.out.th HB9.out)).mono ?_
               rintro e w10 ⟨rfl, hb10⟩
               have HB10 : Hid (Below wr.heap.size wr w10) := Bth HB9.out hb10
               dsimp only)
            | (go_at_call 13
               refine (rmay_any _ k _ _ ord _ hn8 (HIo.out.th HB10.out)).mono ?_
               rintro e w11 ⟨rfl, rfl⟩
               dsimp only)
            | (go_at_call 14
               refine (Legal_any _ _ _ [a0, a1, a2] L ord _ (HSr.out.th HB10.out) (HAT.out.th HB10.out) (HIo.out.th HB10.out) HSW.out HFr.out hL8.out (by simp)).mono ?_
               rintro e w12 ⟨r12, rfl, hr12, hb12⟩
               have HB12 : Hid (Below wr.heap.size wr w12) := Bth HB10.out hb12
               have HR12 := Lib.hid hr12
               clear hr12
               dsimp only)
            | (go_at_call 15
               refine (rlegal_any _ _ _ [a0, a1, a2] L ord _ (HSr.out.th HB12.out) (HAT.out.th HB12.out) (HIo.out.th HB12.out) HFr.out hL8.out).mono ?_
               rintro e w13 ⟨r13, rfl, hr13, hb13⟩
               have HB13 : Hid (Below wr.heap.size wr w13) := Bth HB12.out hb13
               obtain rfl : r13 = r12 := hr13.unique HR12.out
               dsimp only)
            | (go_at_call 16
               refine (timely_any _ _ L ord _ hL8.out (HAT.out.th HB13.out) (HIo.out.th HB13.out)).mono ?_
               rintro e w14 ⟨rfl, hb14⟩
               have HB14 : Hid (Below wr.heap.size wr w14) := Bth HB13.out hb14
               dsimp only)
            | (go_at_call 17
               refine (rtimely_any _ _ L ord _ hL8.out (HAT.out.th HB14.out) (HIo.out.th HB14.out)).mono ?_
               rintro e w15 ⟨rfl, hb15⟩
               have HB15 : Hid (Below wr.heap.size wr w15) := Bth HB14.out hb15
               dsimp only))
          go_wp2_with fail
          go_ret
          exact ⟨rfl, Bth HBw.out HB15.out⟩
end Go.Proofs.Ytnjcebfbfecdeaa
