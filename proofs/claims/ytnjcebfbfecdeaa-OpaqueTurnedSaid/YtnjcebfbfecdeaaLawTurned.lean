/-
  One read turned to what never stood there is told, in whatever order: the law.
-/
import Derived.Test.YtnjcebfbfecdeaaTurned
import Derived.Deep.RegionHeld3
set_option linter.unusedVariables false
namespace Go.Proofs.Ytnjcebfbfecdeaa
open Go.RowKit Go.Maps
set_option maxRecDepth 100000 in
set_option maxHeartbeats 6400000 in
theorem law_turned (s0 s1 s2 : Int) (u : Value) (n : Nat) (ms : Nat → Nat) (x : Value) (xs : List Int) (which : Int) (w : World) (hu : TrysAt w u n ms) (hx : IntsAt w x xs) :
    Calls Try.prog 7 #[.agg #[.int .i64 s0, .int .i64 s1, .int .i64 s2], u, x, .int .i64 which] w fun e w' => e = .returned (.bool true) ∧ Below w.heap.size w w' := by
  have HU := Lib.hid hu
  have HX := Lib.hid hx
  obtain ⟨A, cu, hv, hcu, -⟩ := hu
  subst hv
  obtain ⟨Bx, cx, hv, hcx, -⟩ := hx
  subst hv
  obtain ⟨a0, e0, l0, m0⟩ := tmod3 s0
  obtain ⟨a1, e1, l1, m1⟩ := tmod3 s1
  obtain ⟨a2, e2, l2, m2⟩ := tmod3 s2
  obtain ⟨ia, hia, az0, az1, az2⟩ := info_parts info49
  go_enter Try.func7, Try.ntmps7
  go_wp2_with fail
  refine (few_any _ n 6 ms _ (HU.out.th (Bal (Bre w) _)) (by decide)).mono ?_
  rintro e w1 ⟨b, rfl, hb, rfl⟩
  dsimp only
  cases b with
  | false =>
    go_wp2_with (go_at_call 9; refine (told_any _).mono ?_; rintro e w1 ⟨rfl, hb⟩)
    go_ret
    exact ⟨rfl, Bth (Bal (Bre _) _) hb⟩
  | true =>
    obtain ⟨hn, hms⟩ := hb rfl
    clear hb
    have HMS := Lib.hid hms
    clear hms
    by_cases hxl : 10 < xs.length
    · go_wp2_with (go_at_call 9; refine (told_any _).mono ?_; rintro e w1 ⟨rfl, hb⟩)
      go_ret
      exact ⟨rfl, Bth (Bal (Bre _) _) hb⟩
    go_wp2_with fail
    obtain ⟨W0, hW0⟩ : ∃ W0, W0 = ((w.alloc (.cells #[.int .i64 s0, .int .i64 s1, .int .i64 s2] 22)).alloc (.cells #[.int .i64 a0, .int .i64 a1, .int .i64 a2] 22)) := ⟨_, rfl⟩
    have hb0 : Below w.heap.size w W0 := by rw [hW0]; exact Bal (Bal (Bre _) _) _
    have hs0 : W0.heap.size = w.heap.size + 1 + 1 := by rw [hW0]; simp
    have y0 : W0.cell? ⟨w.heap.size + 1, 0, none⟩ = some (.int .i64 a0) := by rw [hW0]; go_simp
    have y1 : W0.cell? ⟨w.heap.size + 1, 1, none⟩ = some (.int .i64 a1) := by rw [hW0]; go_simp
    have y2 : W0.cell? ⟨w.heap.size + 1, 2, none⟩ = some (.int .i64 a2) := by rw [hW0]; go_simp
    rw [← hW0]
    clear hW0
    have HS : Hid (IntsAt W0 (.slice (some ⟨w.heap.size + 1, 0, none⟩) 3 3) [a0, a1, a2]) := ints3 (by omega) y0 y1 y2
    have HSW : Hid (∀ x ∈ [a0, a1, a2], wf64 x) := by
      show ∀ x ∈ [a0, a1, a2], wf64 x
      intro x hx
      simp at hx
      rcases hx with rfl | rfl | rfl <;> exact wf_int (by omega)
    clear e0 e1 e2 y0 y1 y2
    refine (attempts_any _ n ms a0 a1 a2 true _ (HU.out.th hb0) (by omega) HMS.out).mono ?_
    rintro e W ⟨v, rows, rfl, hO, hlen, hB, hG⟩
    dsimp only
    have HG := Lib.hid hG
    obtain ⟨Av, cv, hvv, hcv⟩ := own_form hO.out
    subst hvv
    rw [hlen] at hcv
    have HO : Hid (Outs W W0.heap.size (.slice Av n cv) rows) := by rw [← hlen]; exact hO
    rw [hlen]
    have HL := Lib.hid hlen
    have hR6 : Hid (∀ r ∈ rows, r.p.reads.length ≤ 6) := by
      show ∀ r ∈ rows, _
      intro r hr
      obtain ⟨i, hi⟩ := List.getElem?_of_mem hr
      obtain ⟨k, hk, hP⟩ := (hG i r.p (by rw [List.getElem?_map, hi]; rfl)).k
      have := hP.n1
      omega
    clear hG hO hlen HU HMS
    go_wp2_with fail
    go_loopw [11, 12] (fun v i wr => ∃ (k : Nat) (ats : List (Nat × Nat)), k ≤ n ∧ i = .int .i64 k ∧ wr.ownsRow W.heap.size 49 2 v ats.length (ats.flatMap atC) ∧ Hid (AtOk rows ats) ∧ ats.length ≤ k * 6 ∧ Below W.heap.size W wr) (fun _ i _ => n - (intOf i).toNat)
    case atStart => exact ⟨0, [], by omega, rfl, World.ownsRow_nil _ _ _ _, by show ∀ q ∈ _, _; simp, by simp, Bre _⟩
    case round =>
      obtain ⟨k, ats, hk, rfl, hown0, hok0, hlen0, hbel0⟩ := hrel
      by_cases hlt : k < n
      · have hH := HO.out.out
        rw [HL.out] at hH
        obtain ⟨bb, hvb, hA, hbls, -⟩ := own_at hH k hlt
        obtain rfl := hA _ _ _ rfl
        obtain ⟨r, hr⟩ : ∃ r, rows[k]? = some r := ⟨_, List.getElem?_eq_getElem (by rw [HL.out]; exact hlt)⟩
        have hg8 := flat_get Row.cells 12 Row.cells_len rows k r hr 8 (by decide)
        have c8 : W.cell? ⟨bb, k * 12 + 8, none⟩ = some r.vr := by rw [hH.cellAt _ (by omega)]; exact hg8
        obtain ⟨Ar, cr, hvr, hcr⟩ := own_form (HO.out.each r (List.mem_of_getElem? hr)).1
        rw [hvr] at c8
        have hr6 := hR6.out r (List.mem_of_getElem? hr)
        have HR := Lib.hid hr
        have k0 : (0 : Int) ≤ (k : Int) := by omega
        have kn : (k : Int) < (n : Int) := by omega
        have C8 := Lib.hid c8
        have hbls2 : bb < wr.heap.size := Nat.lt_of_lt_of_le hbls hbel0.size
        clear hH hr hg8 hA hvb c8 hvr hbls2
        go_wp2_with fail
        obtain ⟨v0, hv0⟩ : ∃ v0, v0 = wr := ⟨wr, rfl⟩
        subst hv0
        go_loopw [11, 13] (fun v i wr => ∃ (j : Nat) (ats : List (Nat × Nat)), j ≤ r.p.reads.length ∧ i = .int .i64 j ∧ wr.ownsRow W.heap.size 49 2 v ats.length (ats.flatMap atC) ∧ Hid (AtOk rows ats) ∧ ats.length ≤ k * 6 + j ∧ Below W.heap.size W wr) (fun _ i _ => r.p.reads.length - (intOf i).toNat)
        case atStart => exact ⟨0, ats, by omega, rfl, hown0, hok0, by omega, hbel0⟩
        case round =>
          clear hown0 hok0 hlen0 hbel0 ats
          obtain ⟨j, ats, hj, rfl, hown, hok, hlen, hbel⟩ := hrel
          have c8 := (hbel.cell (p := ⟨bb, k * 12 + 8, none⟩) hbls).trans C8.out
          by_cases hjl : j < r.p.reads.length
          · have hsz := hbel.size
            have hok' : Hid (AtOk rows (ats ++ [(k, j)])) := hok.out.snoc HR.out hjl
            have hlen' : (ats ++ [(k, j)]).length = ats.length + 1 := by simp
            have hfl : Hid ((ats ++ [(k, j)]).flatMap atC = ats.flatMap atC ++ atC (k, j)) := by show _ = _; simp
            go_wp2_with (at_builtin; refine wpList_append_lies _ rfl (.tmp 55) (.tmp 59) 48 rfl W.heap.size 49 ia _ 2 16 Try.underlying48 hia az0 az1 az2 rfl (Nat.succ_pos _) u11 ats.length (ats.flatMap atC) rfl (hown.alloc _) ⟨wr.heap.size, 0, none⟩ 1 1 (atC (k, j)) rfl rfl (World.news_of_block (heap_alloc_new wr _)) (by simp [Value.oneCell', atC]) (Nat.succ_pos _) (by unfold maxLen; omega) (by omega) (by simp; omega) (wr.heap.size + 1) (by simp) ?_; intro g1 c3 w1 hown1 hgrow hat hg1)
            exact ⟨⟨j + 1, ats ++ [(k, j)], by omega, by go_num, by rw [hlen', hfl.out]; exact hown1, hok', by omega, (Bal hbel _).grown hgrow (Bal hbel _).size (fun g hg => (hown.lt g hg).1)⟩, by (simp [intOf]) <;> omega⟩
          · go_wp2_with fail
            exact ⟨⟨k + 1, ats, by omega, by go_num, hown, hok, by omega, hbel⟩, by (simp [intOf]) <;> omega⟩
      · obtain rfl : k = n := by omega
        cases ats with
        | nil =>
          obtain ⟨A', c', hv', -⟩ := own_form hown0
          subst hv'
          clear hown0
          go_wp2_with (go_at_call 9; refine (told_any _).mono ?_; rintro e w1 ⟨rfl, hb⟩)
          go_ret
          exact ⟨rfl, Bth hb0 (Bth hB (Bth hbel0 hb))⟩
        | cons q0 ats0 =>
          have hpos : 0 < (q0 :: ats0).length := by simp
          generalize q0 :: ats0 = ats at hown0 hok0 hlen0 hpos
          obtain ⟨g, ca, hva, hga, hgl⟩ := hown0.form hpos
          subst hva
          obtain ⟨z, hz, d0, d1⟩ := umodN which ats.length ats.length rfl hpos (by omega)
          obtain ⟨q, hq⟩ : ∃ q, ats[z]? = some q := ⟨_, List.getElem?_eq_getElem hz⟩
          obtain ⟨r, y, hr, hy⟩ := hok0.out q (List.mem_of_getElem? hq)
          obtain ⟨i, j⟩ := q
          dsimp only at hr hy
          have hg0 := flat_get atC 2 atC_len ats z (i, j) hq 0 (by decide)
          have hg1 := flat_get atC 2 atC_len ats z (i, j) hq 1 (by decide)
          have c0 : wr.cell? ⟨g, z * 2, none⟩ = some (.int .i64 i) := by rw [hown0.cellAt _ (by omega)]; exact hg0
          have c1 : wr.cell? ⟨g, z * 2 + 1, none⟩ = some (.int .i64 j) := by rw [hown0.cellAt _ (by omega)]; exact hg1
          have zn : (z : Int) < (ats.length : Int) := by omega
          have z0 : (0 : Int) ≤ (z : Int) := by omega
          have hne0 : ((ats.length : Int) == 0) = false := by rw [beq_eq_false_iff_ne]; omega
          go_upto_region 16 with fail
          clear d0 d1 zn z0 hne0 hg0 hg1 c0 c1
          have hH := HO.out.out
          rw [HL.out] at hH
          have hik : i < k := by
            have := (List.getElem?_eq_some_iff.1 hr).1
            rwa [HL.out] at this
          obtain ⟨bb, hvb, hA, hbls, -⟩ := own_at hH i hik
          obtain rfl := hA _ _ _ rfl
          have hg8 := flat_get Row.cells 12 Row.cells_len rows i r hr 8 (by decide)
          have c8 : W.cell? ⟨bb, i * 12 + 8, none⟩ = some r.vr := by rw [hH.cellAt _ (by omega)]; exact hg8
          have hrow := (HO.out.each r (List.mem_of_getElem? hr)).1
          have hjr : j < r.p.reads.length := (List.getElem?_eq_some_iff.1 hy).1
          obtain ⟨gr, cr, hvr, hgrb, hgrl⟩ := hrow.form (by omega)
          rw [hvr] at c8 hrow
          have hcr : r.p.reads.length ≤ cr := by
            obtain ⟨A', c', e, h⟩ := own_form hrow
            simp only [Value.slice.injEq] at e
            omega
          have hgne : gr ≠ bb := by
            have h1 := HO.out.nd
            rw [List.nodup_append] at h1
            intro e
            exact h1.2.2 bb (by simp [ob, Value.ownBlock]) bb (List.mem_flatMap.2 ⟨r, List.mem_of_getElem? hr, by simp [Row.bl, mem_ob, hvr, Value.ownBlock, e]⟩) rfl
          have hfw := hrow.frozenAt (j * 2 + 1)
          have hcw : W.cell? ⟨gr, j * 2 + 1, none⟩ = some (.int .i64 y.val) := by
            rw [hrow.cellAt _ (by omega)]
            exact flat_get wdC 2 wdC_len r.p.reads j y hy 1 (by decide)
          obtain ⟨W6, hW6⟩ : ∃ W6, W6 = wr.alloc (.cells #[.int .i64 i, .int .i64 j] 49) := ⟨_, rfl⟩
          have hb6 : Below W.heap.size W W6 := by rw [hW6]; exact Bal hbel0 _
          have q0 : W6.cell? ⟨wr.heap.size, 0, none⟩ = some (.int .i64 i) := by rw [hW6]; go_simp
          have q1 : W6.cell? ⟨wr.heap.size, 1, none⟩ = some (.int .i64 j) := by rw [hW6]; go_simp
          have hwW := hbel0.size
          have hn2 : gr ≠ wr.heap.size := by omega
          rw [← hW6]
          clear hW6
          have q8 := (hb6.cell (p := ⟨bb, i * 12 + 8, none⟩) hbls).trans c8
          have qw := (hb6.cell (p := ⟨gr, j * 2 + 1, none⟩) hgrl).trans hcw
          have qf := (hb6.frozen (p := ⟨gr, j * 2 + 1, none⟩) hgrl).trans hfw
          have gl6 : gr < W6.heap.size := Nat.lt_of_lt_of_le hgrl hb6.size
          have i0 : (0 : Int) ≤ (i : Int) := by omega
          have ik : (i : Int) < (k : Int) := by omega
          have j0 : (0 : Int) ≤ (j : Int) := by omega
          have jr : (j : Int) < (r.p.reads.length : Int) := by omega
          have HO7 := Lib.hid ((HO.out.th hb6).rd i j r y 77 hr hy (by rw [hvr]; rfl))
          have HY := Lib.hid hy
          have HRR := Lib.hid hr
          have hx1 := World.new_ne _ _ q0
          have hx2 := World.new_ne _ _ q1
          have hx8 := World.new_ne _ _ q8
          clear hH hg8 c8 hrow hcw hfw hA hvb hvr hq hown0 hok0 hy hr hgrl
          go_region_held3 (fun w' => w'.cell? ⟨wr.heap.size, 0, none⟩ = some (.int .i64 i) ∧ w'.cell? ⟨wr.heap.size, 1, none⟩ = some (.int .i64 j) ∧ w'.cell? ⟨bb, i * 12 + 8, none⟩ = some (.slice (some ⟨gr, 0, none⟩) r.p.reads.length cr)) (go_keep) (fail)
          clear q0 q1 q8 qw qf gl6 hx1 hx2 hx8 i0 ik j0 jr hgne hn2
          obtain ⟨W7, hW7⟩ : ∃ W7, W7 = (W6.setCell ⟨gr, j * 2 + 1, none⟩ (.int .i64 77)).drew := ⟨_, rfl⟩
          have HO8 : Hid (Outs W7 W0.heap.size (.slice (some ⟨bb, 0, none⟩) k cv) (rows.set i ⟨{ r.p with reads := r.p.reads.set j ⟨y.pl, 77⟩ }, r.vr, r.vw, r.vs⟩)) := by
            rw [hW7]
            exact HO7.out.same (fun _ _ => rfl)
          have hb7 : Below W0.heap.size W0 W7 := by
            rw [hW7]
            exact Bdrew (Bset (Bth hB hb6) hgrb _)
          have HL7 : Hid ((rows.set i ⟨{ r.p with reads := r.p.reads.set j ⟨y.pl, 77⟩ }, r.vr, r.vw, r.vs⟩).map Row.p = (rows.map Row.p).set i { r.p with reads := r.p.reads.set j ⟨y.pl, 77⟩ }) := List.map_set
          have HAT : Hid (AttsAt W7 (.slice (some ⟨bb, 0, none⟩) k cv) ((rows.map Row.p).set i { r.p with reads := r.p.reads.set j ⟨y.pl, 77⟩ })) := by
            have := HO8.out.atts
            rw [HL7.out] at this
            exact this
          have hri : (rows.map Row.p)[i]? = some r.p := by rw [List.getElem?_map, HRR.out]; rfl
          have hil : i < (rows.map Row.p).length := (List.getElem?_eq_some_iff.1 hri).1
          obtain ⟨kp, hkp, hP⟩ := (HG.out i r.p hri).k
          have hfr := hP.fine hkp
          have HFIN : Hid (∀ p ∈ (rows.map Row.p).set i { r.p with reads := r.p.reads.set j ⟨y.pl, 77⟩ }, Fine p) := by
            show ∀ p ∈ _, Fine p
            intro p hp
            rcases List.mem_or_eq_of_mem_set hp with hp | rfl
            · exact HG.out.fine p hp
            · refine ⟨fun z hz => ?_, hfr.wr, by rw [List.length_set]; exact hfr.l1, hfr.l2, hfr.l3⟩
              rcases List.mem_or_eq_of_mem_set hz with hz | rfl
              · exact hfr.rd z hz
              · exact hfr.rd y (List.mem_of_getElem? HY.out)
          have HNOT : Hid (∀ ord, ¬ LegalS [a0, a1, a2] ((rows.map Row.p).set i { r.p with reads := r.p.reads.set j ⟨y.pl, 77⟩ }) ord (-1)) := by
            show ∀ ord, _
            intro ord
            refine turned_told ⟨l0, m0⟩ ⟨l1, m1⟩ ⟨l2, m2⟩ (fun p hp z hz => ?_) i j { r.p with reads := r.p.reads.set j ⟨y.pl, 77⟩ } ⟨y.pl, 77⟩ (List.getElem?_set_self hil) (List.getElem?_set_self hjr) rfl ord
            rcases List.mem_or_eq_of_mem_set hp with hp | rfl
            · obtain ⟨q, hq⟩ := List.getElem?_of_mem hp
              obtain ⟨kq, _, hQ⟩ := (HG.out q p hq).k
              exact (hQ.wr z hz).2.2
            · exact (hP.wr z hz).2.2
          have HLL : Hid (((rows.map Row.p).set i { r.p with reads := r.p.reads.set j ⟨y.pl, 77⟩ }).length = k) := by show _ = _; rw [List.length_set, List.length_map]; exact HL.out
          rw [← hW7]
          clear hW7 HO8 HO7 HL7 HY HRR hri hil hP hfr hjr
          generalize (rows.map Row.p).set i { r.p with reads := r.p.reads.set j ⟨y.pl, 77⟩ } = L at HAT HFIN HNOT HLL
          have HLL7 : Hid (L.length ≤ 7) := by show _ ≤ _; rw [HLL.out]; omega
          have HX7 : Hid (IntsAt W7 (.slice Bx xs.length cx) xs) := HX.out.th (Bth hb0 hb7)
          have HS7 : Hid (IntsAt W7 (.slice (some ⟨w.heap.size + 1, 0, none⟩) 3 3) [a0, a1, a2]) := HS.out.th hb7
          clear HX HS HO HG hB hb6 hbel0 hwW hgl hga HL hR6
          go_wp2_with fail
          refine (Find_any [a0, a1, a2] L _ _ _ HSW.out HFIN.out (by simp) HLL7.out HS7.out HAT.out).mono ?_
          rintro e w8 ⟨v8, rfl, -, -, -, hb8⟩
          rw [find_not HNOT.out]
          dsimp only [Option.isSome]
          have HX8 : Hid (IntsAt w8 (.slice Bx xs.length cx) xs) := HX7.out.th hb8
          have HS8 : Hid (IntsAt w8 (.slice (some ⟨w.heap.size + 1, 0, none⟩) 3 3) [a0, a1, a2]) := HS7.out.th hb8
          have HAT8 : Hid (AttsAt w8 (.slice (some ⟨bb, 0, none⟩) k cv) L) := HAT.out.th hb8
          have HB8 : Hid (Below w.heap.size w w8) := Bth hb0 (Bth hb7 hb8)
          have hxl2 : xs.length ≤ 1048576 := by omega
          clear HX7 HS7 HAT hb8 hb7 hb0
          go_wp2_with fail
          have HBa := Lib.hid (Bre w8)
          have HBb := Lib.hid (Bdrew (Bre w8))
          go_region_held3 (fun w' => Hid (Below w8.heap.size w8 w')) (assumption) (first
            | (go_at_call 9
               refine (told_any _).mono ?_
               rintro e w9 ⟨rfl, hb9⟩
               have HB9 : Hid (Below w8.heap.size w8 w9) := Bth (Bdrew (Bre w8)) hb9
               dsimp only)
            | (go_at_call 11
               refine (order_any _ xs k _ (HX8.out.th HB9.out) (by omega) hxl2).mono ?_
               rintro e w10 ⟨v10, o, rfl, ho10, hmay, -, hb10⟩
               have HB10 : Hid (Below w8.heap.size w8 w10) := Bth HB9.out hb10
               dsimp only)
            | (go_at_call 14
               refine (Legal_any _ _ _ [a0, a1, a2] L o _ (HS8.out.th HB10.out) (HAT8.out.th HB10.out) (ints_own ho10) HSW.out HFIN.out (by have := HLL7.out; omega) (by simp)).mono ?_
               rintro e w11 ⟨r11, rfl, hr11, hb11⟩
               have HB11 : Hid (Below w8.heap.size w8 w11) := Bth HB10.out hb11
               have hge : 0 ≤ r11 := legal_ge (by rw [HLL.out]; exact hmay) hr11 (HNOT.out o)
               dsimp only))
          go_wp2_with fail
          go_ret
          exact ⟨rfl, Bth HB8.out HB11.out⟩
end Go.Proofs.Ytnjcebfbfecdeaa
