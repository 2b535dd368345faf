/-
  Attempts that were done one behind the other are as they may be in that order: the law.
-/
import Derived.Test.YtnjcebfbfecdeaaSerial
set_option linter.unusedVariables false
namespace Go.Proofs.Ytnjcebfbfecdeaa
open Go.RowKit Go.Maps
/-- The times of the first k are laid anew. -/
def Ser (k : Nat) (rows rows' : List Row) : Prop := rows'.length = rows.length ∧ ∀ (i : Nat) r r', rows[i]? = some r → rows'[i]? = some r' → r'.p = if i < k then { r.p with fr := 4 * (i : Int), un := 4 * (i : Int) + 2 } else r.p
theorem Ser.refl (rows : List Row) : Ser 0 rows rows := ⟨rfl, fun i r r' h h' => by rw [h] at h'; cases h'; simp⟩
theorem Ser.alike {rows rows' : List Row} {k : Nat} (h : Ser k rows rows') : Alike (rows.map Row.p) (rows'.map Row.p) := by
  refine ⟨by simp [h.1], fun i p q hp hq => ?_⟩
  rw [List.getElem?_map] at hp hq
  obtain ⟨r, hr, rfl⟩ := Option.map_eq_some_iff.1 hp
  obtain ⟨r', hr', rfl⟩ := Option.map_eq_some_iff.1 hq
  rw [h.2 i r r' hr hr']
  split <;> exact ⟨rfl, rfl, rfl, rfl, rfl⟩
theorem Ser.serial {rows rows' : List Row} {k : Nat} (h : Ser k rows rows') (hk : rows.length = k) : Serial (rows'.map Row.p) := by
  intro i p hp
  rw [List.getElem?_map] at hp
  obtain ⟨r', hr', rfl⟩ := Option.map_eq_some_iff.1 hp
  have hi : i < rows'.length := (List.getElem?_eq_some_iff.1 hr').1
  rw [h.1] at hi
  obtain ⟨r, hr⟩ : ∃ r, rows[i]? = some r := ⟨_, List.getElem?_eq_getElem hi⟩
  rw [h.2 i r r' hr hr', if_pos (by omega)]
  exact ⟨rfl, rfl⟩
theorem Ser.step {rows rows' : List Row} {k : Nat} {r : Row} (h : Ser k rows rows') (hr : rows'[k]? = some r) (r2 : Row) (h2 : r2.p = { r.p with fr := 4 * (k : Int), un := 4 * (k : Int) + 2 }) (rows2 : List Row) (he : rows2 = rows'.set k r2) : Ser (k + 1) rows rows2 := by
  subst he
  refine ⟨by simp [h.1], fun i q q' hq hq' => ?_⟩
  have hkl : k < rows'.length := (List.getElem?_eq_some_iff.1 hr).1
  by_cases e : i = k
  · subst e
    rw [List.getElem?_set_self hkl] at hq'
    cases hq'
    have h3 := h.2 i q r hq hr
    rw [if_neg (by omega)] at h3
    rw [h2, h3, if_pos (by omega)]
  · rw [List.getElem?_set_ne (fun e' => e e'.symm)] at hq'
    rw [h.2 i q q' hq hq']
    by_cases e2 : i < k
    · rw [if_pos e2, if_pos (by omega)]
    · rw [if_neg e2, if_neg (by omega)]
set_option maxRecDepth 100000 in
set_option maxHeartbeats 6400000 in
theorem law_serial (s0 s1 s2 : Int) (u : Value) (n : Nat) (ms : Nat → Nat) (w : World) (hu : TrysAt w u n ms) :
    Calls Try.prog 6 #[.agg #[.int .i64 s0, .int .i64 s1, .int .i64 s2], u] w fun e w' => e = .returned (.bool true) ∧ Below w.heap.size w w' := by
  have HU := Lib.hid hu
  obtain ⟨A, cu, hv, hcu, -⟩ := hu
  subst hv
  obtain ⟨a0, e0, l0, m0⟩ := tmod3 s0
  obtain ⟨a1, e1, l1, m1⟩ := tmod3 s1
  obtain ⟨a2, e2, l2, m2⟩ := tmod3 s2
  go_enter Try.func6, Try.ntmps6
  go_wp2_with fail
  refine (few_any _ n 6 ms _ (HU.out.th (Bal (Bre w) _)) (by decide)).mono ?_
  rintro e w1 ⟨b, rfl, hb, rfl⟩
  dsimp only
  cases b with
  | false =>
    go_wp2_with (go_at_call 9; refine (told_any _).mono ?_; rintro e w1 ⟨rfl, hb⟩)
    go_ret
    exact ⟨rfl, Bth (Bal (Bre _) _) hb⟩
  | true =>
    obtain ⟨hn, hms⟩ := hb rfl
    clear hb
    have HMS := Lib.hid hms
    clear hms
    go_wp2_with fail
    obtain ⟨W0, hW0⟩ : ∃ W0, W0 = ((w.alloc (.cells #[.int .i64 s0, .int .i64 s1, .int .i64 s2] 22)).alloc (.cells #[.int .i64 a0, .int .i64 a1, .int .i64 a2] 22)) := ⟨_, rfl⟩
    have hb0 : Below w.heap.size w W0 := by rw [hW0]; exact Bal (Bal (Bre _) _) _
    have hs0 : W0.heap.size = w.heap.size + 1 + 1 := by rw [hW0]; simp
    have y0 : W0.cell? ⟨w.heap.size + 1, 0, none⟩ = some (.int .i64 a0) := by rw [hW0]; go_simp
    have y1 : W0.cell? ⟨w.heap.size + 1, 1, none⟩ = some (.int .i64 a1) := by rw [hW0]; go_simp
    have y2 : W0.cell? ⟨w.heap.size + 1, 2, none⟩ = some (.int .i64 a2) := by rw [hW0]; go_simp
    rw [← hW0]
    clear hW0
    have HS : Hid (IntsAt W0 (.slice (some ⟨w.heap.size + 1, 0, none⟩) 3 3) [a0, a1, a2]) := ints3 (by omega) y0 y1 y2
    have HSW : Hid (∀ x ∈ [a0, a1, a2], wf64 x) := by
      show ∀ x ∈ [a0, a1, a2], wf64 x
      intro x hx
      simp at hx
      rcases hx with rfl | rfl | rfl <;> exact wf_int (by omega)
    clear e0 e1 e2 y0 y1 y2
    refine (attempts_any _ n ms a0 a1 a2 true _ (HU.out.th hb0) (by omega) HMS.out).mono ?_
    rintro e W ⟨v, rows, rfl, hO, hlen, hB, hG⟩
    dsimp only
    have HG := Lib.hid hG
    have HO := Lib.hid hO
    obtain ⟨Av, cv, hvv, hcv⟩ := own_form hO.out
    subst hvv
    rw [hlen] at hcv
    have HO2 : Hid (Outs W W0.heap.size (.slice Av n cv) rows) := by rw [← hlen]; exact hO
    rw [hlen]
    have HL := Lib.hid hlen
    clear hG hO HO hlen HU HMS
    go_wp2_with fail
    go_loopw [7] (fun i wr => ∃ (k : Nat) (rows' : List Row), k ≤ n ∧ i = .int .i64 k ∧ Hid (Outs wr W0.heap.size (.slice Av n cv) rows') ∧ Hid (Ser k rows rows') ∧ Below W0.heap.size W0 wr) (fun i _ => n - (intOf i).toNat)
    case atStart => exact ⟨0, rows, by omega, rfl, HO2, Ser.refl _, hB⟩
    case round =>
      clear HO2 hB
      obtain ⟨k, rows', hk, rfl, HO, HR, hbel⟩ := hrel
      have hln : rows'.length = n := by rw [HR.out.1]; exact HL.out
      by_cases hlt : k < n
      · have hH := HO.out.out
        rw [hln] at hH
        obtain ⟨bb, hvb, hA, hbl, -⟩ := own_at hH k hlt
        obtain rfl := hA _ _ _ rfl
        obtain ⟨r, hr⟩ : ∃ r, rows'[k]? = some r := ⟨_, List.getElem?_eq_getElem (by omega)⟩
        have H1 := HO.out.put hvb k 3 r { r.p with fr := 4 * (k : Int) } (.int .i64 (4 * (k : Int))) hr (by decide) rfl rfl rfl rfl
        have H2 := H1.put hvb k 4 ⟨{ r.p with fr := 4 * (k : Int) }, r.vr, r.vw, r.vs⟩ { r.p with fr := 4 * (k : Int), un := 4 * (k : Int) + 2 } (.int .i64 (4 * (k : Int) + 2)) (by rw [List.getElem?_set_self (by omega)]) (by decide) rfl rfl rfl rfl
        rw [List.set_set] at H2
        have hbase := (hH.lt bb rfl).1
        have HB2 := Lib.hid (Bset (Bset hbel hbase (p := ⟨bb, k * 12 + 3, none⟩) (.int .i64 (4 * (k : Int)))) hbase (p := ⟨bb, k * 12 + 4, none⟩) (.int .i64 (4 * (k : Int) + 2)))
        have HSer := Lib.hid (HR.out.step hr ⟨{ r.p with fr := 4 * (k : Int), un := 4 * (k : Int) + 2 }, r.vr, r.vw, r.vs⟩ rfl _ rfl)
        have H3 := Lib.hid H2
        have f3 := hH.frozenAt (k * 12 + 3)
        have f4 := hH.frozenAt (k * 12 + 4)
        have hg3 := flat_get Row.cells 12 Row.cells_len rows' k r hr 3 (by decide)
        have hg4 := flat_get Row.cells 12 Row.cells_len rows' k r hr 4 (by decide)
        have c3 : wr.cell? ⟨bb, k * 12 + 3, none⟩ = some (.int .i64 r.p.fr) := by rw [hH.cellAt _ (by omega)]; exact hg3
        have c4 : wr.cell? ⟨bb, k * 12 + 4, none⟩ = some (.int .i64 r.p.un) := by rw [hH.cellAt _ (by omega)]; exact hg4
        have k0 : (0 : Int) ≤ (k : Int) := by omega
        have kn : (k : Int) < (n : Int) := by omega
        have kw : wrap64 (4 * (k : Int)) = 4 * (k : Int) := w64_in (by omega)
        have kw2 : wrap64 (4 * (k : Int) + 2) = 4 * (k : Int) + 2 := w64_in (by clear kw; omega)
        clear H1 H2 hH hr hg3 hg4 HO HR hA hvb hln hbel
        go_upto_region 7 with fail
        clear kw kw2
        go_wp2_with fail
        exact ⟨⟨k + 1, _, by omega, by go_num, H3, HSer, HB2.out⟩, by (simp [intOf]) <;> omega⟩
      · obtain rfl : k = n := by omega
        have HAT : Hid (AttsAt wr (.slice Av k cv) (rows'.map Row.p)) := by
          have := HO.out.atts
          exact this
        have hll : (rows'.map Row.p).length = k := by rw [List.length_map]; exact hln
        have hleg : LegalS [a0, a1, a2] (rows'.map Row.p) (idn (rows'.map Row.p).length) (-1) := serial_legal HG.out HR.out.alike
        have htim : TimeS (rows'.map Row.p) (idn (rows'.map Row.p).length) := serial_time (HR.out.serial HL.out)
        have hfin : ∀ p ∈ rows'.map Row.p, Fine p := by
          intro q hq
          obtain ⟨i, hi⟩ := List.getElem?_of_mem hq
          have hil : i < (rows.map Row.p).length := by
            have := (List.getElem?_eq_some_iff.1 hi).1
            rwa [HR.out.alike.1] at this
          exact (HR.out.alike.2 i _ q (List.getElem?_eq_getElem hil) hi).fine (HG.out.fine _ (List.getElem_mem hil))
        obtain ⟨r, hr⟩ := find_is (s := [a0, a1, a2]) (l := rows'.map Row.p) (rows'.map Row.p).length [] (idn (rows'.map Row.p).length) (by simp) ⟨htim, hleg⟩
        have hrl : r.length = k := by rw [(find_right _ _ _ hr).1.1.1]; exact hll
        rw [hll] at hleg htim hr
        have HLEG := Lib.hid hleg
        have HTIM := Lib.hid (timeB_t htim)
        have HFIN := Lib.hid hfin
        have HFR := Lib.hid hr
        have HLL := Lib.hid hll
        clear hleg htim hfin hr hll HO HR hln
        generalize rows'.map Row.p = L at HAT HLEG HTIM HFIN HFR HLL
        have HLL7 : Hid (L.length ≤ 7) := by show _ ≤ _; rw [HLL.out]; omega
        go_wp2_with fail
        refine (order_any _ [] k _ (ints0 wr) (by omega) (by simp)).mono ?_
        rintro e w3 ⟨v3, o, rfl, ho3, hmay, hid3, hb3⟩
        have hid3 := hid3 rfl
        subst hid3
        have HV3 := Lib.hid (ints_own ho3)
        clear ho3 hmay
        dsimp only
        have k3 := Bth hbel hb3
        have HAT3 : Hid (AttsAt w3 (.slice Av k cv) L) := HAT.out.th hb3
        clear HAT hb3
        go_wp2_with fail
        refine (Find_any [a0, a1, a2] L _ _ _ HSW.out HFIN.out (by simp) HLL7.out (HS.out.th k3) HAT3.out).mono ?_
        rintro e w4 ⟨v4, rfl, p1, p2, p3, hb4⟩
        have hv4 := p1 r (by rw [HLL.out]; exact HFR.out)
        have hsome : (findF [a0, a1, a2] L L.length []).isSome = true := by rw [HLL.out, HFR.out]; rfl
        rw [hsome]
        obtain ⟨Ax, cx, hvx, -⟩ := hv4
        subst hvx
        rw [hrl]
        clear p1 p2 p3 hsome HFR hrl
        dsimp only
        have k4 := Bth k3 hb4
        have HAT4 : Hid (AttsAt w4 (.slice Av k cv) L) := HAT3.out.th hb4
        have HV4 : Hid (IntsAt w4 v3 (idn k)) := HV3.out.th hb4
        clear HAT3 HV3 hb4 k3
        go_wp2_with fail
        refine (told_any _).mono ?_
        rintro e w5 ⟨rfl, hb5⟩
        dsimp only
        have k5 := Bth k4 hb5
        have HAT5 : Hid (AttsAt w5 (.slice Av k cv) L) := HAT4.out.th hb5
        have HV5 : Hid (IntsAt w5 v3 (idn k)) := HV4.out.th hb5
        clear HAT4 HV4 hb5 k4
        go_wp2_with fail
        refine (Legal_any _ _ _ [a0, a1, a2] L (idn k) _ (HS.out.th k5) HAT5.out HV5.out HSW.out HFIN.out (by have := HLL7.out; omega) (by simp)).mono ?_
        rintro e w6 ⟨r6, rfl, hr6, hb6⟩
        obtain rfl := hr6.unique HLEG.out
        clear hr6
        dsimp only
        have k6 := Bth k5 hb6
        have HAT6 : Hid (AttsAt w6 (.slice Av k cv) L) := HAT5.out.th hb6
        have HV6 : Hid (IntsAt w6 v3 (idn k)) := HV5.out.th hb6
        clear HAT5 HV5 hb6 k5
        go_wp2_with fail
        refine (timely_any _ _ L (idn k) _ (by have := HLL7.out; omega) HAT6.out HV6.out).mono ?_
        rintro e w7 ⟨rfl, hb7⟩
        rw [HTIM.out]
        dsimp only
        have k7 := Bth k6 hb7
        clear HAT6 HV6 hb7 k6
        go_wp2_with fail
        go_ret
        exact ⟨rfl, Bth hb0 k7⟩
end Go.Proofs.Ytnjcebfbfecdeaa
