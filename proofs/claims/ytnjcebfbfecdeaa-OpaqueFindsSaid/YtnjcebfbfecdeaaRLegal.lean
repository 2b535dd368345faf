/-
  In which order which attempts are as they may be: the reference's function (Legal).
-/
import Derived.Test.YtnjcebfbfecdeaaWild
import Derived.Test.YtnjcebfbfecdeaaRMay
import Derived.Deep.RegionHeld3
import Derived.Deep.CutRange
set_option linter.unusedVariables false
namespace Go.Proofs.Ytnjcebfbfecdeaa
open Go.RowKit Go.Maps
set_option maxRecDepth 100000 in
set_option maxHeartbeats 6400000 in
theorem rlegal_any (us u v : Value) (s : List Int) (l : List Att) (ord : List Int) (w : World) (hs : IntsAt w us s) (hu : AttsAt w u l) (hv : IntsAt w v ord) (hfi : ∀ p ∈ l, Fine p) (h1 : l.length ≤ 1048576) :
    Calls Try.prog 15 #[us, u, v] w fun e w' => ∃ r, e = .returned (.int .i64 r) ∧ LegalS s l ord r ∧ Below w.heap.size w w' := by
  have HU0 := Lib.hid hu
  have HV0 := Lib.hid hv
  have HS := Lib.hid hs
  obtain ⟨A, cu, rfl, hcu, hu⟩ := hu
  obtain ⟨B, co, rfl, hco, hv⟩ := hv
  have HV := Lib.hid hv
  have HU := Lib.hid hu
  have HF := Lib.hid hfi
  clear hv hu hs hfi
  obtain ⟨ia, hia, az0, az1, az2⟩ := info_parts info51
  by_cases hm : MayS l.length ord
  case neg =>
    have hb : mayB l.length ord = false := decide_eq_false hm
    have ht : Hid (LegalS s l ord (-2)) := Or.inl ⟨hm, rfl⟩
    clear hm
    go_enter Try.func15, Try.ntmps15
    go_wp2_with (go_at_call 13; refine (rmay_any _ _ _ _ ord _ h1 HV0.out).mono ?_; rintro e w1 ⟨rfl, rfl⟩)
    go_ret
    exact ⟨_, rfl, ht.out, Bre _⟩
  have hb : mayB l.length ord = true := decide_eq_true hm
  have hlo : ord.length = l.length := hm.1
  have HM := Lib.hid hm
  clear hm
  have hol : ord.length ≤ 1048576 := by omega
  have HLO := Lib.hid hlo
  clear hlo
  go_enter Try.func15, Try.ntmps15
  go_wp2_with (go_at_call 13; refine (rmay_any _ _ _ _ ord _ h1 HV0.out).mono ?_; rintro e w1 ⟨rfl, rfl⟩)
  clear hb
  go_loopw [7, 8] (fun v i wr => ∃ (k : Nat) (log : List Wd), k ≤ ord.length ∧ i = .int .i64 k ∧ Hid (wr.ownsRow w.heap.size 51 2 v log.length (wdCells log)) ∧ Hid (wordsS (startS s) l ord k = putS (startS s) log) ∧ log.length ≤ k * 1048576 ∧ Below w.heap.size w wr ∧ Hid (∀ m, m < k → LegS (wordsS (startS s) l ord m) (l.getD (ord.getD m 0).toNat dA))) (fun _ i _ => ord.length - (intOf i).toNat)
  case atStart => exact ⟨0, [], by omega, rfl, World.ownsRow_nil _ _ _ _, by show _ = _; simp [wordsS, putS], by simp, Bre _, by show ∀ m, _; intro m h; omega⟩
  case round =>
    obtain ⟨k, log, hk, rfl, HL, HWS, hll, hbel, hok⟩ := hrel
    by_cases hlt : k < ord.length
    · obtain ⟨x, hx, hxl⟩ := ord_at HM.out k hlt
      obtain ⟨p, hp⟩ : ∃ p, l[x]? = some p := ⟨_, List.getElem?_eq_getElem hxl⟩
      obtain ⟨b, off, rfl, hbb, o1⟩ := HV.out k _ hx
      obtain ⟨b2, off2, vr, vw, vs, rfl, hb2, hav, hc⟩ := HU.out x p hp
      have HA := Lib.hid (att_at l ord k x p hx hp)
      have HT := Lib.hid (words_step (startS s) l ord k x p hx hp)
      have HR := Lib.hid hav.1
      have HW := Lib.hid hav.2.1
      have HSE := Lib.hid hav.2.2
      obtain ⟨A1, c1, hvr, hc1, -⟩ := hav.1
      obtain ⟨A2, c2, hvw, hc2, -⟩ := hav.2.1
      obtain ⟨A3, c3, hvs, hc3, -⟩ := hav.2.2
      subst hvr hvw hvs
      have HC := Lib.hid hc
      have hfp : Hid (Fine p) := HF.out p (List.mem_of_getElem? hp)
      have o2 := (hbel.cell (p := ⟨b, off + k, none⟩) hbb).trans o1
      have hxi : (x : Int) < l.length := by omega
      have hx0 : (0 : Int) ≤ x := by omega
      clear o1 hx hp hc hav
      have x0 : wr.cell? ⟨b2, off2 + x * 12, none⟩ = some (.int .i64 p.th) := (hbel.cell (p := ⟨b2, off2 + x * 12, none⟩) hb2).trans (HC.out 0 _ rfl)
      have x1 : wr.cell? ⟨b2, off2 + x * 12 + 1, none⟩ = some (.int .i64 p.tr) := (hbel.cell (p := ⟨b2, off2 + x * 12 + 1, none⟩) hb2).trans (HC.out 1 _ rfl)
      have x2 : wr.cell? ⟨b2, off2 + x * 12 + 2, none⟩ = some (.bool p.real) := (hbel.cell (p := ⟨b2, off2 + x * 12 + 2, none⟩) hb2).trans (HC.out 2 _ rfl)
      have x3 : wr.cell? ⟨b2, off2 + x * 12 + 3, none⟩ = some (.int .i64 p.fr) := (hbel.cell (p := ⟨b2, off2 + x * 12 + 3, none⟩) hb2).trans (HC.out 3 _ rfl)
      have x4 : wr.cell? ⟨b2, off2 + x * 12 + 4, none⟩ = some (.int .i64 p.un) := (hbel.cell (p := ⟨b2, off2 + x * 12 + 4, none⟩) hb2).trans (HC.out 4 _ rfl)
      have x5 : wr.cell? ⟨b2, off2 + x * 12 + 5, none⟩ = some (.int .i64 p.en) := (hbel.cell (p := ⟨b2, off2 + x * 12 + 5, none⟩) hb2).trans (HC.out 5 _ rfl)
      have x6 : wr.cell? ⟨b2, off2 + x * 12 + 6, none⟩ = some (.int .i64 p.st) := (hbel.cell (p := ⟨b2, off2 + x * 12 + 6, none⟩) hb2).trans (HC.out 6 _ rfl)
      have x7 : wr.cell? ⟨b2, off2 + x * 12 + 7, none⟩ = some (.int .i64 p.sp) := (hbel.cell (p := ⟨b2, off2 + x * 12 + 7, none⟩) hb2).trans (HC.out 7 _ rfl)
      have x8 : wr.cell? ⟨b2, off2 + x * 12 + 8, none⟩ = some (.slice A1 p.reads.length c1) := (hbel.cell (p := ⟨b2, off2 + x * 12 + 8, none⟩) hb2).trans (HC.out 8 _ rfl)
      have x9 : wr.cell? ⟨b2, off2 + x * 12 + 9, none⟩ = some (.slice A2 p.writes.length c2) := (hbel.cell (p := ⟨b2, off2 + x * 12 + 9, none⟩) hb2).trans (HC.out 9 _ rfl)
      have x10 : wr.cell? ⟨b2, off2 + x * 12 + 10, none⟩ = some (.slice A3 p.seen.length c3) := (hbel.cell (p := ⟨b2, off2 + x * 12 + 10, none⟩) hb2).trans (HC.out 10 _ rfl)
      have x11 : wr.cell? ⟨b2, off2 + x * 12 + 11, none⟩ = some (.slice none 0 0) := (hbel.cell (p := ⟨b2, off2 + x * 12 + 11, none⟩) hb2).trans (HC.out 11 _ rfl)
      go_wp2_with fail
      obtain ⟨W2, hW2⟩ : ∃ W2, W2 = wr.alloc (.cells #[.int .i64 p.th, .int .i64 p.tr, .bool p.real, .int .i64 p.fr, .int .i64 p.un, .int .i64 p.en, .int .i64 p.st, .int .i64 p.sp, .slice A1 p.reads.length c1, .slice A2 p.writes.length c2, .slice A3 p.seen.length c3, .slice none 0 0] 33) := ⟨_, rfl⟩
      have hbW : Below wr.heap.size wr W2 := by rw [hW2]; exact Bal (Bre _) _
      have hsW : wr.heap.size < W2.heap.size := by rw [hW2]; simp
      have y5 : W2.cell? ⟨wr.heap.size, 5, none⟩ = some (.int .i64 p.en) := by rw [hW2]; go_simp
      have y8 : W2.cell? ⟨wr.heap.size, 8, none⟩ = some (.slice A1 p.reads.length c1) := by rw [hW2]; go_simp
      have y9 : W2.cell? ⟨wr.heap.size, 9, none⟩ = some (.slice A2 p.writes.length c2) := by rw [hW2]; go_simp
      have y10 : W2.cell? ⟨wr.heap.size, 10, none⟩ = some (.slice A3 p.seen.length c3) := by rw [hW2]; go_simp
      rw [← hW2]
      have Y5 := Lib.hid y5
      have Y8 := Lib.hid y8
      have Y9 := Lib.hid y9
      have Y10 := Lib.hid y10
      clear hW2 x0 x1 x2 x3 x4 x5 x6 x7 x8 x9 x10 x11 o2 hxi hx0 y5 y8 y9 y10
      obtain ⟨v0, hv0⟩ : ∃ v0, v0 = wr := ⟨wr, rfl⟩
      subst hv0
      have hbw2 : Below w.heap.size w W2 := Bth hbel hbW
      have HL2 : Hid (W2.ownsRow w.heap.size 51 2 u7 log.length (wdCells log)) := own_th HL.out hbW
      obtain ⟨A7, c7, hu7, hc7⟩ := own_form HL.out
      subst hu7
      have HLW : Hid (WdsAt W2 (.slice A7 log.length c7) log) := wds_own HL2.out
      have hl1 := hfp.out.l1
      have hl2 := hfp.out.l2
      have hl3 := hfp.out.l3
      go_loopw [10] (fun i w2 => ∃ j : Nat, j ≤ p.reads.length ∧ i = .int .i64 j ∧ Below W2.heap.size W2 w2 ∧ Hid (∀ m, m < j → legK (wordsS (startS s) l ord k) p m)) (fun i _ => p.reads.length - (intOf i).toNat)
      case atStart => exact ⟨0, by omega, rfl, Bre _, by show ∀ m, _; intro m h; omega⟩
      case round =>
        obtain ⟨j, hj, rfl, hbr, hleg⟩ := hrel
        have t8 := (hbr.cell (p := ⟨v0.heap.size, 8, none⟩) hsW).trans Y8.out
        have t9 := (hbr.cell (p := ⟨v0.heap.size, 9, none⟩) hsW).trans Y9.out
        have t10 := (hbr.cell (p := ⟨v0.heap.size, 10, none⟩) hsW).trans Y10.out
        have hbwr : Below w.heap.size w wr := Bth hbw2 hbr
        by_cases hjl : j < p.reads.length
        · obtain ⟨r, hr⟩ : ∃ r, p.reads[j]? = some r := ⟨_, List.getElem?_eq_getElem hjl⟩
          have HG := Lib.hid (show p.reads.getD j dW = r by simp [List.getD, hr])
          have HRr := Lib.hid hr
          have j0 : (0 : Int) ≤ (j : Int) := by omega
          have jn : (j : Int) < (p.reads.length : Int) := by omega
          clear hr
          go_upto_if 41 with fail
          go_cut [11] from 30 to 75 (fun nv w3 => nv = .int .i64 (seenN p j) ∧ Below wr.heap.size wr w3)
          case first =>
            by_cases hks : j < p.seen.length
            · obtain ⟨y, hy⟩ : ∃ y, p.seen[j]? = some y := ⟨_, List.getElem?_eq_getElem hks⟩
              obtain ⟨A', c', he, _, hse⟩ := HSE.out
              simp only [Value.slice.injEq] at he
              obtain ⟨rfl, -, -⟩ := he
              obtain ⟨b3, o3, rfl, hb3, x3⟩ := hse j y hy
              have y3 := (hbwr.cell (p := ⟨b3, o3 + j, none⟩) hb3).trans x3
              have ks : (j : Int) < p.seen.length := by omega
              have hsn := Lib.hid (seen_is p j y hy)
              clear hy x3 hse
              go_wp2_with fail
              go_region
              all_goals go_wp2_with fail
              all_goals go_meet
              all_goals
                refine ⟨?_, Bdrew (Bre _)⟩
                have hs9 := hsn.out
                show Value.int .i64 _ = Value.int .i64 _
                congr 1
                omega
            · have hsn := Lib.hid (seen_no p j hks)
              go_wp2_with fail
              go_meet
              exact ⟨by rw [hsn.out]; rfl, Bre _⟩
          case rest =>
            obtain ⟨rfl, hb3⟩ := hcut
            have hbc : Below W2.heap.size W2 wc := Bth hbr hb3
            have r8 := (hbc.cell (p := ⟨v0.heap.size, 8, none⟩) hsW).trans Y8.out
            have r9 := (hbc.cell (p := ⟨v0.heap.size, 9, none⟩) hsW).trans Y9.out
            have hbwc : Below w.heap.size w wc := Bth hbw2 hbc
            have hsc : v0.heap.size < wc.heap.size := Nat.lt_of_lt_of_le hsW hbc.size
            have hqle : seenN p j ≤ p.writes.length := by
              unfold seenN; split <;> omega
            have hqc : ((seenN p j : Nat) : Int) ≤ c2 := by omega
            have hq0 : (0 : Int) ≤ ((seenN p j : Nat) : Int) := Int.natCast_nonneg _
            have HLC : Hid (WdsAt wc (.slice A7 log.length c7) log) := HLW.out.th hbc
            have HWC : Hid (WdsAt wc (.slice A2 p.writes.length c2) p.writes) := HW.out.th hbwc
            have hqw : Hid (((seenN p j : Nat) : Int) ≤ p.writes.length) := by show _ ≤ _; omega
            have hlog : log.length ≤ 1099511627776 := by
              have : k * 1048576 ≤ 1048576 * 1048576 := Nat.mul_le_mul_right _ (by omega)
              omega
            have HLEG : Hid (legK (wordsS (startS s) l ord k) p j ↔ r.val = wantS (wordsS (startS s) l ord k) (p.writes.take (seenN p j)) r.pl) := by
              show _ ↔ _
              unfold legK
              rw [HG.out]
            clear t8 t9 t10 hbr hb3 hbwr HG
            generalize hqq : seenN p j = qq at *
            have hql2 := Lib.hid (show (p.writes.take qq).length = qq by rw [List.length_take, Nat.min_eq_left hqle])
            have hN1 := Lib.hid (show (wdCells log).length = log.length * 2 from wd_len log)
            have hN2 := Lib.hid (show (wdCells (p.writes.take qq)).length = qq * 2 by rw [wd_len, hql2.out])
            have hA7 := Lib.hid (show A7 = none → log.length = 0 from wds_none HLC.out)
            have hA2 := Lib.hid (show A2 = none → qq = 0 from fun e => by have := wds_none HWC.out e; omega)
            have hM1 := Lib.hid (show 0 + log.length ≤ maxLen ∧ (0 + log.length) * 16 ≤ 140737488355328 by unfold maxLen; omega)
            have hM2 := Lib.hid (show 0 + log.length + qq ≤ maxLen ∧ (0 + log.length + qq) * 16 ≤ 140737488355328 by unfold maxLen; omega)
            have hD0 := Lib.hid (Bre wc)
            have hD1 := Lib.hid (Bdrew (Bre wc))
            have r9d : wc.drew.cell? ⟨v0.heap.size, 9, none⟩ = some (.slice A2 p.writes.length c2) := r9
            go_upto_region 14 with fail
            go_region_held3 (fun w' => Hid (Below wc.heap.size wc w') ∧ w'.cell? ⟨v0.heap.size, 9, none⟩ = some (.slice A2 p.writes.length c2)) (exact ⟨by assumption, by assumption⟩) (first
              | (refine step_append_wild (by rfl) (.const (.slice none 0 0)) (.tmp 52) 31 (by rfl) wc.heap.size 51 ia _ 2 16 Try.underlying31 hia az0 az1 az2 rfl (Nat.succ_pos _) (.slice none 0 0) 0 [] (by rfl) (World.ownsRow_nil _ _ _ _) A7 log.length c7 (wdCells log) (by rfl) hA7.out hN1.out (fun a ha => by have := wds_news (HLC.out.th (Bdrew (Bre wc))) log.length a ha; rwa [List.take_length] at this) (wd_one _) hM1.out.1 hM1.out.2 (Nat.le_refl _) ?_
                 intro v1 w3 hown1 hgrow1
                 have HB3 : Hid (Below wc.heap.size wc w3) := (Bdrew (Bre wc)).grown hgrow1 (Nat.le_refl _) (fun g hg => by simp [Value.ownBlock] at hg)
                 have r93 : w3.cell? ⟨v0.heap.size, 9, none⟩ = some (.slice A2 p.writes.length c2) := (HB3.out.cell (p := ⟨v0.heap.size, 9, none⟩) hsc).trans r9)
              | (refine step_append_wild (by rfl) (.tmp 53) (.tmp 57) 31 (by rfl) wc.heap.size 51 ia _ 2 16 Try.underlying31 hia az0 az1 az2 rfl (Nat.succ_pos _) v1 (0 + log.length) ([] ++ wdCells log) (by rfl) hown1 A2 qq c2 (wdCells (p.writes.take qq)) (by rfl) hA2.out hN2.out (fun a ha => wds_news (HWC.out.th HB3.out) qq a ha) (wd_one _) hM2.out.1 hM2.out.2 HB3.out.size ?_
                 intro v2 w4 hown2 hgrow2
                 have HB4 : Hid (Below wc.heap.size wc w4) := HB3.out.grown hgrow2 HB3.out.size (fun g hg => (hown1.lt g hg).1)
                 have r94 : w4.cell? ⟨v0.heap.size, 9, none⟩ = some (.slice A2 p.writes.length c2) := (HB4.out.cell (p := ⟨v0.heap.size, 9, none⟩) hsc).trans r9))
            have HOWN : Hid (WdsAt w4 v2 (log ++ p.writes.take qq)) := by
              refine wds_own (base := wc.heap.size) ?_
              have h9 : (log ++ p.writes.take qq).length = 0 + log.length + qq := by rw [List.length_append, hql2.out]; omega
              rw [h9, wd_app]
              have h10 : ([] : List Value) ++ wdCells log ++ wdCells (p.writes.take qq) = wdCells log ++ wdCells (p.writes.take qq) := by simp
              rw [← h10]
              exact hown2
            have HZ : Hid (putS (startS s) (log ++ p.writes.take qq) r.pl = wantS (wordsS (startS s) l ord k) (p.writes.take qq) r.pl) := by
              show _ = _
              rw [putS_app, ← HWS.out, putS_at]
            have hownl : (log ++ p.writes.take qq).length ≤ 4398046511104 := by rw [List.length_append, hql2.out]; omega
            have hb4 : Below w.heap.size w w4 := Bth hbwc HB4.out
            have hb42 : Below W2.heap.size W2 w4 := Bth hbc HB4.out
            have HS4 : Hid (IntsAt w4 us s) := HS.out.th hb4
            obtain ⟨A', c', he, _, hre⟩ := HR.out
            simp only [Value.slice.injEq] at he
            obtain ⟨rfl, -, -⟩ := he
            obtain ⟨b1, o1, rfl, hb1, p1, p2⟩ := hre j r HRr.out
            have s8 := (hb42.cell (p := ⟨v0.heap.size, 8, none⟩) hsW).trans Y8.out
            have sp := (hb4.cell (p := ⟨b1, o1 + j * 2, none⟩) hb1).trans p1
            have sv := (hb4.cell (p := ⟨b1, o1 + j * 2 + 1, none⟩) hb1).trans p2
            clear p1 p2 hre r8 r9 r9d r94 r93 hown1 hgrow1 hown2 hgrow2 hD0 hD1 hM1 hM2 hA7 hA2 hN1 hN2 HB3 hqc hq0
            by_cases hv : r.val = wantS (wordsS (startS s) l ord k) (p.writes.take qq) r.pl
            · have hlk : Hid (legK (wordsS (startS s) l ord k) p j) := HLEG.out.2 hv
              have hne : (wantS (wordsS (startS s) l ord k) (p.writes.take qq) r.pl != r.val) = false := by rw [hv]; simp
              clear hv HLEG hqq
              have hleg' : Hid (∀ m, m < j + 1 → legK (wordsS (startS s) l ord k) p m) := by
                show ∀ m, _
                intro m hm
                by_cases e : m = j
                · subst e; exact hlk.out
                · exact hleg.out m (by omega)
              go_wp2_with fail
              go_region_held3 (fun w' => w'.cell? ⟨v0.heap.size, 8, none⟩ = some (.slice (some ⟨b1, o1, none⟩) p.reads.length c1) ∧ w'.cell? ⟨b1, o1 + j * 2, none⟩ = some (.int .i64 r.pl) ∧ w'.cell? ⟨b1, o1 + j * 2 + 1, none⟩ = some (.int .i64 r.val)) (go_keep) ((go_at_call 23; refine (stands_any _ _ s (log ++ p.writes.take qq) r.pl _ (HS4.out.th (Bdrew (Bre w4))) (HOWN.out.th (Bdrew (Bre w4))) hownl).mono ?_; rintro e w5 ⟨rfl, rfl⟩; rw [HZ.out]; dsimp only))
              go_wp2_with fail
              exact ⟨⟨j + 1, by omega, by go_num, Bdrew hb42, hleg'⟩, by (simp [intOf]) <;> omega⟩
            · have hfin : Hid (LegalS s l ord k) := Or.inr ⟨HM.out, Or.inl ⟨k, hlt, rfl, hok.out, by
                rw [HA.out]
                intro h
                exact hv (HLEG.out.1 (h j hjl))⟩⟩
              have hne : (wantS (wordsS (startS s) l ord k) (p.writes.take qq) r.pl != r.val) = true := by rw [bne_iff_ne]; exact fun e => hv e.symm
              clear hv HLEG hqq
              go_wp2_with fail
              go_region_held3 (fun w' => w'.cell? ⟨v0.heap.size, 8, none⟩ = some (.slice (some ⟨b1, o1, none⟩) p.reads.length c1) ∧ w'.cell? ⟨b1, o1 + j * 2, none⟩ = some (.int .i64 r.pl) ∧ w'.cell? ⟨b1, o1 + j * 2 + 1, none⟩ = some (.int .i64 r.val)) (go_keep) ((go_at_call 23; refine (stands_any _ _ s (log ++ p.writes.take qq) r.pl _ (HS4.out.th (Bdrew (Bre w4))) (HOWN.out.th (Bdrew (Bre w4))) hownl).mono ?_; rintro e w5 ⟨rfl, rfl⟩; rw [HZ.out]; dsimp only))
              go_wp2_with fail
              go_ret
              exact ⟨_, rfl, hfin.out, Bdrew hb4⟩
        · obtain rfl : j = p.reads.length := by omega
          have t5 := (hbr.cell (p := ⟨v0.heap.size, 5, none⟩) hsW).trans Y5.out
          have hLS : Hid (LegS (wordsS (startS s) l ord k) p) := hleg.out
          have hok' : Hid (∀ m, m < k + 1 → LegS (wordsS (startS s) l ord m) (l.getD (ord.getD m 0).toNat dA)) := by
            show ∀ m, _
            intro m hm
            by_cases e : m = k
            · subst e; rw [HA.out]; exact hLS.out
            · exact hok.out m (by omega)
          have HLR : Hid (wr.ownsRow w.heap.size 51 2 (.slice A7 log.length c7) log.length (wdCells log)) := own_th HL2.out hbr
          have hlog : log.length ≤ 1099511627776 := by
            have : k * 1048576 ≤ 1048576 * 1048576 := Nat.mul_le_mul_right _ (by omega)
            omega
          by_cases he : p.en = 6
          · have he2 : (p.en == 6) = true := by simpa using he
            have hW2 : Hid (wordsS (startS s) l ord (k + 1) = putS (startS s) (log ++ p.writes)) := by
              show _ = _
              rw [HT.out, putS_app, ← HWS.out]
              unfold appS; rw [if_pos he]
            have HWC : Hid (WdsAt wr (.slice A2 p.writes.length c2) p.writes) := HW.out.th hbwr
            have hA2 := Lib.hid (show A2 = none → p.writes.length = 0 from wds_none HWC.out)
            have hsz := hbwr.size
            clear he
            go_wp2_with (at_builtin; refine wpList_append_wild rfl (.tmp 79) (.tmp 81) 31 rfl w.heap.size 51 ia _ 2 16 Try.underlying31 hia az0 az1 az2 rfl (Nat.succ_pos _) (.slice A7 log.length c7) log.length (wdCells log) rfl HLR.out A2 p.writes.length c2 (wdCells p.writes) rfl hA2.out (wd_len _) (fun a ha => by have := wds_news HWC.out p.writes.length a ha; rwa [List.take_length] at this) (wd_one _) (by unfold maxLen; omega) (by omega) hsz ?_; intro v2 w4 hown2 hgrow2)
            have hln : (log ++ p.writes).length = log.length + p.writes.length := by simp
            have hrow2 : Hid (w4.ownsRow w.heap.size 51 2 v2 (log ++ p.writes).length (wdCells (log ++ p.writes))) := by
              show w4.ownsRow w.heap.size 51 2 v2 (log ++ p.writes).length (wdCells (log ++ p.writes))
              rw [hln, wd_app]
              exact hown2
            have hll2 : (log ++ p.writes).length ≤ (k + 1) * 1048576 := by rw [hln]; omega
            exact ⟨⟨k + 1, log ++ p.writes, by omega, by go_num, hrow2, hW2, hll2, hbwr.grown hgrow2 hsz (fun g hg => (HLR.out.lt g hg).1), hok'⟩, by (simp [intOf]) <;> omega⟩
          · have he2 : (p.en == 6) = false := by simpa using he
            have hW2 : Hid (wordsS (startS s) l ord (k + 1) = putS (startS s) log) := by
              show _ = _
              rw [HT.out, ← HWS.out]
              unfold appS; rw [if_neg he]
            clear he
            go_wp2_with fail
            exact ⟨⟨k + 1, log, by omega, by go_num, HLR, hW2, Nat.le_trans hll (Nat.mul_le_mul_right _ (Nat.le_succ k)), hbwr, hok'⟩, by (simp [intOf]) <;> omega⟩
    · have hfin : Hid (LegalS s l ord (-1)) := Or.inr ⟨HM.out, Or.inr ⟨rfl, fun m hm => hok.out m (by omega)⟩⟩
      go_wp2_with fail
      go_ret
      exact ⟨_, rfl, hfin.out, hbel⟩
end Go.Proofs.Ytnjcebfbfecdeaa
