/-
  The law PickPuts as a walk.
-/
import Derived.Test.YtbfoeinjopgnpaaRPut
import Derived.Test.YtbfoeinjopgnpaaLawReads
import Derived.Test.YtbfoeinjopgnpaaLawRound
import Derived.Test.YtbfoeinjopgnpaaOpenPk
import Derived.Laws.AppendOwnNone
import Derived.Laws.BytesArg
import Derived.BigRegion
set_option linter.unusedVariables false
namespace Go.Proofs.Ytbfoeinjopgnpaa
open Go.RowKit
theorem pkCells_set (l : List Pk) (i : Nat) (p : Pk) (t d : Int) (h : l[i]? = some p) : ((pkCells l).set (i * 3) (.int .i64 t)).set (i * 3 + 2) (.int .i64 d) = pkCells (l.set i ⟨t, p.a, d⟩) := by
  induction l generalizing i with
  | nil => simp at h
  | cons q l ih =>
    cases i with
    | zero => simp at h; subst h; simp [pkCells, Pk.cells]
    | succ i =>
      have := ih i (by simpa using h)
      rw [show (i + 1) * 3 = i * 3 + 2 + 1 by omega]
      simp only [pkCells, List.flatMap_cons, Pk.cells, List.cons_append, List.nil_append, List.set_cons_succ] at this ⊢
      rw [this]
theorem rd_back (l : List Pk) (h : ∀ p ∈ l, okP p = true) : rd (l.map bF) l.length = l := by
  unfold rd
  rw [List.take_of_length_le (by simp), List.map_map]
  conv => rhs; rw [← List.map_id l]
  apply List.map_congr_left
  intro p hp
  have := h p hp
  obtain ⟨t, a, d⟩ := p
  simp only [okP, decide_eq_true_eq] at this
  cases a <;> simp [pkOf, bF] <;> omega
theorem bF_bd (p : Pk) (h : okP p = true) : 0 ≤ bF p ∧ bF p ≤ 255 := by
  obtain ⟨t, a, d⟩ := p
  simp only [okP, decide_eq_true_eq] at h
  cases a <;> simp [bF] <;> omega
def BsAt (w : World) (v : Value) (l : List Pk) : Prop :=
  (v = .slice none 0 0 ∧ l = []) ∨ ∃ g c, v = .slice (some ⟨g, 0, none⟩) l.length c ∧ g < w.heap.size ∧ ∀ k, k < l.length → w.cell? ⟨g, k, none⟩ = some (.int .u8 ((l.map bF).getD k 0))
theorem BsAt.own {w : World} {base : Nat} {v : Value} {l : List Pk} (h : w.ownsRow base 5 1 v l.length (bs l l.length)) : BsAt w v l := by
  rcases h.2 with ⟨rfl, h0⟩ | ⟨g, cap', cur, rfl, _⟩
  · exact Or.inl ⟨rfl, List.eq_nil_of_length_eq_zero h0⟩
  · refine Or.inr ⟨g, cap', rfl, (h.lt g rfl).2, fun k hk => ?_⟩
    rw [h.cellAt _ (by omega)]
    obtain ⟨p, hp⟩ : ∃ p, l[k]? = some p := ⟨_, List.getElem?_eq_getElem hk⟩
    rw [bs_get l k p hp]
    simp [List.getD, hp]
theorem BsAt.th {w w' : World} {v : Value} {l : List Pk} (h : BsAt w v l) (hb : Below w.heap.size w w') : BsAt w' v l := by
  rcases h with h | ⟨g, c, rfl, h1, h2⟩
  · exact Or.inl h
  · exact Or.inr ⟨g, c, rfl, Nat.lt_of_lt_of_le h1 hb.size, fun k hk => (hb.cell h1).trans (h2 k hk)⟩
theorem BsAt.cells {w : World} {v : Value} {l : List Pk} (h : BsAt w v l) : ∃ A c, v = .slice A l.length c ∧
    ∀ k, k < l.length → ∃ b off, A = some ⟨b, off, none⟩ ∧ b < w.heap.size ∧ w.cell? ⟨b, off + k, none⟩ = some (.int .u8 ((l.map bF).getD k 0)) := by
  rcases h with ⟨rfl, rfl⟩ | ⟨g, c, rfl, h1, h2⟩
  · exact ⟨none, 0, rfl, fun k hk => by simp at hk⟩
  · exact ⟨_, c, rfl, fun k hk => ⟨g, 0, rfl, h1, by rw [Nat.zero_add]; exact h2 k hk⟩⟩
theorem BsAt.str {w : World} {v : Value} {l : List Pk} (h : BsAt w v l) : (convert 22 9 v).run Try.prog w = .ok (.string (strOfNums (l.map bF))) w := by
  rcases h with ⟨rfl, rfl⟩ | ⟨g, c, rfl, h1, h2⟩
  · exact run_convert_bytes_nil w 22 5 Try.underlying22 Try.underlying5 0 0 9 Try.underlying9
  · exact run_convert_bytes_arg w 22 5 Try.underlying22 Try.underlying5 g 0 l.length c (l.map bF) (by simp) (fun i hi => by rw [Nat.zero_add]; exact h2 i hi) 9 Try.underlying9
set_option maxHeartbeats 1600000 in
theorem puts_some_raw (l : List Pk) (ad : Addr) (cap : Nat) (w : World) (hl : l.length ≤ 30) (hnews : ∀ j u, (pkCells l)[j]? = some u → (w.alloc (.cells #[] 29)).cell? (ad.add j) = some u) (hones : ∀ u ∈ pkCells l, u.oneCell' = true) :
    Calls Try.prog 7 #[.slice (some ad) l.length cap, .bool true] w fun e w' => e = .returned (.bool true) ∧ Below w.heap.size w w' := by
  obtain ⟨i0, hi, hz0, hz1, hz2⟩ := info_parts info29
  go_enter Try.func7, Try.ntmps7
  go_wp2_with (at_builtin; refine wpList_append_own _ rfl (.tmp 15) (.tmp 16) 25 rfl w.heap.size 29 i0 _ 3 24 Try.underlying25 hi hz0 hz1 hz2 rfl (by omega) _ 0 [] rfl (World.ownsRow_lit _ #[] 0 (Nat.le_refl _) (Nat.zero_le _) rfl) ad l.length cap (pkCells l) rfl (pkCells_len l) hnews hones (by unfold maxLen; omega) (by omega) (by simp) ?_; intro v' w1 hown' hgrow _)
  have hb1 : Below w.heap.size w w1 := (Bal (Bre _) _).grown hgrow (Bal (Bre _) _).size (fun g hg => ((World.ownsRow_lit (base := w.heap.size) (size := 3) (e := 29) w #[] 0 (Nat.le_refl _) (Nat.zero_le _) rfl).lt g hg).1)
  obtain ⟨A1, c1, rfl⟩ : ∃ A1 c1, v' = .slice A1 l.length c1 := by
    rcases hown'.2 with ⟨rfl, h0⟩ | ⟨g, cap', cur, rfl, _⟩
    · exact ⟨none, 0, by rw [show l.length = 0 by omega]⟩
    · exact ⟨_, _, by rw [Nat.zero_add]⟩
  have hown2 : w1.ownsRow w.heap.size 29 3 (.slice A1 l.length c1) l.length (pkCells l) := by simpa using hown'
  have HO := Lib.hid hown2
  clear hown' hown2 hgrow
  go_loopw [6] (fun i wr => ∃ (m : Nat) (l' : List Pk), m ≤ l.length ∧ i = .int .i64 m ∧ l'.length = l.length ∧ wr.ownsRow w.heap.size 29 3 (.slice A1 l.length c1) l.length (pkCells l') ∧ Below w.heap.size w wr) (fun i _ => l.length - (intOf i).toNat)
  case atStart => exact ⟨0, l, by omega, rfl, rfl, HO.out, hb1⟩
  case round =>
    obtain ⟨m, l', hm, rfl, hll, hown, hbel⟩ := hrel
    have HP := Lib.hid hown
    clear hown
    by_cases hlt : m < l.length
    · have hP : PkAt wr (.slice A1 l.length c1) l' := PkAt.own (base := w.heap.size) (by rw [hll]; exact HP.out)
      have P := Lib.hid hP
      clear hP
      by_cases hok : ∀ p ∈ l', okP p = true
      · have HK := Lib.hid hok
        clear hok
        go_wp2_with fail
        refine (put_ok _ l' _ (by omega) P.out (fun k p hp => by
          have := HK.out p (List.mem_of_getElem? hp)
          simpa [okP] using this)).mono ?_
        rintro e w2 ⟨v7, rfl, ho7, hb7⟩
        have O7 : Hid (BsAt w2 v7 l') := BsAt.own ho7
        clear ho7
        go_wp2_with fail
        refine (rput_ok _ l' _ (by omega) (P.out.th hb7) (fun k p hp => by
          have := HK.out p (List.mem_of_getElem? hp)
          simpa [okP] using this)).mono ?_
        rintro e w3 ⟨v9, rfl, ho9, hb9⟩
        have O7' : Hid (BsAt w3 v7 l') := O7.out.th hb9
        have O9 : Hid (BsAt w3 v9 l') := BsAt.own ho9
        have cv7 := O7'.out.str
        have cv9 := O9.out.str
        obtain ⟨A7, c7, rfl, hc7⟩ := O7'.out.cells
        obtain ⟨A9, c9, rfl, _⟩ := O9.out.cells
        have HC7 := Lib.hid hc7
        clear ho9 hc7
        rw [hll] at cv7 cv9
        generalize strOfNums (l'.map bF) = str at cv7 cv9
        have RD : Hid (∀ W, Below w3.heap.size w3 W → Calls Try.prog 16 #[.slice A7 l.length c7] W fun e w' => ∃ v, e = .returned v ∧ PkAt w' v l' ∧ Below W.heap.size W w') := fun W hW => by
          refine (read_any A7 l.length c7 (l'.map bF) W (by omega) (by simp [hll]) (fun k hk => ?_) (fun k hk => ?_)).mono ?_
          · obtain ⟨b, off, q1, q2, q3⟩ := HC7.out k (by omega)
            exact ⟨b, off, q1, Nat.lt_of_lt_of_le q2 hW.size, (hW.cell q2).trans q3⟩
          · obtain ⟨p, hp⟩ : ∃ p, l'[k]? = some p := ⟨_, List.getElem?_eq_getElem (by omega)⟩
            have hg : (l'.map bF).getD k 0 = bF p := by simp [List.getD, hp]
            rw [hg]
            exact bF_bd p (HK.out p (List.mem_of_getElem? hp))
          · rintro e w' ⟨v, rfl, ho, hb⟩
            refine ⟨v, rfl, ?_, hb⟩
            rw [← hll, rd_back l' HK.out] at ho
            exact PkAt.own ho
        have hd : decide (l' = l') = true := by simp
        have PW : Hid (PkAt w3 (.slice A1 l.length c1) l') := (P.out.th hb7).th hb9
        go_wp2_with (first
          | (go_at_call 8; refine (told_any _).mono ?_; rintro e w4 ⟨rfl, hb4⟩)
          | (go_at_call 16; refine (RD.out _ hb4).mono ?_; rintro e w5 ⟨v5, rfl, ho5, hb5⟩; have P5 := Lib.hid ho5; clear ho5)
          | (go_at_call 14; refine (same_any _ _ _ _ _ (by omega) (by omega) P5.out ((PW.out.th hb4).th hb5)).mono ?_; rintro e w6 ⟨rfl, hb6⟩))
        go_ret
        exact ⟨rfl, Bth (Bth (Bth (Bth (Bth hbel hb7) hb9) hb4) hb5) hb6⟩
      · go_wp2_with fail
        refine (put_no _ l' _ (by omega) P.out hok).mono ?_
        rintro e w2 ⟨rfl, hb7⟩
        go_wp2_with fail
        refine (rput_no _ l' _ (by omega) (P.out.th hb7) hok).mono ?_
        rintro e w3 ⟨rfl, hb9⟩
        have cv := run_convert_bytes_nil w3 22 5 Try.underlying22 Try.underlying5 0 0 9 Try.underlying9
        go_wp2_with (go_at_call 8; refine (told_any _).mono ?_; rintro e w4 ⟨rfl, hb4⟩)
        go_ret
        exact ⟨rfl, Bth (Bth (Bth hbel hb7) hb9) hb4⟩
    · have hP : PkAt wr (.slice A1 l.length c1) l' := PkAt.own (base := w.heap.size) (by rw [hll]; exact HP.out)
      have P := Lib.hid hP
      clear hP
      by_cases hok : ∀ p ∈ l', okP p = true
      · have HK := Lib.hid hok
        clear hok
        go_wp2_with fail
        refine (put_ok _ l' _ (by omega) P.out (fun k p hp => by
          have := HK.out p (List.mem_of_getElem? hp)
          simpa [okP] using this)).mono ?_
        rintro e w2 ⟨v7, rfl, ho7, hb7⟩
        have O7 : Hid (BsAt w2 v7 l') := BsAt.own ho7
        clear ho7
        go_wp2_with fail
        refine (rput_ok _ l' _ (by omega) (P.out.th hb7) (fun k p hp => by
          have := HK.out p (List.mem_of_getElem? hp)
          simpa [okP] using this)).mono ?_
        rintro e w3 ⟨v9, rfl, ho9, hb9⟩
        have O7' : Hid (BsAt w3 v7 l') := O7.out.th hb9
        have O9 : Hid (BsAt w3 v9 l') := BsAt.own ho9
        have cv7 := O7'.out.str
        have cv9 := O9.out.str
        obtain ⟨A7, c7, rfl, hc7⟩ := O7'.out.cells
        obtain ⟨A9, c9, rfl, _⟩ := O9.out.cells
        have HC7 := Lib.hid hc7
        clear ho9 hc7
        rw [hll] at cv7 cv9
        generalize strOfNums (l'.map bF) = str at cv7 cv9
        have RD : Hid (∀ W, Below w3.heap.size w3 W → Calls Try.prog 16 #[.slice A7 l.length c7] W fun e w' => ∃ v, e = .returned v ∧ PkAt w' v l' ∧ Below W.heap.size W w') := fun W hW => by
          refine (read_any A7 l.length c7 (l'.map bF) W (by omega) (by simp [hll]) (fun k hk => ?_) (fun k hk => ?_)).mono ?_
          · obtain ⟨b, off, q1, q2, q3⟩ := HC7.out k (by omega)
            exact ⟨b, off, q1, Nat.lt_of_lt_of_le q2 hW.size, (hW.cell q2).trans q3⟩
          · obtain ⟨p, hp⟩ : ∃ p, l'[k]? = some p := ⟨_, List.getElem?_eq_getElem (by omega)⟩
            have hg : (l'.map bF).getD k 0 = bF p := by simp [List.getD, hp]
            rw [hg]
            exact bF_bd p (HK.out p (List.mem_of_getElem? hp))
          · rintro e w' ⟨v, rfl, ho, hb⟩
            refine ⟨v, rfl, ?_, hb⟩
            rw [← hll, rd_back l' HK.out] at ho
            exact PkAt.own ho
        have hd : decide (l' = l') = true := by simp
        have PW : Hid (PkAt w3 (.slice A1 l.length c1) l') := (P.out.th hb7).th hb9
        go_wp2_with (first
          | (go_at_call 8; refine (told_any _).mono ?_; rintro e w4 ⟨rfl, hb4⟩)
          | (go_at_call 16; refine (RD.out _ hb4).mono ?_; rintro e w5 ⟨v5, rfl, ho5, hb5⟩; have P5 := Lib.hid ho5; clear ho5)
          | (go_at_call 14; refine (same_any _ _ _ _ _ (by omega) (by omega) P5.out ((PW.out.th hb4).th hb5)).mono ?_; rintro e w6 ⟨rfl, hb6⟩))
        go_ret
        exact ⟨rfl, Bth (Bth (Bth (Bth (Bth hbel hb7) hb9) hb4) hb5) hb6⟩
      · go_wp2_with fail
        refine (put_no _ l' _ (by omega) P.out hok).mono ?_
        rintro e w2 ⟨rfl, hb7⟩
        go_wp2_with fail
        refine (rput_no _ l' _ (by omega) (P.out.th hb7) hok).mono ?_
        rintro e w3 ⟨rfl, hb9⟩
        have cv := run_convert_bytes_nil w3 22 5 Try.underlying22 Try.underlying5 0 0 9 Try.underlying9
        go_wp2_with (go_at_call 8; refine (told_any _).mono ?_; rintro e w4 ⟨rfl, hb4⟩)
        go_ret
        exact ⟨rfl, Bth (Bth (Bth hbel hb7) hb9) hb4⟩
set_option maxHeartbeats 1600000 in
theorem puts_some_near (l : List Pk) (ad : Addr) (cap : Nat) (w : World) (hl : l.length ≤ 30) (hnews : ∀ j u, (pkCells l)[j]? = some u → (w.alloc (.cells #[] 29)).cell? (ad.add j) = some u) (hones : ∀ u ∈ pkCells l, u.oneCell' = true) :
    Calls Try.prog 7 #[.slice (some ad) l.length cap, .bool false] w fun e w' => e = .returned (.bool true) ∧ Below w.heap.size w w' := by
  obtain ⟨i0, hi, hz0, hz1, hz2⟩ := info_parts info29
  go_enter Try.func7, Try.ntmps7
  go_wp2_with (at_builtin; refine wpList_append_own _ rfl (.tmp 15) (.tmp 16) 25 rfl w.heap.size 29 i0 _ 3 24 Try.underlying25 hi hz0 hz1 hz2 rfl (by omega) _ 0 [] rfl (World.ownsRow_lit _ #[] 0 (Nat.le_refl _) (Nat.zero_le _) rfl) ad l.length cap (pkCells l) rfl (pkCells_len l) hnews hones (by unfold maxLen; omega) (by omega) (by simp) ?_; intro v' w1 hown' hgrow _)
  have hb1 : Below w.heap.size w w1 := (Bal (Bre _) _).grown hgrow (Bal (Bre _) _).size (fun g hg => ((World.ownsRow_lit (base := w.heap.size) (size := 3) (e := 29) w #[] 0 (Nat.le_refl _) (Nat.zero_le _) rfl).lt g hg).1)
  obtain ⟨A1, c1, rfl⟩ : ∃ A1 c1, v' = .slice A1 l.length c1 := by
    rcases hown'.2 with ⟨rfl, h0⟩ | ⟨g, cap', cur, rfl, _⟩
    · exact ⟨none, 0, by rw [show l.length = 0 by omega]⟩
    · exact ⟨_, _, by rw [Nat.zero_add]⟩
  have hown2 : w1.ownsRow w.heap.size 29 3 (.slice A1 l.length c1) l.length (pkCells l) := by simpa using hown'
  have HO := Lib.hid hown2
  clear hown' hown2 hgrow
  go_loopw [6] (fun i wr => ∃ (m : Nat) (l' : List Pk), m ≤ l.length ∧ i = .int .i64 m ∧ l'.length = l.length ∧ wr.ownsRow w.heap.size 29 3 (.slice A1 l.length c1) l.length (pkCells l') ∧ Below w.heap.size w wr) (fun i _ => l.length - (intOf i).toNat)
  case atStart => exact ⟨0, l, by omega, rfl, rfl, HO.out, hb1⟩
  case round =>
    obtain ⟨m, l', hm, rfl, hll, hown, hbel⟩ := hrel
    have HP := Lib.hid hown
    clear hown
    by_cases hlt : m < l.length
    · obtain ⟨p, hp⟩ : ∃ p, l'[m]? = some p := ⟨_, List.getElem?_eq_getElem (by omega)⟩
      obtain ⟨g, rfl⟩ : ∃ g, A1 = some ⟨g, 0, none⟩ := by
        rcases HP.out.2 with ⟨_, h0⟩ | ⟨g, cap', cur, h, _⟩
        · omega
        · simp only [Value.slice.injEq] at h; exact ⟨g, h.1⟩
      have z0 : wr.cell? ⟨g, m * 3, none⟩ = some (.int .i64 p.t) := by
        rw [HP.out.cellAt _ (by omega), show m * 3 = m * 3 + 0 from rfl, pkCells_get l' m p hp 0 (by omega)]; rfl
      have z2 : wr.cell? ⟨g, m * 3 + 2, none⟩ = some (.int .i64 p.d) := by
        rw [HP.out.cellAt _ (by omega), pkCells_get l' m p hp 2 (by omega)]; rfl
      have y0 := HP.out.frozenAt (m * 3)
      have y2 := HP.out.frozenAt (m * 3 + 2)
      obtain ⟨q0, _, _, hq0, hq0'⟩ := umod p.t 4 (by omega) (by omega)
      obtain ⟨q2, _, _, hq2, hq2'⟩ := umod p.d 16 (by omega) (by omega)
      have hg1 := (HP.out.lt g rfl)
      have HS := Lib.hid (pkCells_set l' m p q0 q2 hp)
      clear hp
      have s1 := (HP.out.stored (m * 3) (.int .i64 q0)).1
      have s2 := (s1.stored (m * 3 + 2) (.int .i64 q2)).1
      rw [HS.out] at s2
      have HN := Lib.hid s2
      have HB : Hid (Below w.heap.size w ((wr.setCell ⟨g, m * 3, none⟩ (.int .i64 q0)).setCell ⟨g, m * 3 + 2, none⟩ (.int .i64 q2))) := Bset (Bset hbel hg1.1 _) hg1.1 _
      clear s1 s2 HS
      generalize p.t = pt at *
      generalize p.d = pd at *
      go_wp2_with fail
      go_region
      go_wp2_with fail
      exact ⟨⟨m + 1, l'.set m ⟨q0, p.a, q2⟩, by omega, by go_num, by simp [hll], HN.out, Bdrew HB.out⟩, by (simp [intOf]) <;> omega⟩
    · have hP : PkAt wr (.slice A1 l.length c1) l' := PkAt.own (base := w.heap.size) (by rw [hll]; exact HP.out)
      have P := Lib.hid hP
      clear hP
      by_cases hok : ∀ p ∈ l', okP p = true
      · have HK := Lib.hid hok
        clear hok
        go_wp2_with fail
        refine (put_ok _ l' _ (by omega) P.out (fun k p hp => by
          have := HK.out p (List.mem_of_getElem? hp)
          simpa [okP] using this)).mono ?_
        rintro e w2 ⟨v7, rfl, ho7, hb7⟩
        have O7 : Hid (BsAt w2 v7 l') := BsAt.own ho7
        clear ho7
        go_wp2_with fail
        refine (rput_ok _ l' _ (by omega) (P.out.th hb7) (fun k p hp => by
          have := HK.out p (List.mem_of_getElem? hp)
          simpa [okP] using this)).mono ?_
        rintro e w3 ⟨v9, rfl, ho9, hb9⟩
        have O7' : Hid (BsAt w3 v7 l') := O7.out.th hb9
        have O9 : Hid (BsAt w3 v9 l') := BsAt.own ho9
        have cv7 := O7'.out.str
        have cv9 := O9.out.str
        obtain ⟨A7, c7, rfl, hc7⟩ := O7'.out.cells
        obtain ⟨A9, c9, rfl, _⟩ := O9.out.cells
        have HC7 := Lib.hid hc7
        clear ho9 hc7
        rw [hll] at cv7 cv9
        generalize strOfNums (l'.map bF) = str at cv7 cv9
        have RD : Hid (∀ W, Below w3.heap.size w3 W → Calls Try.prog 16 #[.slice A7 l.length c7] W fun e w' => ∃ v, e = .returned v ∧ PkAt w' v l' ∧ Below W.heap.size W w') := fun W hW => by
          refine (read_any A7 l.length c7 (l'.map bF) W (by omega) (by simp [hll]) (fun k hk => ?_) (fun k hk => ?_)).mono ?_
          · obtain ⟨b, off, q1, q2, q3⟩ := HC7.out k (by omega)
            exact ⟨b, off, q1, Nat.lt_of_lt_of_le q2 hW.size, (hW.cell q2).trans q3⟩
          · obtain ⟨p, hp⟩ : ∃ p, l'[k]? = some p := ⟨_, List.getElem?_eq_getElem (by omega)⟩
            have hg : (l'.map bF).getD k 0 = bF p := by simp [List.getD, hp]
            rw [hg]
            exact bF_bd p (HK.out p (List.mem_of_getElem? hp))
          · rintro e w' ⟨v, rfl, ho, hb⟩
            refine ⟨v, rfl, ?_, hb⟩
            rw [← hll, rd_back l' HK.out] at ho
            exact PkAt.own ho
        have hd : decide (l' = l') = true := by simp
        have PW : Hid (PkAt w3 (.slice A1 l.length c1) l') := (P.out.th hb7).th hb9
        go_wp2_with (first
          | (go_at_call 8; refine (told_any _).mono ?_; rintro e w4 ⟨rfl, hb4⟩)
          | (go_at_call 16; refine (RD.out _ hb4).mono ?_; rintro e w5 ⟨v5, rfl, ho5, hb5⟩; have P5 := Lib.hid ho5; clear ho5)
          | (go_at_call 14; refine (same_any _ _ _ _ _ (by omega) (by omega) P5.out ((PW.out.th hb4).th hb5)).mono ?_; rintro e w6 ⟨rfl, hb6⟩))
        go_ret
        exact ⟨rfl, Bth (Bth (Bth (Bth (Bth hbel hb7) hb9) hb4) hb5) hb6⟩
      · go_wp2_with fail
        refine (put_no _ l' _ (by omega) P.out hok).mono ?_
        rintro e w2 ⟨rfl, hb7⟩
        go_wp2_with fail
        refine (rput_no _ l' _ (by omega) (P.out.th hb7) hok).mono ?_
        rintro e w3 ⟨rfl, hb9⟩
        have cv := run_convert_bytes_nil w3 22 5 Try.underlying22 Try.underlying5 0 0 9 Try.underlying9
        go_wp2_with (go_at_call 8; refine (told_any _).mono ?_; rintro e w4 ⟨rfl, hb4⟩)
        go_ret
        exact ⟨rfl, Bth (Bth (Bth hbel hb7) hb9) hb4⟩
set_option maxHeartbeats 1600000 in
theorem puts_none (raw : Bool) (w : World) : Calls Try.prog 7 #[.slice none 0 0, .bool raw] w fun e w' => e = .returned (.bool true) ∧ Below w.heap.size w w' := by
  obtain ⟨i0, hi, hz0, hz1, hz2⟩ := info_parts info29
  go_enter Try.func7, Try.ntmps7
  go_wp2_with (at_builtin; refine wpList_append_own_none rfl (.tmp 15) (.tmp 16) 25 rfl w.heap.size 29 i0 3 Try.underlying25 hi _ 0 [] rfl (World.ownsRow_lit _ #[] 0 (Nat.le_refl _) (Nat.zero_le _) rfl) rfl ?_)
  go_loop [6] (fun i => i = .int .i64 0) (fun _ => 0)
  case atStart => rfl
  case round =>
    obtain rfl := hrel
    have hbel : Below w.heap.size w (w.alloc (.cells #[] 29)) := Bal (Bre _) _
    obtain ⟨A1, hA1⟩ : ∃ A1, A1 = some (⟨w.heap.size, 0, none⟩ : Addr) := ⟨_, rfl⟩
    have hP : PkAt (w.alloc (.cells #[] 29)) (.slice A1 0 0) [] := ⟨_, 0, rfl, fun i p h => by simp at h⟩
    rw [← hA1]
    generalize w.alloc (.cells #[] 29) = wr at *
    have hll : ([] : List Pk).length = 0 := rfl
    generalize ([] : List Pk) = l' at hP hll
    clear hA1
    have P := Lib.hid hP
    clear hP
    by_cases hok : ∀ p ∈ l', okP p = true
    · have HK := Lib.hid hok
      clear hok
      go_wp2_with fail
      refine (put_ok _ l' _ (by omega) P.out (fun k p hp => by
        have := HK.out p (List.mem_of_getElem? hp)
        simpa [okP] using this)).mono ?_
      rintro e w2 ⟨v7, rfl, ho7, hb7⟩
      have O7 : Hid (BsAt w2 v7 l') := BsAt.own ho7
      clear ho7
      go_wp2_with fail
      refine (rput_ok _ l' _ (by omega) (P.out.th hb7) (fun k p hp => by
        have := HK.out p (List.mem_of_getElem? hp)
        simpa [okP] using this)).mono ?_
      rintro e w3 ⟨v9, rfl, ho9, hb9⟩
      have O7' : Hid (BsAt w3 v7 l') := O7.out.th hb9
      have O9 : Hid (BsAt w3 v9 l') := BsAt.own ho9
      have cv7 := O7'.out.str
      have cv9 := O9.out.str
      obtain ⟨A7, c7, rfl, hc7⟩ := O7'.out.cells
      obtain ⟨A9, c9, rfl, _⟩ := O9.out.cells
      have HC7 := Lib.hid hc7
      clear ho9 hc7
      rw [hll] at cv7 cv9
      generalize strOfNums (l'.map bF) = str at cv7 cv9
      have RD : Hid (∀ W, Below w3.heap.size w3 W → Calls Try.prog 16 #[.slice A7 0 c7] W fun e w' => ∃ v, e = .returned v ∧ PkAt w' v l' ∧ Below W.heap.size W w') := fun W hW => by
        refine (read_any A7 0 c7 (l'.map bF) W (by omega) (by simp [hll]) (fun k hk => ?_) (fun k hk => ?_)).mono ?_
        · obtain ⟨b, off, q1, q2, q3⟩ := HC7.out k (by omega)
          exact ⟨b, off, q1, Nat.lt_of_lt_of_le q2 hW.size, (hW.cell q2).trans q3⟩
        · obtain ⟨p, hp⟩ : ∃ p, l'[k]? = some p := ⟨_, List.getElem?_eq_getElem (by omega)⟩
          have hg : (l'.map bF).getD k 0 = bF p := by simp [List.getD, hp]
          rw [hg]
          exact bF_bd p (HK.out p (List.mem_of_getElem? hp))
        · rintro e w' ⟨v, rfl, ho, hb⟩
          refine ⟨v, rfl, ?_, hb⟩
          rw [← hll, rd_back l' HK.out] at ho
          exact PkAt.own ho
      have hd : decide (l' = l') = true := by simp
      have PW : Hid (PkAt w3 (.slice A1 0 0) l') := (P.out.th hb7).th hb9
      go_wp2_with (first
        | (go_at_call 8; refine (told_any _).mono ?_; rintro e w4 ⟨rfl, hb4⟩)
        | (go_at_call 16; refine (RD.out _ hb4).mono ?_; rintro e w5 ⟨v5, rfl, ho5, hb5⟩; have P5 := Lib.hid ho5; clear ho5)
        | (go_at_call 14; refine (same_any _ _ _ _ _ (by omega) (by omega) P5.out ((PW.out.th hb4).th hb5)).mono ?_; rintro e w6 ⟨rfl, hb6⟩))
      go_ret
      exact ⟨rfl, Bth (Bth (Bth (Bth (Bth hbel hb7) hb9) hb4) hb5) hb6⟩
    · go_wp2_with fail
      refine (put_no _ l' _ (by omega) P.out hok).mono ?_
      rintro e w2 ⟨rfl, hb7⟩
      go_wp2_with fail
      refine (rput_no _ l' _ (by omega) (P.out.th hb7) hok).mono ?_
      rintro e w3 ⟨rfl, hb9⟩
      have cv := run_convert_bytes_nil w3 22 5 Try.underlying22 Try.underlying5 0 0 9 Try.underlying9
      go_wp2_with (go_at_call 8; refine (told_any _).mono ?_; rintro e w4 ⟨rfl, hb4⟩)
      go_ret
      exact ⟨rfl, Bth (Bth (Bth hbel hb7) hb9) hb4⟩
theorem puts_long (A : Option Addr) (n cap : Nat) (raw : Bool) (w : World) (hn : 30 < n) : Calls Try.prog 7 #[.slice A n cap, .bool raw] w fun e w' => e = .returned (.bool true) ∧ Below w.heap.size w w' := by
  have hn' : (30 : Int) < (n : Int) := by omega
  go_enter Try.func7, Try.ntmps7
  go_wp2_with (go_at_call 8; refine (told_any _).mono ?_; rintro e w5 ⟨rfl, hb5⟩)
  go_ret
  exact ⟨rfl, hb5⟩
theorem pk_ones (l : List Pk) : ∀ u ∈ pkCells l, u.oneCell' = true := by
  intro u hu
  simp only [pkCells, List.mem_flatMap] at hu
  obtain ⟨p, _, hu⟩ := hu
  exact one3 p u hu
theorem law_puts (A : Option Addr) (l : List Pk) (cap : Nat) (raw : Bool) (w : World) (hno : A = none → l = [] ∧ cap = 0)
    (hc : ∀ i p, l[i]? = some p → ∃ b off, A = some ⟨b, off, none⟩ ∧ b < w.heap.size ∧ ∀ j, j < 3 → w.cell? ⟨b, off + (i * 3 + j), none⟩ = p.cells[j]?) :
    Calls Try.prog 7 #[.slice A l.length cap, .bool raw] w fun e w' => e = .returned (.bool true) ∧ Below w.heap.size w w' := by
  rcases Nat.lt_or_ge 30 l.length with h | h
  · exact puts_long A _ cap raw w h
  cases A with
  | none =>
    obtain ⟨rfl, rfl⟩ := hno rfl
    exact puts_none raw w
  | some ad =>
    have hnews : ∀ j u, (pkCells l)[j]? = some u → (w.alloc (.cells #[] 29)).cell? (ad.add j) = some u := by
      intro j u hu
      have hj : j < l.length * 3 := by rw [← pkCells_len]; exact (List.getElem?_eq_some_iff.1 hu).1
      obtain ⟨p, hp⟩ : ∃ p, l[j / 3]? = some p := ⟨_, List.getElem?_eq_getElem (by omega)⟩
      obtain ⟨b, off, he, hb, hcell⟩ := hc _ p hp
      obtain rfl := Option.some.inj he
      have h1 := hcell (j % 3) (Nat.mod_lt _ (by omega))
      rw [← pkCells_get l _ p hp _ (Nat.mod_lt _ (by omega)), show j / 3 * 3 + j % 3 = j by omega, hu] at h1
      have h2 : (w.alloc (.cells #[] 29)).cell? ⟨b, off + j, none⟩ = w.cell? ⟨b, off + j, none⟩ := (Bal (Bre w) _).cell hb
      rw [Go.WideShapes.add_plain, h2, h1]
    cases raw
    · exact puts_some_near l ad cap w h hnews (pk_ones l)
    · exact puts_some_raw l ad cap w h hnews (pk_ones l)
end Go.Proofs.Ytbfoeinjopgnpaa
