/-
  In which order which attempts are as they may be: the program's function (Legal).
-/
import Derived.Test.YtnjcebfbfecdeaaLegal1
import Derived.Test.YtnjcebfbfecdeaaApply
set_option linter.unusedVariables false
namespace Go.Proofs.Ytnjcebfbfecdeaa
open Go.RowKit Go.Maps
/-- What the walk wants to know of an attempt: numbers that may be, rows that are not too long. -/
structure Fine (p : Att) : Prop where
  rd : ∀ x ∈ p.reads, wf64 x.pl
  wr : ∀ x ∈ p.writes, wf64 x.pl ∧ wf64 x.val
  l1 : p.reads.length ≤ 1048576
  l2 : p.writes.length ≤ 1048576
  l3 : p.seen.length ≤ 1048576
theorem start_nil : startS [] = fun _ => 0 := by funext x; simp [startS]
theorem start_step (s : List Int) (k : Nat) (v : Int) (h : s[k]? = some v) : startS (s.take (k + 1)) = upd (startS (s.take k)) k v := by
  have hk : k < s.length := (List.getElem?_eq_some_iff.1 h).1
  have h1 : (s.take k).length = k := by simp; omega
  funext x
  rw [take_snoc s k v h]
  unfold startS upd
  rw [List.length_append, h1]
  by_cases e : x = k
  · subst e
    simp [List.getD, h1]
    intro h; omega
  · rw [if_neg e]
    by_cases hx : 0 ≤ x ∧ x < (k : Int)
    · obtain ⟨q, rfl⟩ := Int.eq_ofNat_of_zero_le hx.1
      have hq : q < k := by omega
      show _ = if 0 ≤ (q : Int) ∧ (q : Int) < (k : Int) then _ else _
      rw [if_pos (by simp; omega), if_pos hx]
      simp [List.getD, List.getElem?_append_left (show q < (s.take k).length by omega)]
    · show _ = if 0 ≤ x ∧ x < (k : Int) then _ else _
      rw [if_neg (by simp; omega), if_neg hx]
theorem words_step (f : Int → Int) (l : List Att) (ord : List Int) (k q : Nat) (p : Att) (h1 : ord[k]? = some (q : Int)) (h2 : l[q]? = some p) : wordsS f l ord (k + 1) = appS (wordsS f l ord k) p := by
  unfold wordsS
  rw [take_snoc ord k _ h1, List.foldl_append]
  simp [List.getD, h2]
theorem wf_small (k : Nat) (h : k < 1048576) : wf64 (k : Int) := by
  unfold wf64; simp [Lit.wf, IntKind.min, IntKind.max, IntKind.bits, IntKind.signed]; omega
set_option maxRecDepth 100000 in
set_option maxHeartbeats 3200000 in
theorem Legal_any (us u v : Value) (s : List Int) (l : List Att) (ord : List Int) (w : World) (hs : IntsAt w us s) (hu : AttsAt w u l) (hv : IntsAt w v ord) (hsw : ∀ x ∈ s, wf64 x) (hfi : ∀ p ∈ l, Fine p)
    (h1 : l.length ≤ 1048576) (h2 : s.length ≤ 1048576) :
    Calls Try.prog 14 #[us, u, v] w fun e w' => ∃ r, e = .returned (.int .i64 r) ∧ LegalS s l ord r ∧ Below w.heap.size w w' := by
  obtain ⟨A, c1, rfl, hc1, hu⟩ := hu
  have HV0 := Lib.hid hv
  obtain ⟨B, c2, rfl, hc2, hv⟩ := hv
  obtain ⟨C, c3, rfl, hc3, hs⟩ := hs
  have HV := Lib.hid hv
  have HU := Lib.hid hu
  have HS := Lib.hid hs
  have HW := Lib.hid hsw
  have HF := Lib.hid hfi
  clear hv hu hs hsw hfi
  by_cases hm : MayS l.length ord
  case neg =>
    have hb : mayB l.length ord = false := decide_eq_false hm
    have ht : Hid (LegalS s l ord (-2)) := Or.inl ⟨hm, rfl⟩
    clear hm
    go_enter Try.func14, Try.ntmps14
    go_wp2_with (go_at_call 12; refine (may_any _ _ _ _ ord _ h1 HV0.out).mono ?_; rintro e w1 ⟨rfl, hb1⟩)
    go_ret
    exact ⟨_, rfl, ht.out, hb1⟩
  have hb : mayB l.length ord = true := decide_eq_true hm
  have hlo : ord.length = l.length := hm.1
  have HM := Lib.hid hm
  clear hm
  have hol : ord.length ≤ 1048576 := by omega
  have HLO := Lib.hid hlo
  clear hlo
  have hmm := @run_makeMap Try.prog
  go_enter Try.func14, Try.ntmps14
  go_wp2_with (go_at_call 12; refine (may_any _ _ _ _ ord _ h1 HV0.out).mono ?_; rintro e w1 ⟨rfl, hb1⟩)
  clear hb hmm
  have hbm : w.heap.size ≤ w1.heap.size := hb1.size
  go_loopw [19] (fun i wr => ∃ k : Nat, k ≤ s.length ∧ i = .int .i64 k ∧ Below w.heap.size w wr ∧ Hid (MapIs wr w1.heap.size k (startS (s.take k)))) (fun i _ => s.length - (intOf i).toNat)
  case atStart => exact ⟨0, by omega, rfl, Bal hb1 _, by show MapIs _ _ _ _; rw [List.take_zero, start_nil]; exact MapIs.made _⟩
  case round =>
    obtain ⟨k, hk, rfl, hbel, hmap⟩ := hrel
    by_cases hlt : k < s.length
    · obtain ⟨x, hx⟩ : ∃ x, s[k]? = some x := ⟨_, List.getElem?_eq_getElem hlt⟩
      obtain ⟨b, off, rfl, hbb, o1⟩ := HS.out k x hx
      have o2 := (hbel.cell (p := ⟨b, off + k, none⟩) hbb).trans o1
      have HT := Lib.hid (start_step s k x hx)
      have hwx : Hid (wf64 x) := HW.out x (List.mem_of_getElem? hx)
      have hkl : k < 1048576 := Nat.lt_of_lt_of_le hlt h2
      have hwk := Lib.hid (wf_small k hkl)
      clear o1 hx
      go_wp2_with (at_mapUpdate; refine wpList_put_mapIs rfl _ _ _ rfl w1.heap.size k _ rfl (k : Int) x rfl rfl hmap.out (by unfold maxLen; omega) hwk.out hwx.out ?_; intro w2 hm2 hg2)
      exact ⟨⟨k + 1, by omega, by go_num, hbel.grown hg2 hbel.size (fun j hj => by cases hj; exact hbm), by show MapIs _ _ _ _; rw [HT.out]; exact hm2⟩, by (simp [intOf]) <;> omega⟩
    · obtain rfl : k = s.length := by omega
      have hmap0 : Hid (MapIs wr w1.heap.size s.length (startS s)) := by have := hmap.out; rwa [List.take_length] at this
      clear hmap hk hlt
      go_wp2_with fail
      go_loopw [30] (fun i w2 => ∃ k n : Nat, k ≤ ord.length ∧ i = .int .i64 k ∧ Below w.heap.size w w2 ∧ Hid (MapIs w2 w1.heap.size n (wordsS (startS s) l ord k)) ∧ n ≤ 1048576 + k * 1048576 ∧ Hid (∀ m, m < k → LegS (wordsS (startS s) l ord m) (l.getD (ord.getD m 0).toNat dA))) (fun i _ => ord.length - (intOf i).toNat)
      case atStart => exact ⟨0, s.length, by omega, rfl, hbel, hmap0.out, by omega, by show ∀ m, _; intro m h; omega⟩
      case round =>
        clear hmap0 hbel
        obtain ⟨k, n, hk, rfl, hbel, hmap, hn, hok⟩ := hrel
        by_cases hlt : k < ord.length
        · obtain ⟨x, hx, hxl⟩ := ord_at HM.out k hlt
          obtain ⟨p, hp⟩ : ∃ p, l[x]? = some p := ⟨_, List.getElem?_eq_getElem hxl⟩
          obtain ⟨b, off, rfl, hbb, o1⟩ := HV.out k _ hx
          obtain ⟨b2, off2, vr, vw, vs, rfl, hb2, hav, hc⟩ := HU.out x p hp
          have HA := Lib.hid (att_at l ord k x p hx hp)
          have HC := Lib.hid hc
          have HT := Lib.hid (words_step (startS s) l ord k x p hx hp)
          have HAV := Lib.hid hav
          have hfp : Hid (Fine p) := HF.out p (List.mem_of_getElem? hp)
          have o2 := (hbel.cell (p := ⟨b, off + k, none⟩) hbb).trans o1
          have hxi : (x : Int) < l.length := by omega
          have hx0 : (0 : Int) ≤ x := by omega
          have hkb : k < 1048576 := Nat.lt_of_lt_of_le hlt hol
          clear o1 hx hp hc hav
          have x0 : wr.cell? ⟨b2, off2 + x * 12, none⟩ = some (.int .i64 p.th) := (hbel.cell (p := ⟨b2, off2 + x * 12, none⟩) hb2).trans (HC.out 0 _ rfl)
          have x1 : wr.cell? ⟨b2, off2 + x * 12 + 1, none⟩ = some (.int .i64 p.tr) := (hbel.cell (p := ⟨b2, off2 + x * 12 + 1, none⟩) hb2).trans (HC.out 1 _ rfl)
          have x2 : wr.cell? ⟨b2, off2 + x * 12 + 2, none⟩ = some (.bool p.real) := (hbel.cell (p := ⟨b2, off2 + x * 12 + 2, none⟩) hb2).trans (HC.out 2 _ rfl)
          have x3 : wr.cell? ⟨b2, off2 + x * 12 + 3, none⟩ = some (.int .i64 p.fr) := (hbel.cell (p := ⟨b2, off2 + x * 12 + 3, none⟩) hb2).trans (HC.out 3 _ rfl)
          have x4 : wr.cell? ⟨b2, off2 + x * 12 + 4, none⟩ = some (.int .i64 p.un) := (hbel.cell (p := ⟨b2, off2 + x * 12 + 4, none⟩) hb2).trans (HC.out 4 _ rfl)
          have x5 : wr.cell? ⟨b2, off2 + x * 12 + 5, none⟩ = some (.int .i64 p.en) := (hbel.cell (p := ⟨b2, off2 + x * 12 + 5, none⟩) hb2).trans (HC.out 5 _ rfl)
          have x6 : wr.cell? ⟨b2, off2 + x * 12 + 6, none⟩ = some (.int .i64 p.st) := (hbel.cell (p := ⟨b2, off2 + x * 12 + 6, none⟩) hb2).trans (HC.out 6 _ rfl)
          have x7 : wr.cell? ⟨b2, off2 + x * 12 + 7, none⟩ = some (.int .i64 p.sp) := (hbel.cell (p := ⟨b2, off2 + x * 12 + 7, none⟩) hb2).trans (HC.out 7 _ rfl)
          have x8 : wr.cell? ⟨b2, off2 + x * 12 + 8, none⟩ = some (vr) := (hbel.cell (p := ⟨b2, off2 + x * 12 + 8, none⟩) hb2).trans (HC.out 8 _ rfl)
          have x9 : wr.cell? ⟨b2, off2 + x * 12 + 9, none⟩ = some (vw) := (hbel.cell (p := ⟨b2, off2 + x * 12 + 9, none⟩) hb2).trans (HC.out 9 _ rfl)
          have x10 : wr.cell? ⟨b2, off2 + x * 12 + 10, none⟩ = some (vs) := (hbel.cell (p := ⟨b2, off2 + x * 12 + 10, none⟩) hb2).trans (HC.out 10 _ rfl)
          have x11 : wr.cell? ⟨b2, off2 + x * 12 + 11, none⟩ = some (.slice none 0 0) := (hbel.cell (p := ⟨b2, off2 + x * 12 + 11, none⟩) hb2).trans (HC.out 11 _ rfl)
          by_cases hL : LegS (wordsS (startS s) l ord k) p
          case neg =>
            have hlb := legB_f hL
            have hfin : Hid (LegalS s l ord k) := Or.inr ⟨HM.out, Or.inl ⟨k, hlt, rfl, hok.out, by rw [HA.out]; exact hL⟩⟩
            clear hL
            go_wp2_with (go_at_call 21; refine (legal_any p _ _ _ w1.heap.size n _ _ (HAV.out.th hbel) hmap.out hfp.out.rd hfp.out.l1 hfp.out.l2 hfp.out.l3).mono ?_; rintro e w3 ⟨rfl, hb3⟩; rw [hlb])
            go_ret
            exact ⟨_, rfl, hfin.out, Bth hbel hb3⟩
          case pos =>
            have hlb := legB_t hL
            have HL := Lib.hid hL
            clear hL
            go_wp2_with (first
              | (go_at_call 21
                 refine (legal_any p _ _ _ w1.heap.size n _ _ (HAV.out.th hbel) hmap.out hfp.out.rd hfp.out.l1 hfp.out.l2 hfp.out.l3).mono ?_
                 rintro e w3 ⟨rfl, hb3⟩
                 rw [hlb]
                 have hbel3 := Bth hbel hb3
                 have y0 : w3.cell? ⟨b2, off2 + x * 12, none⟩ = some (.int .i64 p.th) := (hbel3.cell (p := ⟨b2, off2 + x * 12, none⟩) hb2).trans (HC.out 0 _ rfl)
                 have y1 : w3.cell? ⟨b2, off2 + x * 12 + 1, none⟩ = some (.int .i64 p.tr) := (hbel3.cell (p := ⟨b2, off2 + x * 12 + 1, none⟩) hb2).trans (HC.out 1 _ rfl)
                 have y2 : w3.cell? ⟨b2, off2 + x * 12 + 2, none⟩ = some (.bool p.real) := (hbel3.cell (p := ⟨b2, off2 + x * 12 + 2, none⟩) hb2).trans (HC.out 2 _ rfl)
                 have y3 : w3.cell? ⟨b2, off2 + x * 12 + 3, none⟩ = some (.int .i64 p.fr) := (hbel3.cell (p := ⟨b2, off2 + x * 12 + 3, none⟩) hb2).trans (HC.out 3 _ rfl)
                 have y4 : w3.cell? ⟨b2, off2 + x * 12 + 4, none⟩ = some (.int .i64 p.un) := (hbel3.cell (p := ⟨b2, off2 + x * 12 + 4, none⟩) hb2).trans (HC.out 4 _ rfl)
                 have y5 : w3.cell? ⟨b2, off2 + x * 12 + 5, none⟩ = some (.int .i64 p.en) := (hbel3.cell (p := ⟨b2, off2 + x * 12 + 5, none⟩) hb2).trans (HC.out 5 _ rfl)
                 have y6 : w3.cell? ⟨b2, off2 + x * 12 + 6, none⟩ = some (.int .i64 p.st) := (hbel3.cell (p := ⟨b2, off2 + x * 12 + 6, none⟩) hb2).trans (HC.out 6 _ rfl)
                 have y7 : w3.cell? ⟨b2, off2 + x * 12 + 7, none⟩ = some (.int .i64 p.sp) := (hbel3.cell (p := ⟨b2, off2 + x * 12 + 7, none⟩) hb2).trans (HC.out 7 _ rfl)
                 have y8 : w3.cell? ⟨b2, off2 + x * 12 + 8, none⟩ = some (vr) := (hbel3.cell (p := ⟨b2, off2 + x * 12 + 8, none⟩) hb2).trans (HC.out 8 _ rfl)
                 have y9 : w3.cell? ⟨b2, off2 + x * 12 + 9, none⟩ = some (vw) := (hbel3.cell (p := ⟨b2, off2 + x * 12 + 9, none⟩) hb2).trans (HC.out 9 _ rfl)
                 have y10 : w3.cell? ⟨b2, off2 + x * 12 + 10, none⟩ = some (vs) := (hbel3.cell (p := ⟨b2, off2 + x * 12 + 10, none⟩) hb2).trans (HC.out 10 _ rfl)
                 have y11 : w3.cell? ⟨b2, off2 + x * 12 + 11, none⟩ = some (.slice none 0 0) := (hbel3.cell (p := ⟨b2, off2 + x * 12 + 11, none⟩) hb2).trans (HC.out 11 _ rfl)
                 clear x0 x1 x2 x3 x4 x5 x6 x7 x8 x9 x10 x11)
              | (go_at_call 22
                 refine (apply_any p _ _ _ w1.heap.size n _ w _ HAV.out hbel3 hbm (hmap.out.th hb3) hfp.out.wr hfp.out.l2 (by omega)).mono ?_
                 rintro e w4 ⟨rfl, hb4, hm4⟩))
            exact ⟨⟨k + 1, n + p.writes.length, by omega, by go_num, hb4, by show MapIs _ _ _ _; rw [HT.out]; exact hm4, by have := hfp.out.l2; omega, by
              show ∀ m, _
              intro m hm
              by_cases e : m = k
              · subst e; rw [HA.out]; exact HL.out
              · exact hok.out m (by omega)⟩, by (simp [intOf]) <;> omega⟩
        · have hfin : Hid (LegalS s l ord (-1)) := Or.inr ⟨HM.out, Or.inr ⟨rfl, fun m hm => hok.out m (by omega)⟩⟩
          go_wp2_with fail
          go_ret
          exact ⟨_, rfl, hfin.out, hbel⟩
end Go.Proofs.Ytnjcebfbfecdeaa
