/-
  The first order that is timely and legal: the reference's search (Find), over the orders by places; whether two rows of numbers are the same (Ints).
-/
import Derived.Test.YtnjcebfbfecdeaaPerm
import Derived.Test.YtnjcebfbfecdeaaRLegal
import Derived.Test.YtnjcebfbfecdeaaRTime
import Derived.Deep.LoopGhost
import Derived.Test.YtnjcebfbfecdeaaOrder
set_option linter.unusedVariables false
namespace Go.Proofs.Ytnjcebfbfecdeaa
open Go.RowKit Go.Maps
theorem info3z : (Try.prog.info? 3).map (fun i => (i.zero, i.size, i.bytes)) = some (some (.int .i64 0), 1, 8) := by kernel_rfl
set_option maxRecDepth 100000 in
set_option maxHeartbeats 1600000 in
theorem ints_any (v u : Value) (xs ys : List Int) (w : World) (hv : IntsAt w v xs) (hu : IntsAt w u ys) (hxb : xs.length ≤ 1048576) :
    Calls Try.prog 20 #[v, u] w fun e w' => e = .returned (.bool (decide (xs = ys))) ∧ Below w.heap.size w w' := by
  obtain ⟨A, c, rfl, hc, hv⟩ := hv
  obtain ⟨B, c2, rfl, hc2, hu⟩ := hu
  have HV := Lib.hid hv
  have HU := Lib.hid hu
  clear hv hu
  by_cases hl : xs.length = ys.length
  case neg =>
    have hne : ((xs.length : Int) != (ys.length : Int)) = true := by rw [bne_iff_ne]; omega
    have hd : Hid (decide (xs = ys) = false) := decide_eq_false (fun e => hl (by rw [e]))
    clear hl
    go_enter Try.func20, Try.ntmps20
    go_wp2_with fail
    go_ret
    exact ⟨by rw [hd.out]; rfl, Bre _⟩
  have hne : ((xs.length : Int) != (ys.length : Int)) = false := by simp [hl]
  have HLE := Lib.hid hl
  clear hl
  go_enter Try.func20, Try.ntmps20
  go_wp2_with fail
  go_loopw [5] (fun i wr => ∃ k : Nat, k ≤ xs.length ∧ i = .int .i64 k ∧ Hid (xs.take k = ys.take k) ∧ Below w.heap.size w wr) (fun i _ => xs.length - (intOf i).toNat)
  case atStart => exact ⟨0, by omega, rfl, by show _ = _; simp, Bre _⟩
  case round =>
    obtain ⟨k, hk, rfl, hok, hbel⟩ := hrel
    by_cases hlt : k < xs.length
    · obtain ⟨x, hx⟩ : ∃ x, xs[k]? = some x := ⟨_, List.getElem?_eq_getElem hlt⟩
      have hky : k < ys.length := by rw [← HLE.out]; exact hlt
      obtain ⟨y, hy⟩ : ∃ y, ys[k]? = some y := ⟨_, List.getElem?_eq_getElem hky⟩
      obtain ⟨b, off, rfl, hb, h1⟩ := HV.out k x hx
      obtain ⟨b2, off2, rfl, hb2, h2⟩ := HU.out k y hy
      have g1 := (hbel.cell (p := ⟨b, off + k, none⟩) hb).trans h1
      have g2 := (hbel.cell (p := ⟨b2, off2 + k, none⟩) hb2).trans h2
      have k0 : (0 : Int) ≤ (k : Int) := by omega
      have kx : (k : Int) < (xs.length : Int) := by omega
      have ky : (k : Int) < (ys.length : Int) := by omega
      have T1 := Lib.hid (take_snoc xs k x hx)
      have T2 := Lib.hid (take_snoc ys k y hy)
      have HXk := Lib.hid hx
      have HYk := Lib.hid hy
      clear h1 h2 hx hy
      by_cases e : x = y
      · have hn : (x != y) = false := by simp [e]
        have hok' : Hid (xs.take (k + 1) = ys.take (k + 1)) := by show _ = _; rw [T1.out, T2.out, hok.out, e]
        clear e
        go_wp2_with fail
        go_region_held3 (fun w' => w'.cell? ⟨b, off + k, none⟩ = some (.int .i64 x) ∧ w'.cell? ⟨b2, off2 + k, none⟩ = some (.int .i64 y)) (go_keep) (fail)
        go_wp2_with fail
        exact ⟨⟨k + 1, by omega, by go_num, hok', Bdrew hbel⟩, by (simp [intOf]) <;> omega⟩
      · have hn : (x != y) = true := by rw [bne_iff_ne]; exact e
        have hd : Hid (decide (xs = ys) = false) := decide_eq_false (fun h => e (by
          have h1 := HXk.out
          rw [h, HYk.out] at h1
          exact (Option.some.inj h1).symm))
        clear e
        go_wp2_with fail
        go_region_held3 (fun w' => w'.cell? ⟨b, off + k, none⟩ = some (.int .i64 x) ∧ w'.cell? ⟨b2, off2 + k, none⟩ = some (.int .i64 y)) (go_keep) (fail)
        go_wp2_with fail
        go_ret
        exact ⟨by rw [hd.out]; rfl, Bdrew hbel⟩
    · have hd : Hid (decide (xs = ys) = true) := decide_eq_true (by
        have h := hok.out
        have e : k = xs.length := by omega
        rw [e, List.take_length, HLE.out, List.take_length] at h
        exact h)
      go_wp2_with fail
      go_ret
      exact ⟨by rw [hd.out]; rfl, hbel⟩
theorem row_swp {w : World} {g n c j : Nat} {o : List Int} {x0 xj : Int} (h : w.rowIs g 3 n (fun i => .int .i64 (o.getD i 0))) (hl : o.length = n) (hc : c < n) (hj : j < n) (h0 : o.getD c 0 = x0) (h1 : o.getD j 0 = xj) :
    ((w.setCell ⟨g, c, none⟩ (.int .i64 xj)).setCell ⟨g, j, none⟩ (.int .i64 x0)).drew.rowIs g 3 n (fun i => .int .i64 ((swp o c j).getD i 0)) := by
  refine (((h.set c (.int .i64 xj)).set j (.int .i64 x0)).congr (g := fun i => .int .i64 ((swp o c j).getD i 0)) (fun i hi => ?_)).drew
  show (if i = j then Value.int .i64 x0 else if i = c then Value.int .i64 xj else Value.int .i64 (o.getD i 0)) = Value.int .i64 ((swp o c j).getD i 0)
  rw [swp_at o c j i (by omega) (by omega), h0, h1]
  split
  · rfl
  · split <;> rfl
theorem wrap_k2 {k : Nat} (h1 : 0 < k) (h2 : k ≤ 5) : wrap64 ((k : Int) - 2) = ((k - 1 : Nat) : Int) - 1 := by unfold wrap64; omega
set_option maxRecDepth 100000 in
set_option maxHeartbeats 9600000 in
theorem rfind_any (s : List Int) (l : List Att) (us u : Value) (w : World) (hfi : ∀ p ∈ l, Fine p) (hl : l.length ≤ 5) (hs : IntsAt w us s) (hu : AttsAt w u l) :
    Calls Try.prog 19 #[us, u] w fun e w' => ∃ v', e = .returned (.tuple #[v', .bool (findF s l l.length []).isSome]) ∧ (∀ r, findF s l l.length [] = some r → IntsAt w' v' r) ∧ (findF s l l.length [] = none → v' = .slice none 0 0) ∧ Below w.heap.size w w' := by
  have HS := Lib.hid hs
  have HU := Lib.hid hu
  have HF := Lib.hid hfi
  obtain ⟨Au, cu, huv, hcu, -⟩ := hu
  subst huv
  clear hs hfi
  generalize hn : l.length = n at *
  have HN := Lib.hid hn
  clear hn
  have hmk := fun w => run_make_row' (P := Try.prog) 24 3 (.int .i64 0) 8 Try.underlying24 info3z rfl .i64 .i64 n (by omega) (by omega) w
  go_enter Try.func19, Try.ntmps19
  go_wp2_with fail
  clear hmk
  go_loopw [7] (fun i wr => ∃ k : Nat, k ≤ n ∧ i = .int .i64 k ∧ wr.rowIs w.heap.size 3 n (fun j => .int .i64 (if j < k then (j : Int) else 0)) ∧ Below w.heap.size w wr) (fun i _ => n - (intOf i).toNat)
  case atStart =>
    exact ⟨0, by omega, rfl, (World.rowIs_made w (.int .i64 0) n 3).congr (fun i hi => by simp), Bal (Bre _) _⟩
  case round =>
    obtain ⟨k, hk, rfl, hrow, hbel⟩ := hrel
    by_cases hlt : k < n
    · have c := hrow.cell hlt
      have fz := hrow.frozen k
      have hgl := hrow.lt
      have k0 : (0 : Int) ≤ (k : Int) := by omega
      have kn : (k : Int) < (n : Int) := by omega
      have HRo := Lib.hid hrow
      clear hrow
      go_wp2_with fail
      exact ⟨⟨k + 1, by omega, by go_num, (HRo.out.set k (.int .i64 k)).congr (fun j hj => by
        by_cases e : j = k
        · subst e; simp
        · simp only [if_neg e]
          by_cases e2 : j < k
          · rw [if_pos e2, if_pos (by omega)]
          · rw [if_neg e2, if_neg (by omega)]), Bset hbel (Nat.le_refl _) _⟩, by (simp [intOf]) <;> omega⟩
    · obtain rfl : k = n := by omega
      have hrow0 : Hid (wr.rowIs w.heap.size 3 k (fun j => .int .i64 ((idn k).getD j 0))) := hrow.congr (fun i hi => by
        rw [if_pos hi, List.getD, idn_get _ _ hi]; rfl)
      clear hrow
      go_wp2_with fail
      have hk6 : k < 6 := by omega
      have hbel00 := hbel
      go_loopg [8] ((allP k).length) (fun m v wr => ∃ (q : Nat) (o : List Int), m + q = (allP k).length ∧ Hid ((allP k)[q]? = some o) ∧ Hid (wr.rowIs w.heap.size 3 k (fun j => .int .i64 (o.getD j 0))) ∧ Below w.heap.size w wr ∧ Hid (∀ (j : Nat) r, j < q → (allP k)[j]? = some r → ¬ Right s l r))
      case atStart => exact ⟨0, idn k, by omega, all_first k hk6, hrow0, hbel, by show ∀ j r, _; intro j r h; omega⟩
      case round =>
        clear hbel hrow0 hbel00
        obtain ⟨q, o, hmq, HQ, HRo, hbel, hno⟩ := hrel
        have hol : o.length = k := all_len k hk6 o (List.mem_of_getElem? HQ.out)
        have HIo : Hid (IntsAt wr (.slice (some ⟨w.heap.size, 0, none⟩) k k) o) := by
          refine ⟨_, _, by rw [hol], by omega, fun i x hi => ?_⟩
          have hil : i < o.length := (List.getElem?_eq_some_iff.1 hi).1
          refine ⟨w.heap.size, 0, rfl, HRo.out.lt, ?_⟩
          rw [Nat.zero_add, HRo.out.cell (by omega), List.getD, hi]; rfl
        have HAT : Hid (AttsAt wr (.slice Au k cu) l) := HU.out.th hbel
        have HSr : Hid (IntsAt wr us s) := HS.out.th hbel
        have hl20 : Hid (l.length ≤ 1048576) := by show _ ≤ _; rw [HN.out]; omega
        have HOL := Lib.hid hol
        clear hol
        by_cases hR : Right s l o
        · have HR0 := Lib.hid hR
          have HTB := Lib.hid (timeB_t hR.1)
          have hfin : Hid (findF s l l.length [] = some o) := find_hit (by rw [HN.out]; exact HQ.out) hR (by rw [HN.out]; exact hno.out)
          clear hR
          go_wp2_with (first
            | (go_at_call 17
               refine (rtimely_any _ _ l o _ hl20.out HAT.out HIo.out).mono ?_
               rintro e w1 ⟨rfl, hb1⟩
               rw [HTB.out])
            | (go_at_call 15
               refine (rlegal_any _ _ _ s l o _ (HSr.out.th hb1) (HAT.out.th hb1) (HIo.out.th hb1) HF.out hl20.out).mono ?_
               rintro e w2 ⟨r, rfl, hr, hb2⟩
               obtain rfl : r = -1 := hr.unique HR0.out.2))
          refine bodyPost_ret (results_tmp2 rfl _ _ _) rfl ?_
          have h0 := hfin.out
          rw [HN.out] at h0
          refine ⟨_, by rw [h0]; rfl, fun r' h => ?_, fun h => (by rw [h0] at h; cases h), Bth hbel (Bth hb1 hb2)⟩
          rw [h0] at h
          cases h
          exact HIo.out.th (Bth hb1 hb2)
        · have HNR := Lib.hid hR
          have hk1 : 0 < k := by
            rcases Nat.eq_zero_or_pos k with e | e
            · exfalso
              have h1 := HN.out
              have h2 := HOL.out
              rw [e] at h1 h2
              have h3 := List.eq_nil_of_length_eq_zero h1
              have h4 := List.eq_nil_of_length_eq_zero h2
              subst h3 h4
              exact hR (right_nil s)
            · exact e
          clear hR
          cases htb : timeB l o
          · have HTB := Lib.hid htb
            clear htb
            go_upto_region 10 with (go_at_call 17; refine (rtimely_any _ _ l o _ hl20.out HAT.out HIo.out).mono ?_; rintro e wx ⟨rfl, hbx⟩; rw [HTB.out])
            have hrow : Hid (wx.rowIs w.heap.size 3 k (fun j => .int .i64 (o.getD j 0))) := HRo.out.of_block (hbx.block _ HRo.out.lt)
            have hbw : Below w.heap.size w wx := Bth hbel hbx
            clear HIo HAT HSr hbx HRo hbel
            have hkm : wrap64 ((k : Int) - 2) = ((k - 1 : Nat) : Int) - 1 := wrap_k2 hk1 hl
            go_wp2_with fail
            clear hkm
            go_loopw [8] (fun i wr => ∃ c : Nat, c < k ∧ i = .int .i64 ((c : Int) - 1) ∧ Hid (piv o (k - 1) = piv o c) ∧ Hid (wr.rowIs w.heap.size 3 k (fun j => .int .i64 (o.getD j 0))) ∧ Below w.heap.size w wr) (fun i _ => (intOf i + 1).toNat)
            case atStart => exact ⟨k - 1, by omega, by congr 1; omega, rfl, hrow, hbw⟩
            case round =>
              clear hrow hbw
              obtain ⟨c, hc, rfl, hpv, hrow, hbw⟩ := hrel
              cases c with
              | zero =>
                have hnn : nxt o = none := by
                  unfold nxt
                  rw [HOL.out, hpv.out]; rfl
                have hlast := next_of hk6 HQ.out
                rw [hnn] at hlast
                have hmiss : Hid (findF s l l.length [] = none) := find_miss (fun j r hj => by
                  rw [HN.out] at hj
                  have h1 := List.getElem?_eq_none_iff.1 hlast.symm
                  have h2 := (List.getElem?_eq_some_iff.1 hj).1
                  by_cases e : j = q
                  · subst e
                    rw [HQ.out] at hj
                    cases hj
                    exact HNR.out
                  · exact hno.out j r (by omega) hj)
                clear hnn hlast
                have hz : ((0 : Nat) : Int) - 1 = -1 := rfl
                rw [hz]
                clear hz
                go_wp2_with fail
                go_region
                all_goals go_wp2_with fail
                all_goals
                  refine bodyPost_ret (results_tmp2 rfl _ _ _) rfl ?_
                  have h0 := hmiss.out
                  rw [HN.out] at h0
                  exact ⟨_, by rw [h0]; rfl, fun r' h => (by rw [h0] at h; cases h), fun _ => rfl, Bdrew hbw⟩
              | succ c =>
                have hz : ((c + 1 : Nat) : Int) - 1 = (c : Int) := by omega
                rw [hz]
                clear hz
                have hck : c < k := by omega
                have e0 := hrow.out.cell hck
                have e1 := hrow.out.cell hc
                have c0 : (0 : Int) ≤ (c : Int) := by omega
                have cn : (c : Int) < (k : Int) := by omega
                have c1 : (0 : Int) ≤ (c : Int) + 1 := by omega
                have cn1 : (c : Int) + 1 < (k : Int) := by omega
                have cw := wrap_small c (by omega)
                have cw2 := wrap_small' c (by omega)
                by_cases hgt : o.getD (c + 1) 0 < o.getD c 0
                · have hpv' : Hid (piv o (k - 1) = piv o c) := by show _ = _; rw [hpv.out, piv, if_pos hgt]
                  generalize o.getD c 0 = x0 at e0 hgt
                  generalize o.getD (c + 1) 0 = x1 at e1 hgt
                  go_wp2_with fail
                  go_region_held3 (fun w' => w'.cell? ⟨w.heap.size, c, none⟩ = some (.int .i64 x0) ∧ w'.cell? ⟨w.heap.size, c + 1, none⟩ = some (.int .i64 x1)) (go_keep) (fail)
                  clear cw cw2
                  go_wp2_with fail
                  exact ⟨⟨c, by omega, by go_num, hpv', hrow.out.drew, Bdrew hbw⟩, by (simp [intOf]) <;> omega⟩
                · have hpv' : Hid (piv o (k - 1) = some c) := by show _ = _; rw [hpv.out, piv, if_neg hgt]
                  have hgt2 : Hid (¬ o.getD (c + 1) 0 < o.getD c 0) := hgt
                  generalize hx0 : o.getD c 0 = x0 at e0 hgt
                  generalize hx1 : o.getD (c + 1) 0 = x1 at e1 hgt
                  have HX0 := Lib.hid hx0
                  have HC1 : Hid (¬ o.getD (c + 1) 0 < x0) := by rw [← hx0]; exact hgt2.out
                  clear hx0 hx1 hgt2 hpv
                  go_wp2_with fail
                  go_region_held3 (fun w' => w'.cell? ⟨w.heap.size, c, none⟩ = some (.int .i64 x0) ∧ w'.cell? ⟨w.heap.size, c + 1, none⟩ = some (.int .i64 x1)) (go_keep) (fail)
                  have hrd : Hid (wr.drew.rowIs w.heap.size 3 k (fun j => .int .i64 (o.getD j 0))) := hrow.out.drew
                  have hbd := Bdrew hbw
                  generalize wr.drew = wd at hrd hbd e0 e1 ⊢
                  clear cw cw2 e0 e1 hrow hbw
                  go_wp2_with fail
                  clear hgt
                  go_loopw [9] (fun i wr => ∃ j : Nat, c + 1 ≤ j ∧ j < k ∧ i = .int .i64 j ∧ Hid (kk o x0 (k - 1) = kk o x0 j) ∧ Hid (wr.rowIs w.heap.size 3 k (fun j => .int .i64 (o.getD j 0))) ∧ Below w.heap.size w wr) (fun i _ => (intOf i).toNat)
                  case atStart => exact ⟨k - 1, by omega, by omega, by congr 1; omega, rfl, hrd, hbd⟩
                  case round =>
                    clear hrd hbd
                    obtain ⟨j, hcj, hjk, rfl, hkk, hrow, hbw⟩ := hrel
                    have e0 := hrow.out.cell hck
                    have ej := hrow.out.cell hjk
                    have hx0 := HX0.out
                    rw [hx0] at e0
                    clear hx0
                    have j0 : (0 : Int) ≤ (j : Int) := by omega
                    have jn : (j : Int) < (k : Int) := by omega
                    by_cases hlt2 : o.getD j 0 < x0
                    · have hne : j ≠ c + 1 := fun e => by rw [e] at hlt2; have h9 := HC1.out; omega
                      have hkk' : Hid (kk o x0 (k - 1) = kk o x0 (j - 1)) := by
                        show _ = _
                        rw [hkk.out]
                        obtain ⟨j', hj'⟩ : ∃ j', j = j' + 1 := ⟨j - 1, by omega⟩
                        rw [hj'] at hlt2 ⊢
                        rw [kk, if_pos hlt2]; rfl
                      generalize o.getD j 0 = xj at ej hlt2
                      go_wp2_with fail
                      go_region_held3 (fun w' => w'.cell? ⟨w.heap.size, c, none⟩ = some (.int .i64 x0) ∧ w'.cell? ⟨w.heap.size, j, none⟩ = some (.int .i64 xj)) (go_keep) (fail)
                      go_wp2_with fail
                      exact ⟨⟨j - 1, by omega, by omega, by congr 1; omega, hkk', hrow.out.drew, Bdrew hbw⟩, by (simp [intOf]) <;> omega⟩
                    · have hkk' : Hid (kk o x0 (k - 1) = j) := by
                        show _ = _
                        rw [hkk.out]
                        cases j with
                        | zero => rfl
                        | succ j => rw [kk, if_neg hlt2]
                      generalize hxj : o.getD j 0 = xj at ej hlt2
                      have HXJ := Lib.hid hxj
                      clear hxj
                      go_wp2_with fail
                      go_region_held3 (fun w' => w'.cell? ⟨w.heap.size, c, none⟩ = some (.int .i64 x0) ∧ w'.cell? ⟨w.heap.size, j, none⟩ = some (.int .i64 xj)) (go_keep) (fail)
                      have hrd : Hid (wr.drew.rowIs w.heap.size 3 k (fun j => .int .i64 (o.getD j 0))) := hrow.out.drew
                      have hbd := Bdrew hbw
                      have d0 : wr.drew.cell? ⟨w.heap.size, c, none⟩ = some (.int .i64 x0) := e0
                      have dj : wr.drew.cell? ⟨w.heap.size, j, none⟩ = some (.int .i64 xj) := ej
                      generalize wr.drew = wd at hrd hbd d0 dj ⊢
                      have fzc := hrd.out.frozen c
                      have fzj := hrd.out.frozen j
                      have hgd := hrd.out.lt
                      clear e0 ej hrow hbw hkk
                      go_upto_region 18 with fail
                      clear hlt2
                      have hcj1 : c ≠ j := by omega
                      have hcj2 : j ≠ c := by omega
                      go_cut [] from 28 to 113 (fun w5 => Hid (w5.rowIs w.heap.size 3 k (fun i => .int .i64 ((swp o c j).getD i 0))) ∧ Below w.heap.size w w5)
                      case first =>
                        go_region
                        all_goals go_wp2_with fail
                        all_goals go_meet
                        all_goals exact ⟨row_swp hrd.out HOL.out hck hjk HX0.out HXJ.out, Bdrew (Bset (Bset hbd (Nat.le_refl _) _) (Nat.le_refl _) _)⟩
                      case rest =>
                        obtain ⟨hrs, hbs⟩ := hcut
                        clear hrd hbd d0 dj fzc fzj hgd hcj1 hcj2
                        have hnx : Hid (nxt o = some (rev k (c + 1) (k - 1) (swp o c j))) := by
                          show _ = _
                          unfold nxt
                          rw [HOL.out, hpv'.out]
                          show some (rev k (c + 1) (k - 1) (swp o c (kk o (o.getD c 0) (k - 1)))) = _
                          rw [HX0.out, hkk'.out]
                        have hsl : Hid ((swp o c j).length = k) := by show _ = _; rw [swp_len]; exact HOL.out
                        generalize hR : rev k (c + 1) (k - 1) (swp o c j) = R at hnx
                        have HRR := Lib.hid hR
                        clear hR
                        generalize swp o c j = o1 at hrs hsl HRR
                        go_wp2_with fail
                        go_loopw [10, 11] (fun va vb wr => ∃ (a b f : Nat) (o2 : List Int), va = .int .i64 a ∧ vb = .int .i64 b ∧ a ≤ k ∧ b < k ∧ b ≤ a + f ∧ o2.length = k ∧ Hid (rev f a b o2 = R) ∧ Hid (wr.rowIs w.heap.size 3 k (fun i => .int .i64 (o2.getD i 0))) ∧ Below w.heap.size w wr) (fun va vb _ => (intOf vb - intOf va).toNat)
                        case atStart => exact ⟨c + 1, k - 1, k, o1, by congr 1, by congr 1; omega, by omega, by omega, by omega, hsl.out, HRR, hrs, hbs⟩
                        case round =>
                          clear hrs hbs HRR hsl
                          obtain ⟨a, b, f, o2, rfl, rfl, hak, hbk, hbf, ho2, hR, hrow, hbw⟩ := hrel
                          by_cases hab : a < b
                          · obtain ⟨f, rfl⟩ : ∃ f', f = f' + 1 := ⟨f - 1, by omega⟩
                            have hR' : Hid (rev f (a + 1) (b - 1) (swp o2 a b) = R) := by rw [← rev_step hab]; exact hR.out
                            have hak2 : a < k := by omega
                            have ea := hrow.out.cell hak2
                            have eb := hrow.out.cell hbk
                            have fa := hrow.out.frozen a
                            have fb := hrow.out.frozen b
                            have hgl := hrow.out.lt
                            have a0 : (0 : Int) ≤ (a : Int) := by omega
                            have an : (a : Int) < (k : Int) := by omega
                            have b0 : (0 : Int) ≤ (b : Int) := by omega
                            have bn : (b : Int) < (k : Int) := by omega
                            have hab1 : a ≠ b := by omega
                            have hab2 : b ≠ a := by omega
                            have hl2 : Hid ((swp o2 a b).length = k) := by show _ = _; rw [swp_len]; exact ho2
                            generalize hya : o2.getD a 0 = ya at ea
                            generalize hyb : o2.getD b 0 = yb at eb
                            have HYA := Lib.hid hya
                            have HYB := Lib.hid hyb
                            have HO2 := Lib.hid ho2
                            have HRW := hrow
                            clear hya hyb ho2 hR hrow
                            go_wp2_with fail
                            go_region
                            all_goals go_wp2_with fail
                            all_goals exact ⟨⟨a + 1, b - 1, f, swp o2 a b, by congr 1, by congr 1; omega, by omega, by omega, by omega, hl2.out, hR', row_swp HRW.out HO2.out hak2 hbk HYA.out HYB.out, Bdrew (Bset (Bset hbw (Nat.le_refl _) _) (Nat.le_refl _) _)⟩, by (simp [intOf]) <;> omega⟩
                          · have hRo : o2 = R := by rw [← hR.out, rev_done hab]
                            subst hRo
                            have hnq : Hid ((allP k)[q + 1]? = some o2) := by
                              have := next_of hk6 HQ.out
                              rw [hnx.out] at this
                              exact this.symm
                            have hgk : q + 1 < (allP k).length := (List.getElem?_eq_some_iff.1 hnq.out).1
                            have hno' : Hid (∀ (j : Nat) r, j < q + 1 → (allP k)[j]? = some r → ¬ Right s l r) := by
                              show ∀ (j : Nat) r, _
                              intro j r hj hjr
                              by_cases e : j = q
                              · subst e
                                rw [HQ.out] at hjr
                                cases hjr
                                exact HNR.out
                              · exact hno.out j r (by omega) hjr
                            go_wp2_with fail
                            go_roundg (gk - 1)
                            case measure => omega
                            case rel => exact ⟨q + 1, o2, by omega, hnq, hrow, hbw, hno'⟩
          · have HTB := Lib.hid htb
            have hT : Hid (TimeS l o) := by
              by_cases h : TimeS l o
              · exact h
              · rw [timeB_f h] at htb; cases htb
            clear htb
            go_upto_region 10 with (first
              | (go_at_call 17
                 refine (rtimely_any _ _ l o _ hl20.out HAT.out HIo.out).mono ?_
                 rintro e w1 ⟨rfl, hb1⟩
                 rw [HTB.out])
              | (go_at_call 15
                 refine (rlegal_any _ _ _ s l o _ (HSr.out.th hb1) (HAT.out.th hb1) (HIo.out.th hb1) HF.out hl20.out).mono ?_
                 rintro e wx ⟨r, rfl, hr, hb2⟩
                 have hbx := Bth hb1 hb2
                 have hr1 : (r == -1) = false := by
                   rw [beq_eq_false_iff_ne]
                   intro e
                   rw [e] at hr
                   exact HNR.out ⟨hT.out, hr⟩
                 clear hr))
            have hrow : Hid (wx.rowIs w.heap.size 3 k (fun j => .int .i64 (o.getD j 0))) := HRo.out.of_block (hbx.block _ HRo.out.lt)
            have hbw : Below w.heap.size w wx := Bth hbel hbx
            clear HIo HAT HSr hbx HRo hbel
            have hkm : wrap64 ((k : Int) - 2) = ((k - 1 : Nat) : Int) - 1 := wrap_k2 hk1 hl
            go_wp2_with fail
            clear hkm
            go_loopw [8] (fun i wr => ∃ c : Nat, c < k ∧ i = .int .i64 ((c : Int) - 1) ∧ Hid (piv o (k - 1) = piv o c) ∧ Hid (wr.rowIs w.heap.size 3 k (fun j => .int .i64 (o.getD j 0))) ∧ Below w.heap.size w wr) (fun i _ => (intOf i + 1).toNat)
            case atStart => exact ⟨k - 1, by omega, by congr 1; omega, rfl, hrow, hbw⟩
            case round =>
              clear hrow hbw
              obtain ⟨c, hc, rfl, hpv, hrow, hbw⟩ := hrel
              cases c with
              | zero =>
                have hnn : nxt o = none := by
                  unfold nxt
                  rw [HOL.out, hpv.out]; rfl
                have hlast := next_of hk6 HQ.out
                rw [hnn] at hlast
                have hmiss : Hid (findF s l l.length [] = none) := find_miss (fun j r hj => by
                  rw [HN.out] at hj
                  have h1 := List.getElem?_eq_none_iff.1 hlast.symm
                  have h2 := (List.getElem?_eq_some_iff.1 hj).1
                  by_cases e : j = q
                  · subst e
                    rw [HQ.out] at hj
                    cases hj
                    exact HNR.out
                  · exact hno.out j r (by omega) hj)
                clear hnn hlast
                have hz : ((0 : Nat) : Int) - 1 = -1 := rfl
                rw [hz]
                clear hz
                go_wp2_with fail
                go_region
                all_goals go_wp2_with fail
                all_goals
                  refine bodyPost_ret (results_tmp2 rfl _ _ _) rfl ?_
                  have h0 := hmiss.out
                  rw [HN.out] at h0
                  exact ⟨_, by rw [h0]; rfl, fun r' h => (by rw [h0] at h; cases h), fun _ => rfl, Bdrew hbw⟩
              | succ c =>
                have hz : ((c + 1 : Nat) : Int) - 1 = (c : Int) := by omega
                rw [hz]
                clear hz
                have hck : c < k := by omega
                have e0 := hrow.out.cell hck
                have e1 := hrow.out.cell hc
                have c0 : (0 : Int) ≤ (c : Int) := by omega
                have cn : (c : Int) < (k : Int) := by omega
                have c1 : (0 : Int) ≤ (c : Int) + 1 := by omega
                have cn1 : (c : Int) + 1 < (k : Int) := by omega
                have cw := wrap_small c (by omega)
                have cw2 := wrap_small' c (by omega)
                by_cases hgt : o.getD (c + 1) 0 < o.getD c 0
                · have hpv' : Hid (piv o (k - 1) = piv o c) := by show _ = _; rw [hpv.out, piv, if_pos hgt]
                  generalize o.getD c 0 = x0 at e0 hgt
                  generalize o.getD (c + 1) 0 = x1 at e1 hgt
                  go_wp2_with fail
                  go_region_held3 (fun w' => w'.cell? ⟨w.heap.size, c, none⟩ = some (.int .i64 x0) ∧ w'.cell? ⟨w.heap.size, c + 1, none⟩ = some (.int .i64 x1)) (go_keep) (fail)
                  clear cw cw2
                  go_wp2_with fail
                  exact ⟨⟨c, by omega, by go_num, hpv', hrow.out.drew, Bdrew hbw⟩, by (simp [intOf]) <;> omega⟩
                · have hpv' : Hid (piv o (k - 1) = some c) := by show _ = _; rw [hpv.out, piv, if_neg hgt]
                  have hgt2 : Hid (¬ o.getD (c + 1) 0 < o.getD c 0) := hgt
                  generalize hx0 : o.getD c 0 = x0 at e0 hgt
                  generalize hx1 : o.getD (c + 1) 0 = x1 at e1 hgt
                  have HX0 := Lib.hid hx0
                  have HC1 : Hid (¬ o.getD (c + 1) 0 < x0) := by rw [← hx0]; exact hgt2.out
                  clear hx0 hx1 hgt2 hpv
                  go_wp2_with fail
                  go_region_held3 (fun w' => w'.cell? ⟨w.heap.size, c, none⟩ = some (.int .i64 x0) ∧ w'.cell? ⟨w.heap.size, c + 1, none⟩ = some (.int .i64 x1)) (go_keep) (fail)
                  have hrd : Hid (wr.drew.rowIs w.heap.size 3 k (fun j => .int .i64 (o.getD j 0))) := hrow.out.drew
                  have hbd := Bdrew hbw
                  generalize wr.drew = wd at hrd hbd e0 e1 ⊢
                  clear cw cw2 e0 e1 hrow hbw
                  go_wp2_with fail
                  clear hgt
                  go_loopw [9] (fun i wr => ∃ j : Nat, c + 1 ≤ j ∧ j < k ∧ i = .int .i64 j ∧ Hid (kk o x0 (k - 1) = kk o x0 j) ∧ Hid (wr.rowIs w.heap.size 3 k (fun j => .int .i64 (o.getD j 0))) ∧ Below w.heap.size w wr) (fun i _ => (intOf i).toNat)
                  case atStart => exact ⟨k - 1, by omega, by omega, by congr 1; omega, rfl, hrd, hbd⟩
                  case round =>
                    clear hrd hbd
                    obtain ⟨j, hcj, hjk, rfl, hkk, hrow, hbw⟩ := hrel
                    have e0 := hrow.out.cell hck
                    have ej := hrow.out.cell hjk
                    have hx0 := HX0.out
                    rw [hx0] at e0
                    clear hx0
                    have j0 : (0 : Int) ≤ (j : Int) := by omega
                    have jn : (j : Int) < (k : Int) := by omega
                    by_cases hlt2 : o.getD j 0 < x0
                    · have hne : j ≠ c + 1 := fun e => by rw [e] at hlt2; have h9 := HC1.out; omega
                      have hkk' : Hid (kk o x0 (k - 1) = kk o x0 (j - 1)) := by
                        show _ = _
                        rw [hkk.out]
                        obtain ⟨j', hj'⟩ : ∃ j', j = j' + 1 := ⟨j - 1, by omega⟩
                        rw [hj'] at hlt2 ⊢
                        rw [kk, if_pos hlt2]; rfl
                      generalize o.getD j 0 = xj at ej hlt2
                      go_wp2_with fail
                      go_region_held3 (fun w' => w'.cell? ⟨w.heap.size, c, none⟩ = some (.int .i64 x0) ∧ w'.cell? ⟨w.heap.size, j, none⟩ = some (.int .i64 xj)) (go_keep) (fail)
                      go_wp2_with fail
                      exact ⟨⟨j - 1, by omega, by omega, by congr 1; omega, hkk', hrow.out.drew, Bdrew hbw⟩, by (simp [intOf]) <;> omega⟩
                    · have hkk' : Hid (kk o x0 (k - 1) = j) := by
                        show _ = _
                        rw [hkk.out]
                        cases j with
                        | zero => rfl
                        | succ j => rw [kk, if_neg hlt2]
                      generalize hxj : o.getD j 0 = xj at ej hlt2
                      have HXJ := Lib.hid hxj
                      clear hxj
                      go_wp2_with fail
                      go_region_held3 (fun w' => w'.cell? ⟨w.heap.size, c, none⟩ = some (.int .i64 x0) ∧ w'.cell? ⟨w.heap.size, j, none⟩ = some (.int .i64 xj)) (go_keep) (fail)
                      have hrd : Hid (wr.drew.rowIs w.heap.size 3 k (fun j => .int .i64 (o.getD j 0))) := hrow.out.drew
                      have hbd := Bdrew hbw
                      have d0 : wr.drew.cell? ⟨w.heap.size, c, none⟩ = some (.int .i64 x0) := e0
                      have dj : wr.drew.cell? ⟨w.heap.size, j, none⟩ = some (.int .i64 xj) := ej
                      generalize wr.drew = wd at hrd hbd d0 dj ⊢
                      have fzc := hrd.out.frozen c
                      have fzj := hrd.out.frozen j
                      have hgd := hrd.out.lt
                      clear e0 ej hrow hbw hkk
                      go_upto_region 18 with fail
                      clear hlt2
                      have hcj1 : c ≠ j := by omega
                      have hcj2 : j ≠ c := by omega
                      go_cut [] from 28 to 113 (fun w5 => Hid (w5.rowIs w.heap.size 3 k (fun i => .int .i64 ((swp o c j).getD i 0))) ∧ Below w.heap.size w w5)
                      case first =>
                        go_region
                        all_goals go_wp2_with fail
                        all_goals go_meet
                        all_goals exact ⟨row_swp hrd.out HOL.out hck hjk HX0.out HXJ.out, Bdrew (Bset (Bset hbd (Nat.le_refl _) _) (Nat.le_refl _) _)⟩
                      case rest =>
                        obtain ⟨hrs, hbs⟩ := hcut
                        clear hrd hbd d0 dj fzc fzj hgd hcj1 hcj2
                        have hnx : Hid (nxt o = some (rev k (c + 1) (k - 1) (swp o c j))) := by
                          show _ = _
                          unfold nxt
                          rw [HOL.out, hpv'.out]
                          show some (rev k (c + 1) (k - 1) (swp o c (kk o (o.getD c 0) (k - 1)))) = _
                          rw [HX0.out, hkk'.out]
                        have hsl : Hid ((swp o c j).length = k) := by show _ = _; rw [swp_len]; exact HOL.out
                        generalize hR : rev k (c + 1) (k - 1) (swp o c j) = R at hnx
                        have HRR := Lib.hid hR
                        clear hR
                        generalize swp o c j = o1 at hrs hsl HRR
                        go_wp2_with fail
                        go_loopw [10, 11] (fun va vb wr => ∃ (a b f : Nat) (o2 : List Int), va = .int .i64 a ∧ vb = .int .i64 b ∧ a ≤ k ∧ b < k ∧ b ≤ a + f ∧ o2.length = k ∧ Hid (rev f a b o2 = R) ∧ Hid (wr.rowIs w.heap.size 3 k (fun i => .int .i64 (o2.getD i 0))) ∧ Below w.heap.size w wr) (fun va vb _ => (intOf vb - intOf va).toNat)
                        case atStart => exact ⟨c + 1, k - 1, k, o1, by congr 1, by congr 1; omega, by omega, by omega, by omega, hsl.out, HRR, hrs, hbs⟩
                        case round =>
                          clear hrs hbs HRR hsl
                          obtain ⟨a, b, f, o2, rfl, rfl, hak, hbk, hbf, ho2, hR, hrow, hbw⟩ := hrel
                          by_cases hab : a < b
                          · obtain ⟨f, rfl⟩ : ∃ f', f = f' + 1 := ⟨f - 1, by omega⟩
                            have hR' : Hid (rev f (a + 1) (b - 1) (swp o2 a b) = R) := by rw [← rev_step hab]; exact hR.out
                            have hak2 : a < k := by omega
                            have ea := hrow.out.cell hak2
                            have eb := hrow.out.cell hbk
                            have fa := hrow.out.frozen a
                            have fb := hrow.out.frozen b
                            have hgl := hrow.out.lt
                            have a0 : (0 : Int) ≤ (a : Int) := by omega
                            have an : (a : Int) < (k : Int) := by omega
                            have b0 : (0 : Int) ≤ (b : Int) := by omega
                            have bn : (b : Int) < (k : Int) := by omega
                            have hab1 : a ≠ b := by omega
                            have hab2 : b ≠ a := by omega
                            have hl2 : Hid ((swp o2 a b).length = k) := by show _ = _; rw [swp_len]; exact ho2
                            generalize hya : o2.getD a 0 = ya at ea
                            generalize hyb : o2.getD b 0 = yb at eb
                            have HYA := Lib.hid hya
                            have HYB := Lib.hid hyb
                            have HO2 := Lib.hid ho2
                            have HRW := hrow
                            clear hya hyb ho2 hR hrow
                            go_wp2_with fail
                            go_region
                            all_goals go_wp2_with fail
                            all_goals exact ⟨⟨a + 1, b - 1, f, swp o2 a b, by congr 1, by congr 1; omega, by omega, by omega, by omega, hl2.out, hR', row_swp HRW.out HO2.out hak2 hbk HYA.out HYB.out, Bdrew (Bset (Bset hbw (Nat.le_refl _) _) (Nat.le_refl _) _)⟩, by (simp [intOf]) <;> omega⟩
                          · have hRo : o2 = R := by rw [← hR.out, rev_done hab]
                            subst hRo
                            have hnq : Hid ((allP k)[q + 1]? = some o2) := by
                              have := next_of hk6 HQ.out
                              rw [hnx.out] at this
                              exact this.symm
                            have hgk : q + 1 < (allP k).length := (List.getElem?_eq_some_iff.1 hnq.out).1
                            have hno' : Hid (∀ (j : Nat) r, j < q + 1 → (allP k)[j]? = some r → ¬ Right s l r) := by
                              show ∀ (j : Nat) r, _
                              intro j r hj hjr
                              by_cases e : j = q
                              · subst e
                                rw [HQ.out] at hjr
                                cases hjr
                                exact HNR.out
                              · exact hno.out j r (by omega) hjr
                            go_wp2_with fail
                            go_roundg (gk - 1)
                            case measure => omega
                            case rel => exact ⟨q + 1, o2, by omega, hnq, hrow, hbw, hno'⟩
end Go.Proofs.Ytnjcebfbfecdeaa
