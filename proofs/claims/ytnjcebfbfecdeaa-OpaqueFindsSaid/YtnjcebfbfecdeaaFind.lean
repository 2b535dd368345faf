/-
  The first order that is timely and legal: the program's search (find, Find).
-/
import Derived.Test.YtnjcebfbfecdeaaFew
import Derived.Test.YtnjcebfbfecdeaaAtts
import Derived.Lib.SliceRun
set_option linter.unusedVariables false
namespace Go.Proofs.Ytnjcebfbfecdeaa
open Go.RowKit Go.Maps
set_option maxRecDepth 100000 in
set_option maxHeartbeats 1600000 in
theorem clone_any (v : Value) (base : Nat) (zs : List Int) (w : World) (hv : w.ownsRow base 3 1 v zs.length (intCells zs)) (hn : zs.length ≤ 1048576) :
    Calls Try.prog 27 #[v] w fun e w' => ∃ v', e = .returned v' ∧ w'.ownsRow w.heap.size 3 1 v' zs.length (intCells zs) ∧ Below w.heap.size w w' := by
  obtain ⟨ib, hib, bz0, bz1, bz2⟩ := info_parts info3
  have hE := fun w a n c n' c' => Lib.run_eql_slice_nil (P := Try.prog) w 24 3 a n c n' c' Try.underlying24
  have hv0 := hv
  rcases hv.2 with ⟨rfl, hz⟩ | ⟨g, c, cur, rfl, -, hg, hc, -, -, -⟩
  · have hz : zs = [] := List.eq_nil_of_length_eq_zero hz
    subst hz
    go_enter Try.func27, Try.ntmps27
    go_wp2_with fail
    go_ret
    exact ⟨_, rfl, World.ownsRow_nil _ _ _ _, Bre _⟩
  · have hgl : g < w.heap.size := (Array.getElem?_eq_some_iff.1 hg).1
    have hnews : Hid (∀ j u, (intCells zs)[j]? = some u → (w.alloc (.cells #[] 3)).cell? ((⟨g, 0, none⟩ : Addr).add j) = some u) := by
      show ∀ j u, _
      intro j u hu
      have hj : j < zs.length := by
        have := (List.getElem?_eq_some_iff.1 hu).1
        simpa [intCells] using this
      rw [Addr.add_lit, Nat.zero_add, ((Bal (Bre w) _).cell (p := ⟨g, j, none⟩) hgl), hv0.cellAt j (by omega)]
      exact hu
    clear hv hv0 hg
    go_enter Try.func27, Try.ntmps27
    go_wp2_with (at_builtin; refine wpList_append_own _ rfl (.tmp 5) (.tmp 6) 24 rfl w.heap.size 3 ib _ 1 8 Try.underlying24 hib bz0 bz1 bz2 rfl (Nat.succ_pos _) (.slice (some ⟨w.heap.size, 0, none⟩) 0 0) 0 [] rfl (World.ownsRow_lit (base := w.heap.size) (e := 3) (size := 1) w #[] 0 (Nat.le_refl _) (by unfold maxLen; omega) rfl) ⟨g, 0, none⟩ zs.length c (intCells zs) rfl (by simp [intCells]) hnews.out (by simp [intCells, Value.oneCell']) (by unfold maxLen; omega) (by omega) (by simp) ?_; intro v' w1 hown hgrow _)
    go_ret
    refine ⟨v', rfl, ?_, (Bal (Bre w) _).grown hgrow (by simp) (fun g hg => ?_)⟩
    · have : w1.ownsRow w.heap.size 3 1 v' (0 + zs.length) ([] ++ intCells zs) := hown
      rwa [Nat.zero_add, List.nil_append] at this
    · have : w.heap.size = g := by simpa [Value.ownBlock] using hg
      omega
/-! ### The search, in plain Lean -/
def Right (s : List Int) (l : List Att) (o : List Int) : Prop := TimeS l o ∧ LegalS s l o (-1)
open Classical in
noncomputable def findF (s : List Int) (l : List Att) : Nat → List Int → Option (List Int)
  | 0, o => if Right s l o then some o else none
  | f + 1, o => (List.range l.length).findSome? fun (i : Nat) => if (i : Int) ∈ o then none else findF s l f (o ++ [(i : Int)])
theorem findF_zero_t {s : List Int} {l : List Att} {o : List Int} (h : Right s l o) : findF s l 0 o = some o := by simp [findF, h]
theorem findF_zero_f {s : List Int} {l : List Att} {o : List Int} (h : ¬ Right s l o) : findF s l 0 o = none := by simp [findF, h]
theorem range_split (n k : Nat) (hk : k < n) : List.range n = List.range k ++ k :: (List.range' (k + 1) (n - (k + 1))) := by
  obtain ⟨m, rfl⟩ : ∃ m, n = k + (1 + m) := ⟨n - (k + 1), by omega⟩
  rw [List.range_eq_range', List.range_eq_range', ← List.range'_append_1, ← List.range'_append_1, show k + (1 + m) - (k + 1) = m by omega]
  simp
theorem findF_some {s : List Int} {l : List Att} {f k : Nat} {o r : List Int} (hk : k < l.length) (hn : (k : Int) ∉ o) (hno : ∀ i, i < k → (i : Int) ∉ o → findF s l f (o ++ [(i : Int)]) = none) (h : findF s l f (o ++ [(k : Int)]) = some r) :
    findF s l (f + 1) o = some r := by
  unfold findF
  rw [range_split _ k hk, List.findSome?_append]
  have h1 : (List.range k).findSome? (fun (i : Nat) => if (i : Int) ∈ o then none else findF s l f (o ++ [(i : Int)])) = none := by
    rw [List.findSome?_eq_none_iff]
    intro i hi
    have hi' : i < k := by simpa using hi
    by_cases e : (i : Int) ∈ o
    · rw [if_pos e]
    · rw [if_neg e]; exact hno i hi' e
  rw [h1]
  simp [hn, h]
theorem findF_none {s : List Int} {l : List Att} {f : Nat} {o : List Int} (hno : ∀ i, i < l.length → (i : Int) ∉ o → findF s l f (o ++ [(i : Int)]) = none) : findF s l (f + 1) o = none := by
  unfold findF
  rw [List.findSome?_eq_none_iff]
  intro i hi
  have hi' : i < l.length := by simpa using hi
  by_cases e : (i : Int) ∈ o
  · rw [if_pos e]
  · rw [if_neg e]; exact hno i hi' e
def FindPost (s : List Int) (l : List Att) (f : Nat) (o : List Int) (w : World) (e : Ending) (w' : World) : Prop :=
  ∃ v', e = .returned (.tuple #[v', .bool (findF s l f o).isSome]) ∧ (∀ r, findF s l f o = some r → IntsAt w' v' r) ∧ (f ≠ 0 → findF s l f o = none → v' = .slice none 0 0) ∧ (f = 0 → IntsAt w' v' o) ∧ Below w.heap.size w w'
set_option maxRecDepth 100000 in
set_option maxHeartbeats 3200000 in
theorem find_any (s : List Int) (l : List Att) (hsw : ∀ x ∈ s, wf64 x) (hfi : ∀ p ∈ l, Fine p) (h1 : l.length ≤ 1048576) (h2 : s.length ≤ 1048576) (f : Nat) : ∀ (us u v : Value) (base : Nat) (o : List Int) (w : World),
    IntsAt w us s → AttsAt w u l → w.ownsRow base 3 1 v o.length (intCells o) → o.length + f = l.length → Calls Try.prog 25 #[us, u, v] w (FindPost s l f o w) := by
  have HW := Lib.hid hsw
  have HF := Lib.hid hfi
  clear hsw hfi
  induction f with
  | zero =>
    intro us u v base o w hs hu hv hlen
    have hlo : o.length = l.length := hlen
    have hol : o.length ≤ 1048576 := by omega
    have HS := Lib.hid hs
    have HU := Lib.hid hu
    have HV0 := ints_own hv
    obtain ⟨Av, cv, hvv, hcv⟩ := own_form hv
    subst hvv
    obtain ⟨Au, cu, huv, hcu, -⟩ := hu
    subst huv
    have HV : Hid (IntsAt w (.slice Av l.length cv) o) := by rw [← hlo]; exact HV0
    rw [hlo]
    clear hs hv HV0 hlo hlen hcv
    cases htb : timeB l o
    · have hf : Hid (findF s l 0 o = none) := findF_zero_f (fun h => by rw [timeB_t h.1] at htb; cases htb)
      have htb := Lib.hid htb
      go_enter Try.func25, Try.ntmps25
      go_wp2_with (go_at_call 16; refine (timely_any _ _ l o _ h1 HU.out HV.out).mono ?_; rintro e w1 ⟨rfl, hb1⟩; rw [htb.out])
      refine bodyPost_ret (results_tmp2 rfl _ _ _) rfl ?_
      have hf0 := hf.out
      refine ⟨_, (by rw [hf0]; rfl), fun r h => (by rw [hf0] at h; cases h), fun h => absurd rfl h, fun _ => HV.out.th hb1, hb1⟩
    · have HTB := Lib.hid htb
      have HT : Hid (TimeS l o) := by
        by_cases h : TimeS l o
        · exact h
        · rw [timeB_f h] at htb; cases htb
      go_enter Try.func25, Try.ntmps25
      go_wp2_with (first
        | (go_at_call 16; refine (timely_any _ _ l o _ h1 HU.out HV.out).mono ?_; rintro e w1 ⟨rfl, hb1⟩; rw [HTB.out])
        | (go_at_call 14; refine (Legal_any _ _ _ s l o _ (HS.out.th hb1) (HU.out.th hb1) (HV.out.th hb1) HW.out HF.out h1 h2).mono ?_; rintro e w2 ⟨r, rfl, hr, hb2⟩))
      refine bodyPost_ret (results_tmp2 rfl _ _ _) rfl ?_
      by_cases e : r = -1
      · subst e
        have hf := findF_zero_t (s := s) (l := l) (o := o) ⟨HT.out, hr⟩
        refine ⟨_, by rw [hf]; rfl, fun r h => ?_, fun h => absurd rfl h, fun _ => HV.out.th (Bth hb1 hb2), Bth hb1 hb2⟩
        rw [hf] at h
        cases h
        exact HV.out.th (Bth hb1 hb2)
      · have hf := findF_zero_f (s := s) (l := l) (o := o) (fun h => e (hr.unique h.2))
        have e' : (r == -1) = false := by simpa using e
        refine ⟨_, by rw [hf]; simp [e'], fun r h => (by rw [hf] at h; cases h), fun h => absurd rfl h, fun _ => HV.out.th (Bth hb1 hb2), Bth hb1 hb2⟩
  | succ f ih =>
    intro us u v base o w hs hu hv hlen
    have HS := Lib.hid hs
    have HU := Lib.hid hu
    have HO := Lib.hid hv
    have HV := Lib.hid (ints_own hv)
    have hol : o.length < l.length := by omega
    have hol2 : o.length ≤ 1048576 := by omega
    obtain ⟨Av, cv, hvv, hcv⟩ := own_form hv
    subst hvv
    obtain ⟨Au, cu, huv, hcu, -⟩ := hu
    subst huv
    clear hs hv
    obtain ⟨ib, hib, bz0, bz1, bz2⟩ := info_parts info3
    have hne : ((o.length : Int) == (l.length : Int)) = false := by
      rw [beq_eq_false_iff_ne]; omega
    have hoz : ¬ ((o.length : Int) = (l.length : Int)) := by omega
    go_enter Try.func25, Try.ntmps25
    go_wp2_with fail
    go_loopw [29] (fun i wr => ∃ k : Nat, k ≤ l.length ∧ i = .int .i64 k ∧ Below w.heap.size w wr ∧ Hid (∀ i, i < k → (i : Int) ∉ o → findF s l f (o ++ [(i : Int)]) = none)) (fun i _ => l.length - (intOf i).toNat)
    case atStart => exact ⟨0, by omega, rfl, Bre _, by show ∀ i, _; intro i h; omega⟩
    case round =>
      obtain ⟨k, hk, rfl, hbel, hok⟩ := hrel
      by_cases hlt : k < l.length
      · by_cases hm : (k : Int) ∈ o
        · have hm1 : Hid (decide ((k : Int) ∈ o) = true) := decide_eq_true hm
          have hok' : Hid (∀ i, i < k + 1 → (i : Int) ∉ o → findF s l f (o ++ [(i : Int)]) = none) := by
            show ∀ i, _
            intro i hi hn
            by_cases e : i = k
            · subst e; exact absurd hm hn
            · exact hok.out i (by omega) hn
          clear hm hok
          go_wp2_with (go_at_call 26; refine (contains_any _ o _ _ (HV.out.th hbel) hol2).mono ?_; rintro e w1 ⟨rfl, rfl⟩; rw [hm1.out])
          exact ⟨⟨k + 1, by omega, by go_num, hbel, hok'⟩, by (simp [intOf]) <;> omega⟩
        · have hm1 : Hid (decide ((k : Int) ∈ o) = false) := decide_eq_false hm
          have HM := Lib.hid hm
          clear hm
          have hlen2 : Hid ((o ++ [(k : Int)]).length + f = l.length) := by show _ = _; simp; omega
          have hrow : Hid (intCells (o ++ [(k : Int)]) = intCells o ++ [.int .i64 k]) := by show _ = _; simp [intCells]
          have hln : Hid ((o ++ [(k : Int)]).length = o.length + 1) := by show _ = _; simp
          cases hF : findF s l f (o ++ [(k : Int)]) with
          | none =>
            have HF' := Lib.hid hF
            have hok' : Hid (∀ i, i < k + 1 → (i : Int) ∉ o → findF s l f (o ++ [(i : Int)]) = none) := by
              show ∀ i, _
              intro i hi hn
              by_cases e : i = k
              · subst e; exact hF
              · exact hok.out i (by omega) hn
            clear hF hok
            go_wp2_with (first
              | (go_at_call 26; refine (contains_any _ o _ _ (HV.out.th hbel) hol2).mono ?_; rintro e w1 ⟨rfl, rfl⟩; rw [hm1.out])
              | (go_at_call 27; refine (clone_any _ base o _ (own_th HO.out hbel) hol2).mono ?_; rintro e w2 ⟨v2, rfl, ho2, hb2⟩)
              | (at_builtin; refine wpList_append_lies _ rfl (.tmp 39) (.tmp 41) 24 rfl _ 3 ib _ 1 8 Try.underlying24 hib bz0 bz1 bz2 rfl (Nat.succ_pos _) v2 o.length (intCells o) rfl (ho2.alloc _) ⟨w2.heap.size, 0, none⟩ 1 1 [.int .i64 k] rfl rfl (World.news_of_block (heap_alloc_new w2 _)) (by simp [Value.oneCell']) (Nat.succ_pos _) (by unfold maxLen; omega) (by omega) (by have := hb2.size; simp; omega) (w2.heap.size + 1) (by simp) ?_; intro g1 c3 w3 hown hgrow hat hg1; have hb3 := Lib.hid ((Bal hb2 _).grown hgrow (Bal hb2 _).size (fun g hg => (ho2.lt g hg).1)))
              | (go_at_call 25
                 refine (ih _ _ _ _ (o ++ [(k : Int)]) _ (HS.out.th (Bth hbel hb3.out)) (HU.out.th (Bth hbel hb3.out)) (by rw [hln.out, hrow.out]; exact hown) hlen2.out).mono ?_
                 rintro e w4 ⟨v4, rfl, p1, p2, p3, hb4⟩
                 rw [HF'.out]
                 dsimp only [Option.isSome]))
            exact ⟨⟨k + 1, by omega, by go_num, Bth (Bth hbel hb3.out) hb4, hok'⟩, by (simp [intOf]) <;> omega⟩
          | some r =>
            have HF' := Lib.hid hF
            have hfin : Hid (findF s l (f + 1) o = some r) := findF_some hlt HM.out hok.out hF
            clear hF hok
            go_wp2_with (first
              | (go_at_call 26; refine (contains_any _ o _ _ (HV.out.th hbel) hol2).mono ?_; rintro e w1 ⟨rfl, rfl⟩; rw [hm1.out])
              | (go_at_call 27; refine (clone_any _ base o _ (own_th HO.out hbel) hol2).mono ?_; rintro e w2 ⟨v2, rfl, ho2, hb2⟩)
              | (at_builtin; refine wpList_append_lies _ rfl (.tmp 39) (.tmp 41) 24 rfl _ 3 ib _ 1 8 Try.underlying24 hib bz0 bz1 bz2 rfl (Nat.succ_pos _) v2 o.length (intCells o) rfl (ho2.alloc _) ⟨w2.heap.size, 0, none⟩ 1 1 [.int .i64 k] rfl rfl (World.news_of_block (heap_alloc_new w2 _)) (by simp [Value.oneCell']) (Nat.succ_pos _) (by unfold maxLen; omega) (by omega) (by have := hb2.size; simp; omega) (w2.heap.size + 1) (by simp) ?_; intro g1 c3 w3 hown hgrow hat hg1; have hb3 := Lib.hid ((Bal hb2 _).grown hgrow (Bal hb2 _).size (fun g hg => (ho2.lt g hg).1)))
              | (go_at_call 25
                 refine (ih _ _ _ _ (o ++ [(k : Int)]) _ (HS.out.th (Bth hbel hb3.out)) (HU.out.th (Bth hbel hb3.out)) (by rw [hln.out, hrow.out]; exact hown) hlen2.out).mono ?_
                 rintro e w4 ⟨v4, rfl, p1, p2, p3, hb4⟩
                 rw [HF'.out]
                 dsimp only [Option.isSome]))
            refine bodyPost_ret (results_tmp2 rfl _ _ _) rfl ?_
            have h0 := hfin.out
            refine ⟨_, by rw [h0]; rfl, fun r' h => ?_, fun _ h => (by rw [h0] at h; cases h), fun h => (by cases h), Bth (Bth hbel hb3.out) hb4⟩
            rw [h0] at h
            cases h
            exact p1 _ HF'.out
      · have hfin : Hid (findF s l (f + 1) o = none) := findF_none (fun i hi hn => hok.out i (by omega) hn)
        go_wp2_with fail
        refine bodyPost_ret (results_tmp2 rfl _ _ _) rfl ?_
        have h0 := hfin.out
        exact ⟨_, by rw [h0]; rfl, fun r' h => (by rw [h0] at h; cases h), fun _ _ => rfl, fun h => (by cases h), hbel⟩
set_option maxRecDepth 100000 in
set_option maxHeartbeats 1600000 in
theorem Find_any (s : List Int) (l : List Att) (us u : Value) (w : World) (hsw : ∀ x ∈ s, wf64 x) (hfi : ∀ p ∈ l, Fine p) (h2 : s.length ≤ 1048576) (hl : l.length ≤ 7) (hs : IntsAt w us s) (hu : AttsAt w u l) :
    Calls Try.prog 18 #[us, u] w (FindPost s l l.length [] w) := by
  have HS := Lib.hid hs
  have HU := Lib.hid hu
  have HW := Lib.hid hsw
  have HF := Lib.hid hfi
  obtain ⟨Au, cu, huv, hcu, -⟩ := hu
  subst huv
  clear hs hsw hfi
  go_enter Try.func18, Try.ntmps18
  go_wp2_with (go_at_call 25; refine (find_any s l HW.out HF.out (by omega) h2 l.length _ _ _ w.heap.size [] _ HS.out HU.out (World.ownsRow_nil _ _ _ _) (by simp)).mono ?_; rintro e w1 ⟨v1, rfl, p1, p2, p3, hb1⟩)
  refine bodyPost_ret (results_tmp2 rfl _ _ _) rfl ?_
  exact ⟨v1, rfl, p1, p2, p3, hb1⟩
end Go.Proofs.Ytnjcebfbfecdeaa
