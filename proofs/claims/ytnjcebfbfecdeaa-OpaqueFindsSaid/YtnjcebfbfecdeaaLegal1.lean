/-
  Whether an attempt read what stands there, or what it had written itself: the program's inner function (legal).
-/
import Derived.Test.YtnjcebfbfecdeaaMap
import Derived.Deep.Cut
set_option linter.unusedVariables false
namespace Go.Proofs.Ytnjcebfbfecdeaa
open Go.RowKit Go.Maps
theorem want_step (f : Int → Int) (l : List Wd) (m : Nat) (x : Wd) (z : Int) (h : l[m]? = some x) : wantS f (l.take (m + 1)) z = if x.pl = z then x.val else wantS f (l.take m) z := by
  rw [take_snoc l m x h]; simp [wantS]
theorem seen_is (p : Att) (k : Nat) (y : Int) (h : p.seen[k]? = some y) : seenN p k = min y.toNat p.writes.length := by simp [seenN, h]
theorem seen_no (p : Att) (k : Nat) (h : ¬ k < p.seen.length) : seenN p k = 0 := by simp [seenN, List.getElem?_eq_none (Nat.le_of_not_lt h)]
theorem min_is (y : Int) (n : Nat) : (if (n : Int) < if y < 0 then 0 else y then (n : Int) else if y < 0 then 0 else y) = ((min y.toNat n : Nat) : Int) := by
  split <;> split <;> omega
set_option maxRecDepth 100000 in
set_option maxHeartbeats 3200000 in
theorem legal_any (p : Att) (vr vw vs : Value) (b n : Nat) (f : Int → Int) (w : World) (hA : AttV w p vr vw vs) (hm : MapIs w b n f) (hwf : ∀ x ∈ p.reads, wf64 x.pl)
    (h1 : p.reads.length ≤ 1048576) (h2 : p.writes.length ≤ 1048576) (h3 : p.seen.length ≤ 1048576) :
    Calls Try.prog 21 #[.map (some b), .agg #[.int .i64 p.th, .int .i64 p.tr, .bool p.real, .int .i64 p.fr, .int .i64 p.un, .int .i64 p.en, .int .i64 p.st, .int .i64 p.sp, vr, vw, vs, .slice none 0 0]] w
      fun e w' => e = .returned (.bool (legB f p)) ∧ Below w.heap.size w w' := by
  obtain ⟨⟨A1, c1, rfl, k1, hr⟩, ⟨A2, c2, rfl, k2, hw⟩, ⟨A3, c3, rfl, k3, hs⟩⟩ := hA
  have HR := Lib.hid hr
  have HW := Lib.hid hw
  have HS := Lib.hid hs
  have HF := Lib.hid hwf
  have HM := Lib.hid hm
  clear hr hw hs hwf hm
  go_enter Try.func21, Try.ntmps21
  go_wp2_with fail
  go_loopw [14] (fun i wr => ∃ k : Nat, k ≤ p.reads.length ∧ i = .int .i64 k ∧ Below w.heap.size w wr ∧ w.heap.size < wr.heap.size ∧ wr.cell? ⟨w.heap.size, 9, none⟩ = some (.slice A2 p.writes.length c2) ∧ wr.cell? ⟨w.heap.size, 10, none⟩ = some (.slice A3 p.seen.length c3) ∧ Hid (∀ j, j < k → legK f p j)) (fun i _ => p.reads.length - (intOf i).toNat)
  case atStart => exact ⟨0, by omega, rfl, Bal (Bre _) _, by go_simp, by go_simp, by go_simp, by show ∀ j, _; intro j h; omega⟩
  case round =>
    obtain ⟨k, hk, rfl, hbel, hsz, z9, z10, hok⟩ := hrel
    by_cases hlt : k < p.reads.length
    · obtain ⟨r, hr⟩ : ∃ r, p.reads[k]? = some r := ⟨_, List.getElem?_eq_getElem hlt⟩
      obtain ⟨b1, o1, rfl, hb1, x1, x2⟩ := HR.out k r hr
      have y1 := (hbel.cell (p := ⟨b1, o1 + k * 2, none⟩) hb1).trans x1
      have y2 := (hbel.cell (p := ⟨b1, o1 + k * 2 + 1, none⟩) hb1).trans x2
      have hwr : Hid (wf64 r.pl) := HF.out r (List.mem_of_getElem? hr)
      have HG := Lib.hid (show p.reads.getD k dW = r by simp [List.getD, hr])
      have kn : (k : Int) < p.reads.length := by omega
      have k0 : (0 : Int) ≤ (k : Int) := by omega
      clear x1 x2 hr
      have hb1' : b1 < wr.heap.size := Nat.lt_of_lt_of_le hb1 hbel.size
      by_cases hks : k < p.seen.length
      · obtain ⟨y, hy⟩ : ∃ y, p.seen[k]? = some y := ⟨_, List.getElem?_eq_getElem hks⟩
        obtain ⟨b3, o3, rfl, hb3, x3⟩ := HS.out k y hy
        have y3 := (hbel.cell (p := ⟨b3, o3 + k, none⟩) hb3).trans x3
        have hb3' : b3 < wr.heap.size := Nat.lt_of_lt_of_le hb3 hbel.size
        have ks : (k : Int) < p.seen.length := by omega
        have hsn := Lib.hid (seen_is p k y hy)
        have hmin := min_is y p.writes.length
        clear hy x3
        go_wp2_with fail
        go_region
        clear hmin y3
        generalize (if y < 0 then (0 : Int) else y) = yy
        obtain ⟨v0, hv0⟩ : ∃ v0, v0 = wr := ⟨wr, rfl⟩
        subst hv0
        have hqn : Hid (seenN p k = (min y.toNat p.writes.length)) := hsn.out
        have hq0 : (0 : Int) ≤ ((min y.toNat p.writes.length) : Nat) := Int.natCast_nonneg _
        have hqc : (((min y.toNat p.writes.length) : Nat) : Int) ≤ c2 := by omega
        have hql : Hid ((min y.toNat p.writes.length) ≤ p.writes.length) := Nat.min_le_right _ _
        have hbw : Below w.heap.size w ((v0.alloc (Obj.cells #[Value.int IntKind.i64 r.pl, Value.int IntKind.i64 r.val] 51)).drew) := Bdrew (Bal hbel _)
        have t9 : ((v0.alloc (Obj.cells #[Value.int IntKind.i64 r.pl, Value.int IntKind.i64 r.val] 51)).drew).cell? ⟨w.heap.size, 9, none⟩ = some (.slice A2 p.writes.length c2) := by go_simp
        have t10 : ((v0.alloc (Obj.cells #[Value.int IntKind.i64 r.pl, Value.int IntKind.i64 r.val] 51)).drew).cell? ⟨w.heap.size, 10, none⟩ = some (.slice (some ⟨b3, o3, none⟩) p.seen.length c3) := by go_simp
        have ta : ((v0.alloc (Obj.cells #[Value.int IntKind.i64 r.pl, Value.int IntKind.i64 r.val] 51)).drew).cell? ⟨v0.heap.size, 0, none⟩ = some (.int .i64 r.pl) := by go_simp
        have tb : ((v0.alloc (Obj.cells #[Value.int IntKind.i64 r.pl, Value.int IntKind.i64 r.val] 51)).drew).cell? ⟨v0.heap.size, 1, none⟩ = some (.int .i64 r.val) := by go_simp
        have hlt1 : v0.heap.size < (((v0.alloc (Obj.cells #[Value.int IntKind.i64 r.pl, Value.int IntKind.i64 r.val] 51)).drew)).heap.size := by go_simp
        generalize min y.toNat p.writes.length = qq at *
        go_wp2_with (at_lookup; refine wpList_look_mapIs rfl _ _ rfl b n f rfl r.pl rfl (HM.out.th hbw) hwr.out ?_)
        go_loopw [8, 43] (fun v i wr => ∃ m : Nat, m ≤ qq ∧ i = .int .i64 m ∧ v = .int .i64 (wantS f (p.writes.take m) r.pl) ∧ Below w.heap.size w wr ∧ v0.heap.size < wr.heap.size ∧ wr.cell? ⟨w.heap.size, 9, none⟩ = some (.slice A2 p.writes.length c2) ∧ wr.cell? ⟨w.heap.size, 10, none⟩ = some (.slice (some ⟨b3, o3, none⟩) p.seen.length c3) ∧ wr.cell? ⟨v0.heap.size, 0, none⟩ = some (.int .i64 r.pl) ∧ wr.cell? ⟨v0.heap.size, 1, none⟩ = some (.int .i64 r.val)) (fun _ i _ => qq - (intOf i).toNat)
        case atStart => exact ⟨0, by omega, rfl, rfl, hbw, hlt1, t9, t10, ta, tb⟩
        case round =>
          clear t9 t10 ta tb hlt1 hbw
          obtain ⟨m, hm, rfl, rfl, hbw, hlt1, t9, t10, ta, tb⟩ := hrel
          have hlt0 : w.heap.size < wr.heap.size := Nat.lt_trans hsz hlt1
          by_cases hmq : m < qq
          · obtain ⟨x, hx⟩ : ∃ x, p.writes[m]? = some x := ⟨_, List.getElem?_eq_getElem (Nat.lt_of_lt_of_le hmq hql.out)⟩
            obtain ⟨b2, o2, rfl, hb2, x1, x2⟩ := HW.out m x hx
            have y1 := (hbw.cell (p := ⟨b2, o2 + m * 2, none⟩) hb2).trans x1
            have y2 := (hbw.cell (p := ⟨b2, o2 + m * 2 + 1, none⟩) hb2).trans x2
            have hmb : m < 1048576 := Nat.lt_of_lt_of_le hmq (Nat.le_trans hql.out h2)
            have hb2' : b2 < wr.heap.size := Nat.lt_of_lt_of_le hb2 hbw.size
            have HT := Lib.hid (want_step f p.writes m x r.pl hx)
            clear x1 x2 hx
            by_cases he : x.pl = r.pl
            · go_wp2_with fail
              exact ⟨⟨m + 1, by omega, by go_num, by rw [HT.out, if_pos he], Bal hbw _, by go_simp, by go_simp, by go_simp, by go_simp, by go_simp⟩, by (simp [intOf]) <;> omega⟩
            · have hne : (x.pl == r.pl) = false := bne_of he
              go_wp2_with fail
              exact ⟨⟨m + 1, by omega, by go_num, by rw [HT.out, if_neg he], Bal hbw _, by go_simp, by go_simp, by go_simp, by go_simp, by go_simp⟩, by (simp [intOf]) <;> omega⟩
          · obtain rfl : m = qq := by omega
            clear hm
            by_cases hv : r.val = wantS f (p.writes.take m) r.pl
            · have hl : Hid (legK f p k) := by show legK f p k; unfold legK; rw [HG.out, hqn.out]; exact hv
              have hne : (r.val != wantS f (p.writes.take m) r.pl) = false := by simpa using hv
              go_wp2_with fail
              exact ⟨⟨k + 1, by omega, by go_num, hbw, hlt0, t9, t10, by
                show ∀ j, _
                intro j hj
                by_cases e : j = k
                · subst e; exact hl.out
                · exact hok.out j (by omega)⟩, by (simp [intOf]) <;> omega⟩
            · have hl : Hid (legB f p = false) := legB_f (fun h => by
                have h := h k hlt
                unfold legK at h
                rw [HG.out, hqn.out] at h
                exact hv h)
              have hne : (r.val != wantS f (p.writes.take m) r.pl) = true := by rw [bne_iff_ne]; exact hv
              go_wp2_with fail
              go_ret
              exact ⟨by rw [hl.out]; rfl, hbw⟩
      · have hsn := Lib.hid (seen_no p k hks)
        obtain ⟨v0, hv0⟩ : ∃ v0, v0 = wr := ⟨wr, rfl⟩
        subst hv0
        have hqn : Hid (seenN p k = (0 : Nat)) := hsn.out
        have hq0 : (0 : Int) ≤ ((0 : Nat) : Nat) := Int.natCast_nonneg _
        have hqc : (((0 : Nat) : Nat) : Int) ≤ c2 := by omega
        have hql : Hid ((0 : Nat) ≤ p.writes.length) := Nat.zero_le _
        have hbw : Below w.heap.size w (v0.alloc (Obj.cells #[Value.int IntKind.i64 r.pl, Value.int IntKind.i64 r.val] 51)) := Bal hbel _
        have t9 : (v0.alloc (Obj.cells #[Value.int IntKind.i64 r.pl, Value.int IntKind.i64 r.val] 51)).cell? ⟨w.heap.size, 9, none⟩ = some (.slice A2 p.writes.length c2) := by go_simp
        have t10 : (v0.alloc (Obj.cells #[Value.int IntKind.i64 r.pl, Value.int IntKind.i64 r.val] 51)).cell? ⟨w.heap.size, 10, none⟩ = some (.slice A3 p.seen.length c3) := by go_simp
        have ta : (v0.alloc (Obj.cells #[Value.int IntKind.i64 r.pl, Value.int IntKind.i64 r.val] 51)).cell? ⟨v0.heap.size, 0, none⟩ = some (.int .i64 r.pl) := by go_simp
        have tb : (v0.alloc (Obj.cells #[Value.int IntKind.i64 r.pl, Value.int IntKind.i64 r.val] 51)).cell? ⟨v0.heap.size, 1, none⟩ = some (.int .i64 r.val) := by go_simp
        have hlt1 : v0.heap.size < ((v0.alloc (Obj.cells #[Value.int IntKind.i64 r.pl, Value.int IntKind.i64 r.val] 51))).heap.size := by go_simp
        
        go_wp2_with (at_lookup; refine wpList_look_mapIs rfl _ _ rfl b n f rfl r.pl rfl (HM.out.th hbw) hwr.out ?_)
        go_loopw [8, 43] (fun v i wr => ∃ m : Nat, m ≤ (0 : Nat) ∧ i = .int .i64 m ∧ v = .int .i64 (wantS f (p.writes.take m) r.pl) ∧ Below w.heap.size w wr ∧ v0.heap.size < wr.heap.size ∧ wr.cell? ⟨w.heap.size, 9, none⟩ = some (.slice A2 p.writes.length c2) ∧ wr.cell? ⟨w.heap.size, 10, none⟩ = some (.slice A3 p.seen.length c3) ∧ wr.cell? ⟨v0.heap.size, 0, none⟩ = some (.int .i64 r.pl) ∧ wr.cell? ⟨v0.heap.size, 1, none⟩ = some (.int .i64 r.val)) (fun _ i _ => (0 : Nat) - (intOf i).toNat)
        case atStart => exact ⟨0, by omega, rfl, rfl, hbw, hlt1, t9, t10, ta, tb⟩
        case round =>
          clear t9 t10 ta tb hlt1 hbw
          obtain ⟨m, hm, rfl, rfl, hbw, hlt1, t9, t10, ta, tb⟩ := hrel
          have hlt0 : w.heap.size < wr.heap.size := Nat.lt_trans hsz hlt1
          obtain rfl : m = 0 := by omega
          clear hm
          by_cases hv : r.val = wantS f [] r.pl
          · have hl : Hid (legK f p k) := by show legK f p k; unfold legK; rw [HG.out, hqn.out]; exact hv
            have hne : (r.val != wantS f [] r.pl) = false := by simpa using hv
            go_wp2_with fail
            exact ⟨⟨k + 1, by omega, by go_num, hbw, hlt0, t9, t10, by
              show ∀ j, _
              intro j hj
              by_cases e : j = k
              · subst e; exact hl.out
              · exact hok.out j (by omega)⟩, by (simp [intOf]) <;> omega⟩
          · have hl : Hid (legB f p = false) := legB_f (fun h => by
              have h := h k hlt
              unfold legK at h
              rw [HG.out, hqn.out] at h
              exact hv h)
            have hne : (r.val != wantS f [] r.pl) = true := by rw [bne_iff_ne]; exact hv
            go_wp2_with fail
            go_ret
            exact ⟨by rw [hl.out]; rfl, hbw⟩
    · have hleg : Hid (legB f p = true) := legB_t (fun j hj => hok.out j (by omega))
      go_wp2_with fail
      go_ret
      exact ⟨by rw [hleg.out]; rfl, hbel⟩
end Go.Proofs.Ytnjcebfbfecdeaa
