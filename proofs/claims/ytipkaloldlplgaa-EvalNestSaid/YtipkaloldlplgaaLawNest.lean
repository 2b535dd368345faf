/-
  The law EvalNest as a walk: blocks within blocks fit, and without one of them they do not, whatever the row and the number. No condition.
-/
import Derived.Test.YtipkaloldlplgaaNestT
import Derived.Test.YtipkaloldlplgaaBlk
import Derived.Test.YtipkaloldlplgaaInstr
import Derived.Deep.Cut
import Derived.Deep.RegionHeld3
import Derived.Deep.AppendLies
set_option linter.unusedVariables false
namespace Go.Proofs.Ytipkaloldlplgaa
open Go.RowKit
theorem step_append_any {P : Program} {w : World} {ops : Array Oper} {o : Oper} {a : Act} {K : Act → World → Prop} {Q : Exit → Act → World → Prop} {E : Prop} (hgd : o.guard = none) (s x : Operand) (t : TypeId)
    (ho : o.op = .call { callee := .builtin .append, args := #[s, x], argTypes := #[t, t] })
    (base : Nat) (e : TypeId) (i : TypeInfo) (z : Value) (size bytes : Nat) (ht : P.underlying t = some (.slice e)) (hi : P.info? e = some i) (hz : i.zero = some z)
    (hsize : i.size = size) (hby : i.bytes = bytes) (hzs : z.cells.size = size) (hsz : 0 < size)
    (v : Value) (n : Nat) (xs : List Value) (hs : a.eval s = v) (hown : w.ownsRow base e size v n xs)
    (ad : Addr) (m c : Nat) (news : List Value) (hx : a.eval x = .slice (some ad) m c) (hl : news.length = m * size) (hnews : ∀ j u, news[j]? = some u → w.cell? (ad.add j) = some u) (h1 : ∀ u ∈ news, u.oneCell' = true)
    (h63 : n + m ≤ maxLen) (hbytes : (n + m) * bytes ≤ 140737488355328) (hbase : base ≤ w.heap.size)
    (h : ∀ v' w', w'.ownsRow base e size v' (n + m) (xs ++ news) → w.grownBy w' v.ownBlock → (v' = .slice none 0 0 ↔ v = .slice none 0 0 ∧ m = 0) → K (a.put o.dst v') w') :
    if Region.wanted o (yielded ops a.tmps) = true then Oper.wp P o a w K Q else E := by
  have hw : Region.wanted o (yielded ops a.tmps) = true := by simp [Region.wanted, hgd]
  rw [if_pos hw]
  exact wp_append_own w s x t ho base e i z size bytes ht hi hz hsize hby hzs hsz v n xs hs hown ad m c news hx hl hnews h1 h63 hbytes hbase h
set_option maxRecDepth 100000 in
set_option maxHeartbeats 3200000 in
theorem law_nest_end (A : Option Addr) (n cap : Nat) (zs : List Int) (d : Int) (w : World) (hl : zs.length = n) (hc : ∀ k, k < n → ∃ b off, A = some ⟨b, off, none⟩ ∧ b < w.heap.size ∧ w.cell? ⟨b, off + k, none⟩ = some (.int .i64 (zs.getD k 0))) :
    Calls Try.prog 5 #[.slice A n cap, .int .i64 d] w fun e w' => e = .returned (.bool true) ∧ Below w.heap.size w w' := by
  by_cases hn : 1 ≤ n ∧ n ≤ 12
  case neg =>
    have hn' : n < 1 ∨ 12 < n := by omega
    clear hc hl
    go_enter Try.func5, Try.ntmps5
    rcases hn' with hn' | hn'
    all_goals
      go_wp2_with (go_at_call 10; refine (told_any _).mono ?_; rintro e w1 ⟨rfl, hb⟩)
      go_ret
      exact ⟨rfl, hb⟩
  obtain ⟨hn1, hn2⟩ := hn
  have HC := Lib.hid hc
  have HL := Lib.hid hl
  clear hc hl
  obtain ⟨i0, hi, hz0, hz1, hz2⟩ := info_parts info24
  obtain ⟨j0, hj, hy0, hy1, hy2⟩ := info_parts info3
  go_enter Try.func5, Try.ntmps5
  go_wp2_with fail
  go_loopw [5, 6, 7] (fun p o i wr => ∃ (k : Nat) (P O m : List Int) (st : List Ent) (B B2 : Option Addr) (c c2 : Nat), k ≤ n ∧ i = .int .i64 k ∧ p = .slice B k c ∧ o = .slice B2 O.length c2 ∧ Hid (P.length = k) ∧ O.length ≤ k ∧ Hid (Nest P O m st) ∧ Hid (Two w wr B B2 c c2 P O) ∧ w.heap.size ≤ wr.heap.size) (fun _ _ i _ => n - (intOf i).toNat)
  case atStart => exact ⟨0, [], [], [], [], none, none, 0, 0, by omega, rfl, rfl, rfl, rfl, by simp, nest_nil, Two.nil w, Nat.le_refl _⟩
  case round =>
    obtain ⟨k, P, O, m, st, B, B2, c, c2, hk, rfl, rfl, rfl, hpl, hol, HN, HT, hws⟩ := hrel
    by_cases hlt : k < n
    · obtain ⟨b, off, rfl, hb, x0⟩ := HC.out k hlt
      obtain ⟨q, q0, q4, d0, d1⟩ := umod (zs.getD k 0) 4 (by omega) (by omega)
      have hcell : wr.cell? ⟨b, off + k, none⟩ = some (.int .i64 (zs.getD k 0)) := (HT.out.2.2.2.cell hb).trans x0
      generalize zs.getD k 0 = z at *
      have hb1 : b < wr.heap.size := by omega
      have k0 : (0 : Int) ≤ (k : Int) := by omega
      have kn : (k : Int) < (n : Int) := by omega
      clear x0
      by_cases hpop : q = 3 ∧ 0 < O.length
      · obtain ⟨rfl, hO⟩ := hpop
        cases O with
        | nil => simp at hO
        | cons y O =>
          obtain ⟨g, rfl, hg, hy⟩ := HT.out.top
          have hcap := HT.out.cap.1
          rw [List.length_cons] at hcap
          obtain ⟨m', st', hN'⟩ := nest_pop HN.out
          have HN' := Lib.hid hN'
          clear hN'
          obtain rfl := hpl.out
          rw [List.length_cons] at hO hol ⊢
          go_wp2_with (at_builtin; refine wpList_append_lies _ rfl (.tmp 44) (.tmp 52) 32 rfl w.heap.size 24 i0 _ 5 40 Try.underlying32 hi hz0 hz1 hz2 rfl (by omega) (.slice B P.length c) P.length (insCells (P.map insOf)) rfl (HT.out.1.alloc _) ⟨wr.heap.size, 0, none⟩ 1 1 _ rfl rfl (World.news_of_block (heap_alloc_new wr _)) (by simp [Value.oneCell']) (by omega) (by unfold maxLen; omega) (by omega) (by simp; omega) (wr.heap.size + 1) (by simp) ?_; intro g1 c3 w1 hown hgrow hat hg1)
          have HT1 : Hid (Two w w1 (some ⟨g1, 0, none⟩) (some ⟨g, 0, none⟩) c3 c2 (P ++ [y]) O) := (HT.out.addP (Bal (Bre _) _) hown hgrow (by simp only [World.size_alloc]; exact hat)).popO
          exact ⟨⟨P.length + 1, P ++ [y], O, m', st', _, _, _, _, by omega, by go_num, rfl, rfl, by show _ = _; simp, by omega, HN', HT1, HT1.out.2.2.2.size⟩, by (simp [intOf]) <;> omega⟩
      · obtain rfl := hpl.out
        have hq : q = 0 ∨ q = 1 ∨ q = 2 ∨ q = 3 ∧ O.length = 0 := by omega
        clear hpop q0 q4
        have HPU := fun x h => Lib.hid (nest_push HN.out x h)
        rcases hq with rfl | rfl | rfl | ⟨rfl, hO0⟩
        · have HN' : Hid (Nest (P ++ [18]) (20 :: O) (m ++ [-1]) (⟨P.length, P.length, 18⟩ :: st)) := HPU 18 (by omega)
          go_wp2_with (first
            | (at_builtin; refine wpList_append_lies _ rfl (.tmp 61) (.tmp 67) 32 rfl w.heap.size 24 i0 _ 5 40 Try.underlying32 hi hz0 hz1 hz2 rfl (by omega) (.slice B P.length c) P.length (insCells (P.map insOf)) rfl ((HT.out.1.alloc _).alloc _) ⟨wr.heap.size + 1, 0, none⟩ 1 1 _ rfl rfl (World.news_of_block (by rw [← World.size_alloc]; exact heap_alloc_new _ _)) (by simp [Value.oneCell']) (by omega) (by unfold maxLen; omega) (by omega) (by simp; omega) (wr.heap.size + 1 + 1) (by simp) ?_; intro g1 c3 w1 hown hgrow hat hg1
               have HT1 : Hid (Two w w1 (some ⟨g1, 0, none⟩) B2 c3 c2 (P ++ [18]) O) := HT.out.addP (Bal (Bal (Bre _) _) _) hown hgrow (by simp only [World.size_alloc]; exact hat))
            | (at_builtin; refine wpList_append_lies _ rfl (.tmp 69) (.tmp 74) 31 rfl w.heap.size 3 j0 _ 1 8 Try.underlying31 hj hy0 hy1 hy2 rfl (by omega) (.slice B2 O.length c2) O.length (O.reverse.map (Value.int .i64)) rfl ((HT1.out.2.1.alloc _).alloc _) ⟨w1.heap.size + 1, 0, none⟩ 1 1 _ rfl rfl (World.news_of_block (by rw [← World.size_alloc]; exact heap_alloc_new _ _)) (by simp [Value.oneCell']) (by omega) (by unfold maxLen; omega) (by omega) (by have := HT1.out.2.2.2.size; simp; omega) (w1.heap.size + 1 + 1) (by simp) ?_; intro g2 c4 w2 hown2 hgrow2 hat2 hg2))
          have HT2 : Hid (Two w w2 (some ⟨g1, 0, none⟩) (some ⟨g2, 0, none⟩) c3 c4 (P ++ [18]) (20 :: O)) := HT1.out.addO (Bal (Bal (Bre _) _) _) hown2 hgrow2 (by simp only [World.size_alloc]; exact hat2)
          exact ⟨⟨P.length + 1, P ++ [18], 20 :: O, _, _, _, _, _, _, by omega, by go_num, rfl, rfl, by show _ = _; simp, by simp; omega, HN', HT2, HT2.out.2.2.2.size⟩, by (simp [intOf]) <;> omega⟩
        · have HN' : Hid (Nest (P ++ [21]) (22 :: O) (m ++ [-1]) (⟨P.length, P.length, 21⟩ :: st)) := HPU 21 (by omega)
          go_wp2_with (first
            | (at_builtin; refine wpList_append_lies _ rfl (.tmp 61) (.tmp 67) 32 rfl w.heap.size 24 i0 _ 5 40 Try.underlying32 hi hz0 hz1 hz2 rfl (by omega) (.slice B P.length c) P.length (insCells (P.map insOf)) rfl ((HT.out.1.alloc _).alloc _) ⟨wr.heap.size + 1, 0, none⟩ 1 1 _ rfl rfl (World.news_of_block (by rw [← World.size_alloc]; exact heap_alloc_new _ _)) (by simp [Value.oneCell']) (by omega) (by unfold maxLen; omega) (by omega) (by simp; omega) (wr.heap.size + 1 + 1) (by simp) ?_; intro g1 c3 w1 hown hgrow hat hg1
               have HT1 : Hid (Two w w1 (some ⟨g1, 0, none⟩) B2 c3 c2 (P ++ [21]) O) := HT.out.addP (Bal (Bal (Bre _) _) _) hown hgrow (by simp only [World.size_alloc]; exact hat))
            | (at_builtin; refine wpList_append_lies _ rfl (.tmp 69) (.tmp 74) 31 rfl w.heap.size 3 j0 _ 1 8 Try.underlying31 hj hy0 hy1 hy2 rfl (by omega) (.slice B2 O.length c2) O.length (O.reverse.map (Value.int .i64)) rfl ((HT1.out.2.1.alloc _).alloc _) ⟨w1.heap.size + 1, 0, none⟩ 1 1 _ rfl rfl (World.news_of_block (by rw [← World.size_alloc]; exact heap_alloc_new _ _)) (by simp [Value.oneCell']) (by omega) (by unfold maxLen; omega) (by omega) (by have := HT1.out.2.2.2.size; simp; omega) (w1.heap.size + 1 + 1) (by simp) ?_; intro g2 c4 w2 hown2 hgrow2 hat2 hg2))
          have HT2 : Hid (Two w w2 (some ⟨g1, 0, none⟩) (some ⟨g2, 0, none⟩) c3 c4 (P ++ [21]) (22 :: O)) := HT1.out.addO (Bal (Bal (Bre _) _) _) hown2 hgrow2 (by simp only [World.size_alloc]; exact hat2)
          exact ⟨⟨P.length + 1, P ++ [21], 22 :: O, _, _, _, _, _, _, by omega, by go_num, rfl, rfl, by show _ = _; simp, by simp; omega, HN', HT2, HT2.out.2.2.2.size⟩, by (simp [intOf]) <;> omega⟩
        · have HN' : Hid (Nest (P ++ [13]) (14 :: O) (m ++ [-1]) (⟨P.length, P.length, 13⟩ :: st)) := HPU 13 (by omega)
          go_wp2_with (first
            | (at_builtin; refine wpList_append_lies _ rfl (.tmp 61) (.tmp 67) 32 rfl w.heap.size 24 i0 _ 5 40 Try.underlying32 hi hz0 hz1 hz2 rfl (by omega) (.slice B P.length c) P.length (insCells (P.map insOf)) rfl ((HT.out.1.alloc _).alloc _) ⟨wr.heap.size + 1, 0, none⟩ 1 1 _ rfl rfl (World.news_of_block (by rw [← World.size_alloc]; exact heap_alloc_new _ _)) (by simp [Value.oneCell']) (by omega) (by unfold maxLen; omega) (by omega) (by simp; omega) (wr.heap.size + 1 + 1) (by simp) ?_; intro g1 c3 w1 hown hgrow hat hg1
               have HT1 : Hid (Two w w1 (some ⟨g1, 0, none⟩) B2 c3 c2 (P ++ [13]) O) := HT.out.addP (Bal (Bal (Bre _) _) _) hown hgrow (by simp only [World.size_alloc]; exact hat))
            | (at_builtin; refine wpList_append_lies _ rfl (.tmp 69) (.tmp 74) 31 rfl w.heap.size 3 j0 _ 1 8 Try.underlying31 hj hy0 hy1 hy2 rfl (by omega) (.slice B2 O.length c2) O.length (O.reverse.map (Value.int .i64)) rfl ((HT1.out.2.1.alloc _).alloc _) ⟨w1.heap.size + 1, 0, none⟩ 1 1 _ rfl rfl (World.news_of_block (by rw [← World.size_alloc]; exact heap_alloc_new _ _)) (by simp [Value.oneCell']) (by omega) (by unfold maxLen; omega) (by omega) (by have := HT1.out.2.2.2.size; simp; omega) (w1.heap.size + 1 + 1) (by simp) ?_; intro g2 c4 w2 hown2 hgrow2 hat2 hg2))
          have HT2 : Hid (Two w w2 (some ⟨g1, 0, none⟩) (some ⟨g2, 0, none⟩) c3 c4 (P ++ [13]) (14 :: O)) := HT1.out.addO (Bal (Bal (Bre _) _) _) hown2 hgrow2 (by simp only [World.size_alloc]; exact hat2)
          exact ⟨⟨P.length + 1, P ++ [13], 14 :: O, _, _, _, _, _, _, by omega, by go_num, rfl, rfl, by show _ = _; simp, by simp; omega, HN', HT2, HT2.out.2.2.2.size⟩, by (simp [intOf]) <;> omega⟩
        · obtain rfl : O = [] := List.eq_nil_of_length_eq_zero hO0
          have HN' : Hid (Nest (P ++ [18]) (20 :: []) (m ++ [-1]) (⟨P.length, P.length, 18⟩ :: st)) := HPU 18 (by omega)
          go_wp2_with (first
            | (at_builtin; refine wpList_append_lies _ rfl (.tmp 61) (.tmp 67) 32 rfl w.heap.size 24 i0 _ 5 40 Try.underlying32 hi hz0 hz1 hz2 rfl (by omega) (.slice B P.length c) P.length (insCells (P.map insOf)) rfl ((HT.out.1.alloc _).alloc _) ⟨wr.heap.size + 1, 0, none⟩ 1 1 _ rfl rfl (World.news_of_block (by rw [← World.size_alloc]; exact heap_alloc_new _ _)) (by simp [Value.oneCell']) (by omega) (by unfold maxLen; omega) (by omega) (by simp; omega) (wr.heap.size + 1 + 1) (by simp) ?_; intro g1 c3 w1 hown hgrow hat hg1
               have HT1 : Hid (Two w w1 (some ⟨g1, 0, none⟩) B2 c3 c2 (P ++ [18]) []) := HT.out.addP (Bal (Bal (Bre _) _) _) hown hgrow (by simp only [World.size_alloc]; exact hat))
            | (at_builtin; refine wpList_append_lies _ rfl (.tmp 69) (.tmp 74) 31 rfl w.heap.size 3 j0 _ 1 8 Try.underlying31 hj hy0 hy1 hy2 rfl (by omega) (.slice B2 0 c2) 0 [] rfl ((HT1.out.2.1.alloc _).alloc _) ⟨w1.heap.size + 1, 0, none⟩ 1 1 _ rfl rfl (World.news_of_block (by rw [← World.size_alloc]; exact heap_alloc_new _ _)) (by simp [Value.oneCell']) (by omega) (by unfold maxLen; omega) (by omega) (by have := HT1.out.2.2.2.size; simp; omega) (w1.heap.size + 1 + 1) (by simp) ?_; intro g2 c4 w2 hown2 hgrow2 hat2 hg2))
          have HT2 : Hid (Two w w2 (some ⟨g1, 0, none⟩) (some ⟨g2, 0, none⟩) c3 c4 (P ++ [18]) (20 :: [])) := HT1.out.addO (Bal (Bal (Bre _) _) _) hown2 hgrow2 (by simp only [World.size_alloc]; exact hat2)
          exact ⟨⟨P.length + 1, P ++ [18], 20 :: [], _, _, _, _, _, _, by omega, by go_num, rfl, rfl, by show _ = _; simp, by simp, HN', HT2, HT2.out.2.2.2.size⟩, by (simp [intOf]) <;> omega⟩
    · obtain rfl : n = k := by omega
      clear hk hlt
      have hP1 : 1 ≤ P.length := by rw [hpl.out]; exact hn1
      have hP2 : P.length ≤ n := by rw [hpl.out]; omega
      go_wp2_with fail
      obtain rfl := hpl.out
      clear HC HL
      go_loopw [5, 6] (fun p o wr => ∃ (P O m : List Int) (st : List Ent) (B B2 : Option Addr) (c c2 : Nat), p = .slice B P.length c ∧ o = .slice B2 O.length c2 ∧ 1 ≤ P.length ∧ P.length + O.length ≤ 24 ∧ Hid (Nest P O m st) ∧ Hid (Two w wr B B2 c c2 P O) ∧ w.heap.size ≤ wr.heap.size) (fun _ o _ => lenOf o)
      case atStart => exact ⟨P, O, m, st, B, B2, c, c2, rfl, rfl, hP1, by omega, HN, HT, hws⟩
      case round =>
        clear hP1 hP2 hol HN HT hws
        obtain ⟨P, O, m, st, B, B2, c, c2, rfl, rfl, hP1, hP2, HN, HT, hws⟩ := hrel
        cases O with
        | nil =>
          rw [List.length_nil, Nat.add_zero] at hP2
          go_wp2_with fail
          refine (mates_any (P.map insOf) _ wr (by rw [List.length_map]; omega) (InsAt.own (base := w.heap.size) (by rw [List.length_map]; exact HT.out.1))).mono ?_
          rintro e w1 ⟨v, rfl, hm, hb1⟩
          obtain ⟨e1, e2, e3⟩ := nest_end HN.out
          rw [map_ins, e1] at hm ⊢
          obtain ⟨g2, c5, rfl, hg2, hg2', hmc⟩ := hm.ptr e2 hP1
          obtain ⟨g, rfl, hg, hg', hpc⟩ := HT.out.ptr hP1
          have HM := Lib.hid hmc
          have HP := Lib.hid (fun i hi => (hb1.cell (p := ⟨g, i * 5, none⟩) hg').trans (hpc i hi))
          have HD := Lib.hid e3
          have hg1 : g < w1.heap.size := Nat.lt_of_lt_of_le hg' hb1.size
          clear hmc hpc e1 e2 e3 hm
          dsimp only
          go_wp2_with fail
          go_loopw [11] (fun i w2 => ∃ k : Nat, k ≤ P.length ∧ i = .int .i64 k ∧ w2 = w1) (fun i _ => P.length - (intOf i).toNat)
          case atStart => exact ⟨0, by omega, rfl, rfl⟩
          case round =>
            obtain ⟨k, hk, rfl, rfl⟩ := hrel
            by_cases hlt : k < P.length
            · have c0 := HP.out k hlt
              by_cases h20 : P.getD k 0 = 20
              · rw [h20] at c0
                go_wp2_with fail
                exact ⟨⟨k + 1, by omega, by go_num, trivial⟩, by (simp [intOf]) <;> omega⟩
              · obtain ⟨j, j1, j2, j3, j4⟩ := HD.out k hlt h20
                have c1 := HM.out k hlt
                rw [j1] at c1
                have c2 := HM.out j j2
                have c3 := HP.out j j2
                by_cases h18 : P.getD k 0 = 18
                · obtain ⟨j5, j6⟩ := j4 h18
                  rw [j6] at c3
                  rw [h18] at c0
                  clear c2 h20 h18 j1 j3 j4
                  go_wp2_with fail
                  exact ⟨⟨k + 1, by omega, by go_num, trivial⟩, by (simp [intOf]) <;> omega⟩
                · rw [j3 h18] at c2
                  generalize P.getD k 0 = x at c0 h20 h18
                  clear c3 j1 j3 j4
                  go_wp2_with fail
                  exact ⟨⟨k + 1, by omega, by go_num, trivial⟩, by (simp [intOf]) <;> omega⟩
            · obtain ⟨q, q0, q1, d0, d1⟩ := umod d P.length (by omega) (by omega)
              obtain ⟨z, rfl⟩ := Int.eq_ofNat_of_zero_le q0
              go_wp2_with fail
              clear d0 d1
              have HB0 := Lib.hid (Below.refl wr.heap.size wr)
              have HB := Lib.hid (Bdrew (Below.refl wr.heap.size wr))
              have HB1 := Lib.hid (Bdrew (Bal (Below.refl wr.heap.size wr) (Obj.cells #[] 24)))
              have hcp := HT.out.cap.2
              have hzP : z < P.length := by omega
              have HO := Lib.hid (own_th HT.out.1 hb1)
              have HO1 := Lib.hid (HO.out.alloc (Obj.cells #[] 24)).drew
              have HL1 := Lib.hid (show (insCells ((P.take z).map insOf)).length = z * 5 by rw [insCells_len, List.length_map, List.length_take, Nat.min_eq_left (by omega)])
              have HL2 := Lib.hid (show (insCells ((P.drop (z + 1)).map insOf)).length = (P.length - (z + 1)) * 5 by rw [insCells_len, List.length_map, List.length_drop])
              have HE1 := Lib.hid (show (P.take z).map insOf = ((P.map insOf).drop 0).take ((P.take z).map insOf).length by simp [List.map_take, Nat.min_eq_left (show z ≤ P.length by omega)])
              have HE2 := Lib.hid (show (P.drop (z + 1)).map insOf = ((P.map insOf).drop (z + 1)).take ((P.drop (z + 1)).map insOf).length by rw [← List.map_drop, List.take_length])
              have HF1 := Lib.hid (show 0 + ((P.take z).map insOf).length ≤ P.length by simp; omega)
              have HF2 := Lib.hid (show z + 1 + ((P.drop (z + 1)).map insOf).length ≤ P.length by simp; omega)
              have HA := Lib.hid (show insCells ((P.take z ++ P.drop (z + 1)).map insOf) = [] ++ insCells ((P.take z).map insOf) ++ insCells ((P.drop (z + 1)).map insOf) by rw [List.map_append, insCells_app, List.nil_append])
              have HN1 := Lib.hid (show ((P.take z ++ P.drop (z + 1)).map insOf).length = 0 + z + (P.length - (z + 1)) by simp; omega)
              have HR := Lib.hid (nest_less HN.out z hzP)
              have hz24 : z ≤ 24 := Nat.le_trans (Nat.le_of_lt hzP) hP2
              have HM1 := Lib.hid (room1 z hz24)
              have HM2 := Lib.hid (room2 z P.length hz24 hP2)
              have HI := Lib.hid (ite_some' c (z + 1) g)
              have HG := Lib.hid (drop_nil P c z hcp)
              have z1 : (z : Int) ≤ c := by omega
              have z2 : (0 : Int) ≤ (z : Int) + 1 := by omega
              have z3 : (z : Int) + 1 ≤ P.length := by omega
              have z4 : (P.length : Int) ≤ c := by omega
              have z6 := wrap_small z hz24
              have z5 := wrap_small' z hz24
              clear hlt hk HM HP HD
              go_region_held3 (fun w' => Hid (Below wr.heap.size wr w')) (assumption) (first
                | (refine step_append_any (by rfl) (.tmp 188) (.tmp 191) 32 (by rfl) wr.heap.size 24 i0 _ 5 40 Try.underlying32 hi hz0 hz1 hz2 rfl (Nat.succ_pos _) (.slice (some ⟨wr.heap.size, 0, none⟩) 0 0) 0 [] (by rfl) (own_lit0 wr) ⟨g, 0, none⟩ z c (insCells ((P.take z).map insOf)) (by rfl) HL1.out (ins_news HO1.out _ 0 HF1.out HE1.out) (insCells_one _) HM1.out.1 HM1.out.2 HB1.out.size ?_
                   intro v1 w2 hown1 hgrow1 _
                   have HB2 := lit0_below hgrow1
                   have HO2 := lit0_kept HO1.out (Nat.lt_of_lt_of_le hg' hb1.size) hgrow1)
                | (refine step_append_any (by rfl) (.tmp 192) (.tmp 196) 32 (by rfl) wr.heap.size 24 i0 _ 5 40 Try.underlying32 hi hz0 hz1 hz2 rfl (Nat.succ_pos _) v1 (0 + z) ([] ++ insCells ((P.take z).map insOf)) (by rfl) hown1 (if c = z + 1 then (⟨g, 0, none⟩ : Addr) else ⟨g, (z + 1) * 5, none⟩) (P.length - (z + 1)) (c - (z + 1)) (insCells ((P.drop (z + 1)).map insOf)) (congrArg (fun q => Value.slice q (P.length - (z + 1)) (c - (z + 1))) HI.out) HL2.out (ins_news' HO2.out _ (z + 1) c HF2.out HE2.out HG.out) (insCells_one _) HM2.out.1 HM2.out.2.1 HB2.out.size ?_
                   intro v2 w3 hown2 hgrow2 _
                   have HB3 := next_below HB2 hown1 hgrow2)
                | (go_at_call 16
                   refine (mates_any ((P.take z ++ P.drop (z + 1)).map insOf) v2 w3 (by rw [HN1.out]; exact HM2.out.2.2) (InsAt.own (base := wr.heap.size) (by rw [HN1.out, HA.out]; exact hown2))).mono ?_
                   rintro e w4 ⟨v4, rfl, hm4, hb4⟩
                   rw [map_ins, HR.out.1] at hm4
                   obtain rfl : v4 = .slice none 0 0 := hm4
                   rw [map_ins]
                   have HB4 : Hid (Below wr.heap.size wr w4) := Bth HB3.out hb4
                   dsimp only))
              have he := HR.out.2
              generalize (mres (P.take z ++ P.drop (z + 1))).2 = e at he ⊢
              have HW : Hid (Below w.heap.size w w4) := Bth (Bth HT.out.2.2.2 hb1) HB4.out
              clear HB HB0 HB1 HO HO1 HL1 HL2 HE1 HE2 HF1 HF2 HA HN1 HR HM1 HM2 HI HG z1 z2 z3 z4 z5 z6 HB2 HO2 hown1 hgrow1 hown2 hgrow2 HB3 hb4 HB4 HT HN
              go_wp2_with (go_at_call 10; refine (told_any _).mono ?_; rintro e w5 ⟨rfl, hb5⟩)
              all_goals
                go_ret
                exact ⟨rfl, Bth HW.out hb5⟩
        | cons y O =>
          obtain ⟨g, rfl, hg, hy⟩ := HT.out.top
          have hcap := HT.out.cap.1
          obtain ⟨m', st', hN'⟩ := nest_pop HN.out
          have HN' := Lib.hid hN'
          clear hN'
          rw [List.length_cons] at hcap hP2 ⊢
          go_wp2_with (at_builtin; refine wpList_append_lies _ rfl (.tmp 79) (.tmp 87) 32 rfl w.heap.size 24 i0 _ 5 40 Try.underlying32 hi hz0 hz1 hz2 rfl (by omega) (.slice B P.length c) P.length (insCells (P.map insOf)) rfl (HT.out.1.alloc _) ⟨_, 0, none⟩ 1 1 _ rfl rfl (World.news_of_block (heap_alloc_new _ _)) (by simp [Value.oneCell']) (by omega) (by unfold maxLen; omega) (by omega) (by simp; omega) _ rfl ?_; intro g1 c3 w1 hown hgrow hat hg1)
          have HT1 : Hid (Two w w1 (some ⟨g1, 0, none⟩) (some ⟨g, 0, none⟩) c3 c2 (P ++ [y]) O) := (HT.out.addP (Bal (Bre _) _) hown hgrow hat).popO
          exact ⟨⟨P ++ [y], O, m', st', _, _, _, _, by simp, rfl, by simp, by simp; omega, HN', HT1, HT1.out.2.2.2.size⟩, by simp [lenOf]⟩
end Go.Proofs.Ytipkaloldlplgaa
