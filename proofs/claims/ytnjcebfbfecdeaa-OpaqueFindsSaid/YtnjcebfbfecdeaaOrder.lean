/-
  Numbers turned into an order (order): each place once; of no numbers: the places one behind the other.
-/
import Derived.Test.YtnjcebfbfecdeaaFind
import Derived.Deep.RegionHeld3
import Derived.Deep.CutRange
set_option linter.unusedVariables false
namespace Go.Proofs.Ytnjcebfbfecdeaa
open Go.RowKit Go.Maps
def idn (n : Nat) : List Int := (List.range n).map Int.ofNat
theorem idn_len (n : Nat) : (idn n).length = n := by simp [idn]
theorem idn_succ (n : Nat) : idn (n + 1) = idn n ++ [(n : Int)] := by simp [idn, List.range_succ]
theorem may_perm {n : Nat} {o : List Int} (h : o.Perm (idn n)) : MayS n o := by
  refine ⟨by rw [h.length_eq, idn_len], fun x hx => ?_, h.nodup_iff.2 ?_⟩
  · have := h.mem_iff.1 hx
    simp [idn] at this
    obtain ⟨a, ha, rfl⟩ := this
    exact ⟨by simp, by simpa using ha⟩
  · unfold idn
    rw [List.Nodup, List.pairwise_map]
    exact List.nodup_range.imp (fun h e => h (by have : (_ : Int) = _ := e; exact Int.ofNat.inj e))
/-- Taken so far, and what is free. -/
structure Ord (n i : Nat) (none : Bool) (out free : List Int) : Prop where
  p : (out ++ free).Perm (idn n)
  l : out.length = i
  z : none = true → out ++ free = idn n
theorem Ord.flen {n i : Nat} {b : Bool} {out free : List Int} (h : Ord n i b out free) : free.length + i = n := by
  have := h.p.length_eq
  rw [idn_len, List.length_append, h.l] at this
  omega
theorem Ord.start (n : Nat) (b : Bool) : Ord n 0 b [] (idn n) := ⟨by simp, rfl, fun _ => rfl⟩
theorem Ord.step {n i : Nat} {b : Bool} {out free : List Int} (h : Ord n i b out free) (k : Nat) (hk : k < free.length) (hz : b = true → k = 0) :
    Ord n (i + 1) b (out ++ [free.getD k 0]) (free.take k ++ free.drop (k + 1)) := by
  have hg : free.getD k 0 = free[k] := by simp [List.getD, hk]
  have he : (free[k] :: (free.take k ++ free.drop (k + 1))).Perm free := by
    have h1 : free.take k ++ free[k] :: free.drop (k + 1) = free := by
      rw [← List.drop_eq_getElem_cons hk, List.take_append_drop]
    exact List.perm_middle.symm.trans (by rw [h1])
  refine ⟨?_, by simp [h.l], fun hb => ?_⟩
  · rw [hg, List.append_assoc]
    exact ((List.Perm.refl out).append he).trans h.p
  · obtain rfl := hz hb
    rw [← h.z hb, List.append_assoc]
    cases free with
    | nil => simp at hk
    | cons y free => simp [List.getD]
theorem Ord.done {n : Nat} {b : Bool} {out free : List Int} (h : Ord n n b out free) : MayS n out ∧ (b = true → out = idn n) := by
  have hf : free = [] := List.eq_nil_of_length_eq_zero (by have := h.flen; omega)
  subst hf
  refine ⟨may_perm (by simpa using h.p), fun hb => by simpa using h.z hb⟩
theorem ints_len (l : List Int) : (intCells l).length = l.length := by simp [intCells]
theorem ints_take (l : List Int) (k : Nat) : intCells (l.take k) = (intCells l).take k := by simp [intCells, List.map_take]
theorem ints_drop (l : List Int) (k : Nat) : intCells (l.drop k) = (intCells l).drop k := by simp [intCells, List.map_drop]
theorem ints_one (l : List Int) : ∀ u ∈ intCells l, u.oneCell' = true := by
  intro u hu
  simp only [intCells, List.mem_map] at hu
  obtain ⟨x, _, rfl⟩ := hu
  rfl
theorem ints_news {w : World} {base g n cap : Nat} {l : List Int} (h : w.ownsRow base 3 1 (.slice (some ⟨g, 0, none⟩) n cap) n (intCells l)) (l' : List Int) (off : Nat) (hle : off + l'.length ≤ n) (he : l' = (l.drop off).take l'.length) :
    ∀ j u, (intCells l')[j]? = some u → w.cell? ((⟨g, off, none⟩ : Addr).add j) = some u := by
  intro j u hj
  have hjl : j < l'.length := by rw [← ints_len]; exact (List.getElem?_eq_some_iff.1 hj).1
  rw [Addr.add_lit, h.cellAt _ (by omega), ← hj, he, ints_take, ints_drop, List.getElem?_take_of_lt hjl, List.getElem?_drop]
theorem ints_news' {w : World} {base g n cap : Nat} {l : List Int} (h : w.ownsRow base 3 1 (.slice (some ⟨g, 0, none⟩) n cap) n (intCells l)) (l' : List Int) (off c : Nat) (hle : off + l'.length ≤ n) (he : l' = (l.drop off).take l'.length) (hz : c = off → l' = []) :
    ∀ j u, (intCells l')[j]? = some u → w.cell? ((if c = off then (⟨g, 0, none⟩ : Addr) else ⟨g, off, none⟩).add j) = some u := by
  by_cases hc : c = off
  · intro j u hj
    rw [hz hc] at hj
    simp [intCells] at hj
  · rw [if_neg hc]
    exact ints_news h l' off hle he
theorem ite_some' (c off g : Nat) : (if c = off then some (⟨g, 0, none⟩ : Addr) else some ⟨g, off, none⟩) = some (if c = off then (⟨g, 0, none⟩ : Addr) else ⟨g, off, none⟩) := by split <;> rfl
theorem own_lit0 (w : World) : ((w.alloc (.cells #[] 3)).drew).ownsRow w.heap.size 3 1 (.slice (some ⟨w.heap.size, 0, none⟩) 0 0) 0 [] :=
  (World.ownsRow_lit (base := w.heap.size) (e := 3) (size := 1) w #[] 0 (Nat.le_refl _) (by unfold maxLen; omega) rfl).drew
theorem lit0_below {w w2 : World} (h : ((w.alloc (.cells #[] 3)).drew).grownBy w2 (Value.slice (some ⟨w.heap.size, 0, none⟩) 0 0).ownBlock) : RowKit.Hid (Below w.heap.size w w2) := by
  have hb : Below w.heap.size w ((w.alloc (.cells #[] 3)).drew) := Bdrew (Bal (Bre _) _)
  refine hb.grown h hb.size (fun g hg => ?_)
  have : w.heap.size = g := by simpa [Value.ownBlock] using hg
  omega
theorem next_below {w w2 w3 : World} {v : Value} {n : Nat} {xs : List Value} (hb : RowKit.Hid (Below w.heap.size w w2)) (ho : w2.ownsRow w.heap.size 3 1 v n xs) (h : w2.grownBy w3 v.ownBlock) : RowKit.Hid (Below w.heap.size w w3) :=
  hb.out.grown h hb.out.size (fun g hg => (ho.lt g hg).1)
theorem room1 (z : Nat) (h : z ≤ 1048576) : 0 + z ≤ maxLen ∧ (0 + z) * 8 ≤ 140737488355328 := by unfold maxLen; omega
theorem room2 (z n : Nat) (h : z ≤ 1048576) (h2 : n ≤ 1048576) : 0 + z + (n - (z + 1)) ≤ maxLen ∧ (0 + z + (n - (z + 1))) * 8 ≤ 140737488355328 := by unfold maxLen; omega
theorem wrap_small (z : Nat) (h : z ≤ 1048576) : wrap64 ((z : Int) + 1) = (z : Int) + 1 := by unfold wrap64; omega
theorem wrap_small' (z : Nat) (h : z ≤ 1048576) : IntKind.i64.wrap ((z : Int) + 1) = (z : Int) + 1 := by rw [IntKind.wrap_i64]; omega
theorem step_append_any {P : Program} {w : World} {ops : Array Oper} {o : Oper} {a : Act} {K : Act → World → Prop} {Q : Exit → Act → World → Prop} {E : Prop} (hgd : o.guard = none) (s x : Operand) (t : TypeId)
    (ho : o.op = .call { callee := .builtin .append, args := #[s, x], argTypes := #[t, t] })
    (base : Nat) (e : TypeId) (i : TypeInfo) (z : Value) (size bytes : Nat) (ht : P.underlying t = some (.slice e)) (hi : P.info? e = some i) (hz : i.zero = some z)
    (hsize : i.size = size) (hby : i.bytes = bytes) (hzs : z.cells.size = size) (hsz : 0 < size)
    (v : Value) (n : Nat) (xs : List Value) (hs : a.eval s = v) (hown : w.ownsRow base e size v n xs)
    (ad : Addr) (m c : Nat) (news : List Value) (hx : a.eval x = .slice (some ad) m c) (hl : news.length = m * size) (hnews : ∀ j u, news[j]? = some u → w.cell? (ad.add j) = some u) (h1 : ∀ u ∈ news, u.oneCell' = true)
    (h63 : n + m ≤ maxLen) (hbytes : (n + m) * bytes ≤ 140737488355328) (hbase : base ≤ w.heap.size)
    (h : ∀ v' w', w'.ownsRow base e size v' (n + m) (xs ++ news) → w.grownBy w' v.ownBlock → (v' = .slice none 0 0 ↔ v = .slice none 0 0 ∧ m = 0) → K (a.put o.dst v') w') :
    if Region.wanted o (yielded ops a.tmps) = true then Oper.wp P o a w K Q else E := by
  have hw : Region.wanted o (yielded ops a.tmps) = true := by simp [Region.wanted, hgd]
  rw [if_pos hw]
  exact wp_append_own w s x t ho base e i z size bytes ht hi hz hsize hby hzs hsz v n xs hs hown ad m c news hx hl hnews h1 h63 hbytes hbase h
set_option maxRecDepth 100000 in
set_option maxHeartbeats 6400000 in
theorem order_any (x : Value) (xs : List Int) (n : Nat) (w : World) (hx : IntsAt w x xs) (hn : n ≤ 1048576) (hxl : xs.length ≤ 1048576) :
    Calls Try.prog 11 #[x, .int .i64 n] w fun e w' => ∃ v o, e = .returned v ∧ w'.ownsRow w.heap.size 3 1 v o.length (intCells o) ∧ MayS n o ∧ (xs = [] → o = idn n) ∧ Below w.heap.size w w' := by
  obtain ⟨A, cx, rfl, hcx, hx⟩ := hx
  have HX := Lib.hid hx
  clear hx
  obtain ⟨ib, hib, bz0, bz1, bz2⟩ := info_parts info3
  go_enter Try.func11, Try.ntmps11
  go_wp2_with fail
  go_loopw [5, 7] (fun v i wr => ∃ (k : Nat), k ≤ n ∧ i = .int .i64 k ∧ wr.ownsRow w.heap.size 3 1 v k (intCells (idn k)) ∧ Below w.heap.size w wr) (fun _ i _ => n - (intOf i).toNat)
  case atStart => exact ⟨0, by omega, rfl, World.ownsRow_nil _ _ _ _, Bre _⟩
  case round =>
    obtain ⟨k, hk, rfl, ho, hbel⟩ := hrel
    by_cases hlt : k < n
    · have hsz := hbel.size
      have HI := Lib.hid (show intCells (idn (k + 1)) = intCells (idn k) ++ [.int .i64 k] by rw [idn_succ]; simp [intCells])
      go_wp2_with (at_builtin; refine wpList_append_lies _ rfl (.tmp 15) (.tmp 17) 24 rfl w.heap.size 3 ib _ 1 8 Try.underlying24 hib bz0 bz1 bz2 rfl (Nat.succ_pos _) u5 k (intCells (idn k)) rfl (ho.alloc _) ⟨wr.heap.size, 0, none⟩ 1 1 [.int .i64 k] rfl rfl (World.news_of_block (heap_alloc_new wr _)) (by simp [Value.oneCell']) (Nat.succ_pos _) (by unfold maxLen; omega) (by omega) (by simp; omega) (wr.heap.size + 1) (by simp) ?_; intro g1 c3 w1 hown hgrow hat hg1)
      exact ⟨⟨k + 1, by omega, by go_num, by rw [HI.out]; exact hown, (Bal hbel _).grown hgrow (Bal hbel _).size (fun g hg => (ho.lt g hg).1)⟩, by (simp [intOf]) <;> omega⟩
    · obtain rfl : k = n := by omega
      go_wp2_with fail
      go_loopw [5, 6, 8] (fun v5 v6 i wr => ∃ (j : Nat) (out free : List Int), j ≤ k ∧ i = .int .i64 j ∧ Hid (Ord k j (decide (xs = [])) out free) ∧ Hid (wr.ownsRow w.heap.size 3 1 v5 free.length (intCells free)) ∧ Hid (wr.ownsRow w.heap.size 3 1 v6 j (intCells out)) ∧ Hid (∀ g, v5.ownBlock = some g → v6.ownBlock ≠ some g) ∧ Below w.heap.size w wr) (fun _ _ i _ => k - (intOf i).toNat)
      case atStart =>
        exact ⟨0, [], idn k, by omega, rfl, Ord.start _ _, (by show World.ownsRow _ _ _ _ _ _ _; rw [idn_len]; exact ho), World.ownsRow_nil _ _ _ _, by show ∀ g, _; intro g _ h; simp [Value.ownBlock] at h, hbel⟩
      case round =>
        clear ho hbel
        obtain ⟨j, out, free, hj, rfl, HOr, HF, HO, HD, hbel⟩ := hrel
        by_cases hjl : j < k
        · have hfl := HOr.out.flen
          have hf0 : 0 < free.length := by omega
          obtain ⟨g, c, hv5, hgb, hgl⟩ := HF.out.form hf0
          subst hv5
          have hfc : free.length ≤ c := by
            obtain ⟨A', c', e, h⟩ := own_form HF.out
            simp only [Value.slice.injEq] at e
            omega
          have j0 : (0 : Int) ≤ (j : Int) := by omega
          go_upto_if 27 with fail
          go_cut [9] from 19 to 54 (fun p w2 => ∃ z : Nat, z < free.length ∧ (xs = [] → z = 0) ∧ p = .int .i64 z ∧ w2 = wr)
          case first =>
            by_cases hjx : j < xs.length
            · obtain ⟨y, hy⟩ : ∃ y, xs[j]? = some y := ⟨_, List.getElem?_eq_getElem hjx⟩
              obtain ⟨b, off, rfl, hb, hcell⟩ := HX.out j y hy
              have hc1 := (hbel.cell (p := ⟨b, off + j, none⟩) hb).trans hcell
              obtain ⟨z, hz, d0, d1⟩ := umodN y free.length free.length rfl hf0 (by omega)
              have hne : Hid (xs = [] → z = 0) := fun e => by rw [e] at hjx; simp at hjx
              clear hcell hy
              go_wp2_with fail
              go_meet
              exact ⟨z, hz, hne.out, rfl, rfl⟩
            · go_wp2_with fail
              go_meet
              exact ⟨0, hf0, fun _ => rfl, rfl, rfl⟩
          case rest =>
            obtain ⟨z, hz, hz0, rfl, rfl⟩ := hcut
            have hy : wc.cell? ⟨g, z, none⟩ = some (.int .i64 (free.getD z 0)) := by
              rw [HF.out.cellAt z (by omega)]
              simp [intCells, List.getD, hz]
            have hOr2 : Hid (Ord k (j + 1) (decide (xs = [])) (out ++ [free.getD z 0]) (free.take z ++ free.drop (z + 1))) := HOr.out.step z hz (fun h => hz0 (by simpa using h))
            have z0 : (0 : Int) ≤ (z : Int) := by omega
            have zF : (z : Int) < (free.length : Int) := by omega
            have hwsz := hbel.size
            have hout2 : Hid (intCells (out ++ [free.getD z 0]) = intCells out ++ [.int .i64 (free.getD z 0)]) := by show _ = _; simp [intCells]
            generalize hY : free.getD z 0 = Y at hy hOr2 hout2
            clear hY hz0
            go_upto_region 13 with (at_builtin; refine wpList_append_lies _ rfl (.tmp 38) (.tmp 43) 24 rfl w.heap.size 3 ib _ 1 8 Try.underlying24 hib bz0 bz1 bz2 rfl (Nat.succ_pos _) u6 j (intCells out) rfl (HO.out.alloc _) ⟨wc.heap.size, 0, none⟩ 1 1 [.int .i64 Y] rfl rfl (World.news_of_block (heap_alloc_new wc _)) (by simp [Value.oneCell']) (Nat.succ_pos _) (by unfold maxLen; omega) (by omega) (by simp; omega) (wc.heap.size + 1) (by simp) ?_; intro g1 c3 w2 hown hgrow hat hg1)
            have hgne : some g ≠ u6.ownBlock := fun e => HD.out g rfl e.symm
            have HFk : Hid (w2.ownsRow w.heap.size 3 1 (.slice (some ⟨g, 0, none⟩) free.length c) free.length (intCells free)) := own_same HF.out (fun g' e => by
              have e1 : g = g' := by simpa [Value.ownBlock] using e
              subst e1
              rw [hgrow.block g (by simp; omega) hgne]
              exact heap_alloc_old _ _ hgl)
            have hgl2 : g < w2.heap.size := (HFk.out.lt g rfl).2
            have hbw2 : Hid (Below w.heap.size w w2) := (Bal hbel _).grown hgrow (Bal hbel _).size (fun g hg => (HO.out.lt g hg).1)
            have hown1' : Hid (w2.ownsRow w.heap.size 3 1 (.slice (some ⟨g1, 0, none⟩) (j + 1) c3) (j + 1) (intCells (out ++ [Y]))) := by rw [hout2.out]; exact hown
            have HB0 := Lib.hid (Below.refl w2.heap.size w2)
            have HB := Lib.hid (Bdrew (Below.refl w2.heap.size w2))
            have HB1 := Lib.hid (Bdrew (Bal (Below.refl w2.heap.size w2) (Obj.cells #[] 3)))
            have HO1 := Lib.hid (HFk.out.alloc (Obj.cells #[] 3)).drew
            have HL1 := Lib.hid (show (intCells (free.take z)).length = z * 1 by rw [ints_len, List.length_take, Nat.min_eq_left (by omega), Nat.mul_one])
            have HL2 := Lib.hid (show (intCells (free.drop (z + 1))).length = (free.length - (z + 1)) * 1 by rw [ints_len, List.length_drop, Nat.mul_one])
            have HE1 := Lib.hid (show free.take z = (free.drop 0).take (free.take z).length by simp [Nat.min_eq_left (show z ≤ free.length by omega)])
            have HE2 := Lib.hid (show free.drop (z + 1) = (free.drop (z + 1)).take (free.drop (z + 1)).length by rw [List.take_length])
            have HF1 := Lib.hid (show 0 + (free.take z).length ≤ free.length by simp; omega)
            have HF2 := Lib.hid (show z + 1 + (free.drop (z + 1)).length ≤ free.length by simp; omega)
            have HA := Lib.hid (show intCells (free.take z ++ free.drop (z + 1)) = [] ++ intCells (free.take z) ++ intCells (free.drop (z + 1)) by simp [intCells])
            have HN1 := Lib.hid (show (free.take z ++ free.drop (z + 1)).length = 0 + z + (free.length - (z + 1)) by simp; omega)
            have HM1 := Lib.hid (room1 z (by omega))
            have HM2 := Lib.hid (room2 z free.length (by omega) (by omega))
            have HI := Lib.hid (ite_some' c (z + 1) g)
            have HG := Lib.hid (show c = z + 1 → free.drop (z + 1) = [] from fun e => List.drop_eq_nil_of_le (by omega))
            have z1 : (z : Int) ≤ c := by omega
            have z2 : (0 : Int) ≤ (z : Int) + 1 := by omega
            have z3 : (z : Int) + 1 ≤ free.length := by omega
            have z4 : (free.length : Int) ≤ c := by omega
            have z6 := wrap_small z (by omega)
            have z5 := wrap_small' z (by clear z6; omega)
            clear HFk HF HO hbel hown hgrow hat HD hgne hy
            go_region_held3 (fun w' => Hid (Below w2.heap.size w2 w')) (assumption) (first
              | (refine step_append_any (by rfl) (.tmp 45) (.tmp 48) 24 (by rfl) w2.heap.size 3 ib _ 1 8 Try.underlying24 hib bz0 bz1 bz2 rfl (Nat.succ_pos _) (.slice (some ⟨w2.heap.size, 0, none⟩) 0 0) 0 [] (by rfl) (own_lit0 w2) ⟨g, 0, none⟩ z c (intCells (free.take z)) (by rfl) HL1.out (ints_news HO1.out _ 0 HF1.out HE1.out) (ints_one _) HM1.out.1 HM1.out.2 HB1.out.size ?_
                 intro v1 w3 hown1 hgrow1 _
                 have HB2 := lit0_below hgrow1
                 have HO2 := Lib.hid (own_same HO1.out (fun g' e => hgrow1.block g' (HO1.out.lt g' e).2 (fun e2 => by
                   have e3 : g' = w2.heap.size := by simpa [Value.ownBlock] using e2
                   have e4 : g = g' := by simpa [Value.ownBlock] using e
                   omega))))
              | (refine step_append_any (by rfl) (.tmp 49) (.tmp 53) 24 (by rfl) w2.heap.size 3 ib _ 1 8 Try.underlying24 hib bz0 bz1 bz2 rfl (Nat.succ_pos _) v1 (0 + z) ([] ++ intCells (free.take z)) (by rfl) hown1 (if c = z + 1 then (⟨g, 0, none⟩ : Addr) else ⟨g, z + 1, none⟩) (free.length - (z + 1)) (c - (z + 1)) (intCells (free.drop (z + 1))) (congrArg (fun q => Value.slice q (free.length - (z + 1)) (c - (z + 1))) HI.out) HL2.out (ints_news' HO2.out _ (z + 1) c HF2.out HE2.out HG.out) (ints_one _) HM2.out.1 HM2.out.2 HB2.out.size ?_
                 intro v2 w4 hown2 hgrow2 _
                 have HB3 := next_below HB2 hown1 hgrow2))
            have hv2 : Hid (w4.ownsRow w2.heap.size 3 1 v2 (free.take z ++ free.drop (z + 1)).length (intCells (free.take z ++ free.drop (z + 1)))) := by
              show World.ownsRow _ _ _ _ _ _ _
              rw [HN1.out, HA.out]; exact hown2
            have hD2 : Hid (∀ g', v2.ownBlock = some g' → (Value.slice (some ⟨g1, 0, none⟩) (j + 1) c3).ownBlock ≠ some g') := by
              show ∀ g', _
              intro g' h1 h2
              have h3 := (hv2.out.lt g' h1).1
              have h4 : g1 = g' := by simpa [Value.ownBlock] using h2
              omega
            have hF4 : Hid (w4.ownsRow w.heap.size 3 1 v2 (free.take z ++ free.drop (z + 1)).length (intCells (free.take z ++ free.drop (z + 1)))) := own_base hv2.out hbw2.out.size
            have hO4 : Hid (w4.ownsRow w.heap.size 3 1 (.slice (some ⟨g1, 0, none⟩) (j + 1) c3) (j + 1) (intCells (out ++ [Y]))) := own_th hown1'.out HB3.out
            have hb4 : Below w.heap.size w w4 := Bth hbw2.out HB3.out
            clear z5 z6
            go_wp2_with fail
            exact ⟨⟨j + 1, out ++ [Y], free.take z ++ free.drop (z + 1), by omega, by go_num, hOr2, hF4, hO4, hD2, hb4⟩, by (simp [intOf]) <;> omega⟩
        · obtain rfl : j = k := by omega
          have hfin := HOr.out.done
          have hol : out.length = j := HOr.out.l
          go_wp2_with fail
          go_ret
          exact ⟨_, out, rfl, by rw [hol]; exact HO.out, hfin.1, fun h => hfin.2 (by simpa using h), hbel⟩
end Go.Proofs.Ytnjcebfbfecdeaa
