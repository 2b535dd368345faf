/-
  The attempts that are made of tries: a row that the call owns; each read, where it is to be right, is of what stands there.
-/
import Derived.Test.YtnjcebfbfecdeaaMid
import Derived.Deep.RegionHeld3
import Derived.Deep.CutRange
set_option linter.unusedVariables false
namespace Go.Proofs.Ytnjcebfbfecdeaa
open Go.RowKit Go.Maps
theorem umodN (x : Int) (m : Nat) (M : Int) (hM : M = m) (hm : 0 < m) (hm' : m ≤ 1048576) : ∃ k : Nat, k < m ∧ wrap64 ((IntKind.u64.wrap x).tmod M) = (k : Int) ∧ (IntKind.u64.wrap x).tmod M = (k : Int) := by
  subst hM
  have h0 : IntKind.u64.wrap x = x % 18446744073709551616 := by
    simp [IntKind.wrap, IntKind.signed, IntKind.bits]
  have h1 : 0 ≤ x % 18446744073709551616 := Int.emod_nonneg _ (by decide)
  have h2 : (IntKind.u64.wrap x).tmod m = (x % 18446744073709551616) % m := by rw [h0, Int.tmod_eq_emod_of_nonneg h1]
  have h3 : 0 ≤ (x % 18446744073709551616) % (m : Int) := Int.emod_nonneg _ (by omega)
  have h4 : (x % 18446744073709551616) % (m : Int) < m := Int.emod_lt_of_pos _ (by omega)
  obtain ⟨k, hk⟩ := Int.eq_ofNat_of_zero_le h3
  rw [h2, hk]
  rw [hk] at h4
  exact ⟨k, by omega, by unfold wrap64; omega, rfl⟩
theorem umodI (x : Int) (m : Nat) (M : Int) (hM : M = m) (hm : 0 < m) (hm' : m ≤ 1048576) : ∃ k : Int, (0 ≤ k ∧ k < M) ∧ wrap64 ((IntKind.u64.wrap x).tmod M) = k ∧ (IntKind.u64.wrap x).tmod M = k := by
  obtain ⟨k, h1, h2, h3⟩ := umodN x m M hM hm hm'
  exact ⟨k, by omega, h2, h3⟩
theorem w64_in {x : Int} (h : -9223372036854775808 ≤ x ∧ x ≤ 9223372036854775807) : wrap64 x = x := by unfold wrap64; omega
theorem kb_of {k n : Nat} (h : k < n) (hn : n ≤ 1048576) : -9223372036854775808 ≤ (k : Int) + 1 ∧ (k : Int) + 1 ≤ 9223372036854775807 := by omega
theorem tb_of {k n : Int} (h : 0 ≤ k ∧ k < 8) (hn : 0 ≤ n ∧ n < 4) : -9223372036854775808 ≤ k + n ∧ k + n ≤ 9223372036854775807 := by omega
theorem sb_of {k : Int} (h : 0 ≤ k ∧ k < 8) : -9223372036854775808 ≤ k ∧ k ≤ 9223372036854775807 := by omega
theorem row_lit (W : World) (cs : Array Value) (t : Nat) (l : List Value) (h : cs.toList = l) : (W.alloc (.cells cs t)).rowIs W.heap.size t l.length (fun j => l.getD j undef) := by
  subst h
  have := World.rowIs_alloc W cs t (fun j => cs.toList.getD j undef) (fun i hi => by simp [List.getD, hi])
  simpa using this
theorem row_new1 (W : World) (cs : Array Value) (o : Obj) (l : List Value) {b t n : Nat} (hb : W.heap.size = b) (h : cs.toList = l) (hn : l.length = n) : ((W.alloc (.cells cs t)).alloc o).drew.rowIs b t n (fun j => l.getD j undef) := by
  subst hb hn; exact ((row_lit W cs t l h).alloc o).drew
theorem row_new2 (W : World) (cs : Array Value) (o : Obj) (l : List Value) {b t n : Nat} (hb : W.heap.size + 1 = b) (h : cs.toList = l) (hn : l.length = n) : ((W.alloc o).alloc (.cells cs t)).drew.rowIs b t n (fun j => l.getD j undef) := by
  subst hb hn
  have := (row_lit (W.alloc o) cs t l h).drew
  rwa [World.size_alloc] at this
theorem three_other {w : World} {b g : Nat} {x y z : Value} (h : g ≠ b) : (((w.setCell ⟨b, 0, none⟩ x).setCell ⟨b, 1, none⟩ y).setCell ⟨b, 2, none⟩ z).heap[g]? = w.heap[g]? := by
  rw [heap_setCell_other _ ⟨b, 2, none⟩ g _ h, heap_setCell_other _ ⟨b, 1, none⟩ g _ h, heap_setCell_other _ ⟨b, 0, none⟩ g _ h]
theorem three_new (w : World) (b : Nat) (x y z : Value) (cs : Array Value) (t n : Nat) (h : n = w.heap.size) : ((((w.setCell ⟨b, 0, none⟩ x).setCell ⟨b, 1, none⟩ y).setCell ⟨b, 2, none⟩ z).alloc (.cells cs t)).heap[n]? = some (.cells cs t) := by
  subst h
  have := heap_alloc_new (((w.setCell ⟨b, 0, none⟩ x).setCell ⟨b, 1, none⟩ y).setCell ⟨b, 2, none⟩ z) (.cells cs t)
  rwa [World.size_setCell, World.size_setCell, World.size_setCell] at this
theorem info51 : (Try.prog.info? 51).map (fun i => (i.zero, i.size, i.bytes)) = some (some (.agg #[.int .i64 0, .int .i64 0]), 2, 16) := by kernel_rfl
theorem info3 : (Try.prog.info? 3).map (fun i => (i.zero, i.size, i.bytes)) = some (some (.int .i64 0), 1, 8) := by kernel_rfl
theorem info33 : (Try.prog.info? 33).map (fun i => (i.zero, i.size, i.bytes)) = some (some (.agg #[.int .i64 0, .int .i64 0, .bool false, .int .i64 0, .int .i64 0, .int .i64 0, .int .i64 0, .int .i64 0, .slice none 0 0, .slice none 0 0, .slice none 0 0, .slice none 0 0]), 12, 160) := by kernel_rfl
theorem info_parts {e : TypeId} {z : Value} {n bytes : Nat} (h : (Try.prog.info? e).map (fun i => (i.zero, i.size, i.bytes)) = some (some z, n, bytes)) :
    ∃ i, Try.prog.info? e = some i ∧ i.zero = some z ∧ i.size = n ∧ i.bytes = bytes := by
  cases hi : Try.prog.info? e with
  | none => rw [hi] at h; simp at h
  | some i =>
    rw [hi] at h
    simp at h
    exact ⟨i, rfl, h.1, h.2.1, h.2.2⟩
set_option maxRecDepth 100000 in
set_option maxHeartbeats 6400000 in
theorem attempts_any (u : Value) (n : Nat) (ms : Nat → Nat) (s0 s1 s2 : Int) (right : Bool) (w : World) (hu : TrysAt w u n ms) (hn : n ≤ 1048576) (hms : ∀ i, i < n → ms i ≤ 6) :
    Calls Try.prog 10 #[u, .agg #[.int .i64 s0, .int .i64 s1, .int .i64 s2], .bool right] w fun e w' => ∃ v rows, e = .returned v ∧ Outs w' w.heap.size v rows ∧ rows.length = n ∧ Below w.heap.size w w' ∧ Good (startS [s0, s1, s2]) right (rows.map Row.p) := by
  obtain ⟨A, c1, rfl, hc1, hu⟩ := hu
  have HU := Lib.hid hu
  clear hu
  obtain ⟨ia, hia, az0, az1, az2⟩ := info_parts info51
  obtain ⟨ib, hib, bz0, bz1, bz2⟩ := info_parts info3
  obtain ⟨ic, hic, cz0, cz1, cz2⟩ := info_parts info33
  go_enter Try.func10, Try.ntmps10
  go_wp2_with fail
  go_loopw [7, 9] (fun v i wr => ∃ (k : Nat) (rows : List Row) (f : Int → Int), k ≤ n ∧ i = .int .i64 k ∧ Hid (Outs wr (w.heap.size + 2) v rows) ∧ Hid (rows.length = k) ∧ wr.rowIs (w.heap.size + 1) 22 3 (fun j => .int .i64 (f j)) ∧ Hid (∀ j : Nat, j < 3 → f j = wordsI (startS [s0, s1, s2]) (rows.map Row.p) j) ∧ Below w.heap.size w wr ∧ w.heap.size + 2 ≤ wr.heap.size ∧ Hid (Good (startS [s0, s1, s2]) right (rows.map Row.p))) (fun _ i _ => n - (intOf i).toNat)
  case atStart =>
    refine ⟨0, [], startS [s0, s1, s2], by omega, rfl, Outs.nil _ _, rfl, ?_, by show ∀ j : Nat, _; intro j _; rfl, Bal (Bal (Bre _) _) _, by simp, by show Good _ _ _; intro i p h; simp at h⟩
    have := World.rowIs_alloc (w.alloc (.cells #[.int .i64 s0, .int .i64 s1, .int .i64 s2] 22)) #[.int .i64 s0, .int .i64 s1, .int .i64 s2] 22 (fun j => .int .i64 (startS [s0, s1, s2] j)) (fun i hi => by
      have hi' : i = 0 ∨ i = 1 ∨ i = 2 := by simp at hi; omega
      rcases hi' with rfl | rfl | rfl <;> rfl)
    rw [World.size_alloc] at this
    exact this
  case round =>
    obtain ⟨k, rows, f, hk, rfl, HO, hlen, hw, hf, hbel, hsz, HG⟩ := hrel
    by_cases hlt : k < n
    · obtain ⟨b, off, th, fr, lg, en, real, ops, rfl, hb, w1, w2, w3, w4, hops, a0, a1, a2, a3, a4, a5⟩ := HU.out k hlt
      have x0 := (hbel.cell (p := ⟨b, _, none⟩) hb).trans a0
      have x1 := (hbel.cell (p := ⟨b, _, none⟩) hb).trans a1
      have x2 := (hbel.cell (p := ⟨b, _, none⟩) hb).trans a2
      have x3 := (hbel.cell (p := ⟨b, _, none⟩) hb).trans a3
      have x4 := (hbel.cell (p := ⟨b, _, none⟩) hb).trans a4
      have x5 := (hbel.cell (p := ⟨b, _, none⟩) hb).trans a5
      have k0 : (0 : Int) ≤ (k : Int) := by omega
      have kn : (k : Int) < (n : Int) := by omega
      have kw : wrap64 ((k : Int) + 1) = (k : Int) + 1 := w64_in (kb_of hlt hn)
      have kw2 : IntKind.i64.wrap ((k : Int) + 1) = (k : Int) + 1 := IntWalk.i64_in _ (kb_of hlt hn)
      obtain ⟨t1, ht1, e1, e1'⟩ := umodI th 3 3 rfl (by omega) (by omega)
      obtain ⟨t2, ht2, e2, e2'⟩ := umodI fr 8 8 rfl (by omega) (by omega)
      obtain ⟨t3, ht3, e3, e3'⟩ := umodI en 4 4 rfl (by omega) (by omega)
      obtain ⟨t4, ht4, e4, e4'⟩ := umodI lg 4 4 rfl (by omega) (by omega)
      obtain ⟨Ao, co, rfl, hco, hops⟩ := hops
      have HOP := Lib.hid hops
      have hm6 := hms k hlt
      generalize ms k = m at hm6 hco HOP x5
      clear a0 a1 a2 a3 a4 a5 w1 w2 w3 w4 hops
      go_wp2_with fail
      obtain ⟨W1, hW1⟩ : ∃ W1, W1 = wr.alloc (.cells #[.int .i64 th, .int .i64 fr, .int .i64 lg, .int .i64 en, .bool real, .slice Ao m co] 40) := ⟨_, rfl⟩
      have hb1 : Below wr.heap.size wr W1 := by rw [hW1]; exact Bal (Bre _) _
      have hs1 : W1.heap.size = wr.heap.size + 1 := by rw [hW1]; simp
      have y0 : W1.cell? ⟨wr.heap.size, 0, none⟩ = some (.int .i64 th) := by rw [hW1]; go_simp
      have y1 : W1.cell? ⟨wr.heap.size, 1, none⟩ = some (.int .i64 fr) := by rw [hW1]; go_simp
      have y2 : W1.cell? ⟨wr.heap.size, 2, none⟩ = some (.int .i64 lg) := by rw [hW1]; go_simp
      have y3 : W1.cell? ⟨wr.heap.size, 3, none⟩ = some (.int .i64 en) := by rw [hW1]; go_simp
      have y4 : W1.cell? ⟨wr.heap.size, 4, none⟩ = some (.bool real) := by rw [hW1]; go_simp
      have y5 : W1.cell? ⟨wr.heap.size, 5, none⟩ = some (.slice Ao m co) := by rw [hW1]; go_simp
      rw [← hW1]
      clear hW1 x0 x1 x2 x3 x4 x5
      have e1w : IntKind.i64.wrap t1 = t1 := IntWalk.i64_in _ (sb_of (by clear kw kw2 e1 e1' e2 e2' e3 e3' e4 e4'; omega))
      have e2w : IntKind.i64.wrap t2 = t2 := IntWalk.i64_in _ (sb_of (by clear kw kw2 e1 e1' e2 e2' e3 e3' e4 e4'; omega))
      have e4w : IntKind.i64.wrap t4 = t4 := IntWalk.i64_in _ (sb_of (by clear kw kw2 e1 e1' e2 e2' e3 e3' e4 e4'; omega))
      have hlt1 : wr.heap.size < W1.heap.size := by omega
      go_cut [11] from 18 to 125 (fun p w2 => ∃ b11 en', p = .pointer (some ⟨b11, 0, none⟩) ∧ w2.rowIs b11 33 12 (fun j => (attCells ⟨t1, k + 1, real, t2, 0, en', 0, 0, [], [], []⟩ (.slice none 0 0) (.slice none 0 0) (.slice none 0 0)).getD j undef) ∧ Below W1.heap.size W1 w2 ∧ W1.heap.size ≤ b11)
      case first =>
        rcases (by clear kw kw2 e1 e1' e2 e2' e3 e3' e4 e4'; omega : t3 = 0 ∨ t3 = 1 ∨ t3 = 2 ∨ t3 = 3) with rfl | rfl | rfl | rfl
        all_goals
          refine wp_region_held_drew (S := fun w' => w'.cell? ⟨wr.heap.size, 0, none⟩ = some (.int .i64 th) ∧ w'.cell? ⟨wr.heap.size, 1, none⟩ = some (.int .i64 fr) ∧ w'.cell? ⟨wr.heap.size, 3, none⟩ = some (.int .i64 en) ∧ w'.cell? ⟨wr.heap.size, 4, none⟩ = some (.bool real)) (by kernel_rfl) (by (try dsimp only); go_keep) (fun hHeld => ?_)
          refine wpAnyH_take (i := 0) (oi := _) (v := ?_) rfl (by kernel_rfl) (by kernel_rfl) (by kernel_rfl) (fun _ _ _ h => h) (Or.inl ⟨by rfl, ?_⟩) (by assumption) ?_
          rotate_left
          · intro w' hSw; (try dsimp only at hSw); (try simp only [List.getElem_toArray, List.getElem_cons_zero]); go_simp; (try with_reducible rfl)
          simp only [List.getElem_toArray, List.getElem_cons_zero, Act.put, List.setIfInBounds_toArray, List.set_cons_zero, List.set_cons_succ]
          refine wpAnyH_take (i := 1) (oi := _) (v := ?_) rfl (by kernel_rfl) (by kernel_rfl) (by kernel_rfl) (fun _ _ _ h => h) (Or.inl ⟨by rfl, ?_⟩) (by assumption) ?_
          rotate_left
          · intro w' hSw; (try dsimp only at hSw); (try simp only [List.getElem_toArray, List.getElem_cons_succ, List.getElem_cons_zero]); go_simp; (try with_reducible rfl)
          simp only [List.getElem_toArray, List.getElem_cons_succ, List.getElem_cons_zero, Act.put, List.setIfInBounds_toArray, List.set_cons_zero, List.set_cons_succ]
          refine wpAnyH_take (i := 2) (oi := _) (v := ?_) rfl (by kernel_rfl) (by kernel_rfl) (by kernel_rfl) (fun _ _ _ h => h) (Or.inl ⟨by rfl, ?_⟩) (by assumption) ?_
          rotate_left
          · intro w' hSw; (try dsimp only at hSw); (try simp only [List.getElem_toArray, List.getElem_cons_succ, List.getElem_cons_zero]); go_simp; (try with_reducible rfl)
          simp only [List.getElem_toArray, List.getElem_cons_succ, List.getElem_cons_zero, Act.put, List.setIfInBounds_toArray, List.set_cons_zero, List.set_cons_succ]
          refine wpAnyH_take (i := 3) (oi := _) (v := ?_) rfl (by kernel_rfl) (by kernel_rfl) (by kernel_rfl) (fun _ _ _ h => h) (Or.inl ⟨by rfl, ?_⟩) (by assumption) ?_
          rotate_left
          · intro w' hSw; (try dsimp only at hSw); (try simp only [List.getElem_toArray, List.getElem_cons_succ, List.getElem_cons_zero]); go_simp; (try with_reducible rfl)
          simp only [List.getElem_toArray, List.getElem_cons_succ, List.getElem_cons_zero, Act.put, List.setIfInBounds_toArray, List.set_cons_zero, List.set_cons_succ]
          refine wpAnyH_take (i := 4) (oi := _) (v := ?_) rfl (by kernel_rfl) (by kernel_rfl) (by kernel_rfl) (fun _ _ _ h => h) (Or.inl ⟨by rfl, ?_⟩) (by assumption) ?_
          rotate_left
          · intro w' hSw; (try dsimp only at hSw); (try simp only [List.getElem_toArray, List.getElem_cons_succ, List.getElem_cons_zero]); go_simp; (try with_reducible rfl)
          simp only [List.getElem_toArray, List.getElem_cons_succ, List.getElem_cons_zero, Act.put, List.setIfInBounds_toArray, List.set_cons_zero, List.set_cons_succ]
          refine wpAnyH_take (i := 5) (oi := _) (v := ?_) rfl (by kernel_rfl) (by kernel_rfl) (by kernel_rfl) (fun _ _ _ h => h) (Or.inl ⟨by rfl, ?_⟩) (by assumption) ?_
          rotate_left
          · intro w' hSw; (try dsimp only at hSw); (try simp only [List.getElem_toArray, List.getElem_cons_succ, List.getElem_cons_zero]); go_simp; (try with_reducible rfl)
          simp only [List.getElem_toArray, List.getElem_cons_succ, List.getElem_cons_zero, Act.put, List.setIfInBounds_toArray, List.set_cons_zero, List.set_cons_succ]
          refine wpAnyH_take (i := 6) (oi := _) (v := ?_) rfl (by kernel_rfl) (by kernel_rfl) (by kernel_rfl) (fun _ _ _ h => h) (Or.inl ⟨by rfl, ?_⟩) (by assumption) ?_
          rotate_left
          · intro w' hSw; (try dsimp only at hSw); (try simp only [List.getElem_toArray, List.getElem_cons_succ, List.getElem_cons_zero]); go_simp; (try with_reducible rfl)
          simp only [List.getElem_toArray, List.getElem_cons_succ, List.getElem_cons_zero, Act.put, List.setIfInBounds_toArray, List.set_cons_zero, List.set_cons_succ]
          refine wpAnyH_take (i := 7) (oi := _) (v := ?_) rfl (by kernel_rfl) (by kernel_rfl) (by kernel_rfl) (fun _ _ _ h => h) (Or.inl ⟨by rfl, ?_⟩) (by assumption) ?_
          rotate_left
          · intro w' hSw; (try dsimp only at hSw); (try simp only [List.getElem_toArray, List.getElem_cons_succ, List.getElem_cons_zero]); go_simp; (try with_reducible rfl)
          simp only [List.getElem_toArray, List.getElem_cons_succ, List.getElem_cons_zero, Act.put, List.setIfInBounds_toArray, List.set_cons_zero, List.set_cons_succ]
          refine wpAnyH_take (i := 8) (oi := _) (v := ?_) rfl (by kernel_rfl) (by kernel_rfl) (by kernel_rfl) (fun _ _ _ h => h) (Or.inl ⟨by rfl, ?_⟩) (by assumption) ?_
          rotate_left
          · intro w' hSw; (try dsimp only at hSw); (try simp only [List.getElem_toArray, List.getElem_cons_succ, List.getElem_cons_zero]); go_simp; (try with_reducible rfl)
          simp only [List.getElem_toArray, List.getElem_cons_succ, List.getElem_cons_zero, Act.put, List.setIfInBounds_toArray, List.set_cons_zero, List.set_cons_succ]
          refine wpAnyH_take (i := 9) (oi := _) (v := ?_) rfl (by kernel_rfl) (by kernel_rfl) (by kernel_rfl) (fun _ _ _ h => h) (Or.inl ⟨by rfl, ?_⟩) (by assumption) ?_
          rotate_left
          · intro w' hSw; (try dsimp only at hSw); (try simp only [List.getElem_toArray, List.getElem_cons_succ, List.getElem_cons_zero]); go_simp; (try with_reducible rfl)
          simp only [List.getElem_toArray, List.getElem_cons_succ, List.getElem_cons_zero, Act.put, List.setIfInBounds_toArray, List.set_cons_zero, List.set_cons_succ]
          refine wpAnyH_take (i := 10) (oi := _) (v := ?_) rfl (by kernel_rfl) (by kernel_rfl) (by kernel_rfl) (fun _ _ _ h => h) (Or.inl ⟨by rfl, ?_⟩) (by assumption) ?_
          rotate_left
          · intro w' hSw; (try dsimp only at hSw); (try simp only [List.getElem_toArray, List.getElem_cons_succ, List.getElem_cons_zero]); go_simp; (try with_reducible rfl)
          simp only [List.getElem_toArray, List.getElem_cons_succ, List.getElem_cons_zero, Act.put, List.setIfInBounds_toArray, List.set_cons_zero, List.set_cons_succ]
          refine wpAnyH_take (i := 11) (oi := _) (v := ?_) rfl (by kernel_rfl) (by kernel_rfl) (by kernel_rfl) (fun _ _ _ h => h) (Or.inl ⟨by rfl, ?_⟩) (by assumption) ?_
          rotate_left
          · intro w' hSw; (try dsimp only at hSw); (try simp only [List.getElem_toArray, List.getElem_cons_succ, List.getElem_cons_zero]); go_simp; (try with_reducible rfl)
          simp only [List.getElem_toArray, List.getElem_cons_succ, List.getElem_cons_zero, Act.put, List.setIfInBounds_toArray, List.set_cons_zero, List.set_cons_succ]
          refine wpAnyH_take (i := 12) (oi := _) (v := ?_) rfl (by kernel_rfl) (by kernel_rfl) (by kernel_rfl) (fun _ _ _ h => h) (Or.inl ⟨by rfl, ?_⟩) (by assumption) ?_
          rotate_left
          · intro w' hSw; (try dsimp only at hSw); (try simp only [List.getElem_toArray, List.getElem_cons_succ, List.getElem_cons_zero]); go_simp; (try with_reducible rfl)
          simp only [List.getElem_toArray, List.getElem_cons_succ, List.getElem_cons_zero, Act.put, List.setIfInBounds_toArray, List.set_cons_zero, List.set_cons_succ]
          refine wpAnyH_take (i := 13) (oi := _) (v := ?_) rfl (by kernel_rfl) (by kernel_rfl) (by kernel_rfl) (fun _ _ _ h => h) (Or.inl ⟨by rfl, ?_⟩) (by assumption) ?_
          rotate_left
          · intro w' hSw; (try dsimp only at hSw); (try simp only [List.getElem_toArray, List.getElem_cons_succ, List.getElem_cons_zero]); go_simp; (try with_reducible rfl)
          simp only [List.getElem_toArray, List.getElem_cons_succ, List.getElem_cons_zero, Act.put, List.setIfInBounds_toArray, List.set_cons_zero, List.set_cons_succ]
          refine wpAnyH_take (i := 15) (oi := _) (v := ?_) rfl (by kernel_rfl) (by kernel_rfl) (by kernel_rfl) (fun _ _ _ h => h) (Or.inl ⟨by rfl, ?_⟩) (by assumption) ?_
          rotate_left
          · intro w' hSw; (try dsimp only at hSw); (try simp only [List.getElem_toArray, List.getElem_cons_succ, List.getElem_cons_zero]); go_simp; (try with_reducible rfl)
          simp only [List.getElem_toArray, List.getElem_cons_succ, List.getElem_cons_zero, Act.put, List.setIfInBounds_toArray, List.set_cons_zero, List.set_cons_succ]
          refine wpAnyH_take (i := 16) (oi := _) (v := ?_) rfl (by kernel_rfl) (by kernel_rfl) (by kernel_rfl) (fun _ _ _ h => h) (Or.inl ⟨by rfl, ?_⟩) (by assumption) ?_
          rotate_left
          · intro w' hSw; (try dsimp only at hSw); (try simp only [List.getElem_toArray, List.getElem_cons_succ, List.getElem_cons_zero]); go_simp; (try with_reducible rfl)
          simp only [List.getElem_toArray, List.getElem_cons_succ, List.getElem_cons_zero, Act.put, List.setIfInBounds_toArray, List.set_cons_zero, List.set_cons_succ]
          refine wpAnyH_take (i := 17) (oi := _) (v := ?_) rfl (by kernel_rfl) (by kernel_rfl) (by kernel_rfl) (fun _ _ _ h => h) (Or.inl ⟨by rfl, ?_⟩) (by assumption) ?_
          rotate_left
          · intro w' hSw; (try dsimp only at hSw); (try simp only [List.getElem_toArray, List.getElem_cons_succ, List.getElem_cons_zero]); go_simp; (try with_reducible rfl)
          simp only [List.getElem_toArray, List.getElem_cons_succ, List.getElem_cons_zero, Act.put, List.setIfInBounds_toArray, List.set_cons_zero, List.set_cons_succ]
          refine wpAnyH_take (i := 18) (oi := _) (v := ?_) rfl (by kernel_rfl) (by kernel_rfl) (by kernel_rfl) (fun _ _ _ h => h) (Or.inl ⟨by rfl, ?_⟩) (by assumption) ?_
          rotate_left
          · intro w' hSw; (try dsimp only at hSw); (try simp only [List.getElem_toArray, List.getElem_cons_succ, List.getElem_cons_zero]); go_simp; (try with_reducible rfl)
          simp only [List.getElem_toArray, List.getElem_cons_succ, List.getElem_cons_zero, Act.put, List.setIfInBounds_toArray, List.set_cons_zero, List.set_cons_succ]
          refine wpAnyH_ready (rs := [14, 22]) (by kernel_rfl) (by simp) ?_
          refine AllReadyH.cons (i := 14) (o := _) rfl (fun K hK => ?_) ?_
          · go_simp
            refine hK.out _ _ (by (try dsimp only); go_keep) (fun hHeld => ?_)
            clear hK K
            try simp only [List.getElem_toArray, List.getElem_cons_succ, List.getElem_cons_zero, Act.put, List.setIfInBounds_toArray, List.set_cons_zero, List.set_cons_succ]
            refine wpAnyH_take (i := 19) (oi := _) (v := ?_) rfl (by kernel_rfl) (by kernel_rfl) (by kernel_rfl) (fun _ _ _ h => h) (Or.inl ⟨by rfl, ?_⟩) (by assumption) ?_
            rotate_left
            · intro w' hSw; (try dsimp only at hSw); (try simp only [List.getElem_toArray, List.getElem_cons_succ, List.getElem_cons_zero]); go_simp; (try with_reducible rfl)
            simp only [List.getElem_toArray, List.getElem_cons_succ, List.getElem_cons_zero, Act.put, List.setIfInBounds_toArray, List.set_cons_zero, List.set_cons_succ]
            refine wpAnyH_ready (rs := [20, 22]) (by kernel_rfl) (by simp) ?_
            refine AllReadyH.cons (i := 20) (o := _) rfl (fun K hK => ?_) ?_
            · go_simp
              refine hK.out _ _ (by (try dsimp only); go_keep) (fun hHeld => ?_)
              clear hK K
              try simp only [List.getElem_toArray, List.getElem_cons_succ, List.getElem_cons_zero, Act.put, List.setIfInBounds_toArray, List.set_cons_zero, List.set_cons_succ]
              refine wpAnyH_take (i := 21) (oi := _) (v := ?_) rfl (by kernel_rfl) (by kernel_rfl) (by kernel_rfl) (fun _ _ _ h => h) (Or.inl ⟨by rfl, ?_⟩) (by assumption) ?_
              rotate_left
              · intro w' hSw; (try dsimp only at hSw); (try simp only [List.getElem_toArray, List.getElem_cons_succ, List.getElem_cons_zero]); go_simp; (try with_reducible rfl)
              simp only [List.getElem_toArray, List.getElem_cons_succ, List.getElem_cons_zero, Act.put, List.setIfInBounds_toArray, List.set_cons_zero, List.set_cons_succ]
              refine wpAnyH_ready (rs := [22]) (by kernel_rfl) (by simp) ?_
              refine AllReadyH.cons (i := 22) (o := _) rfl (fun K hK => ?_) ?_
              · go_simp
                refine hK.out _ _ (by (try dsimp only); go_keep) (fun hHeld => ?_)
                clear hK K
                try simp only [List.getElem_toArray, List.getElem_cons_succ, List.getElem_cons_zero, Act.put, List.setIfInBounds_toArray, List.set_cons_zero, List.set_cons_succ]
                refine wpAnyH_ready (rs := [23]) (by kernel_rfl) (by simp) ?_
                refine AllReadyH.cons (i := 23) (o := _) rfl (fun K hK => ?_) ?_
                · go_simp
                  refine hK.out _ _ (by (try dsimp only); go_keep) (fun hHeld => ?_)
                  clear hK K
                  try simp only [List.getElem_toArray, List.getElem_cons_succ, List.getElem_cons_zero, Act.put, List.setIfInBounds_toArray, List.set_cons_zero, List.set_cons_succ]
                  refine wpAnyH_done (by kernel_rfl) ?_ _
                  go_wp2_with fail
                  go_meet
                  exact ⟨_, _, rfl, by first | exact row_new1 _ _ _ _ hs1 rfl rfl | exact row_new2 _ _ _ _ (by omega) rfl rfl, Bdrew (Bal (Bal (Bre _) _) _), by omega⟩
                exact AllReadyH.nil
              exact AllReadyH.nil
            refine AllReadyH.cons (i := 22) (o := _) rfl (fun K hK => ?_) ?_
            · go_simp
              refine hK.out _ _ (by (try dsimp only); go_keep) (fun hHeld => ?_)
              clear hK K
              try simp only [List.getElem_toArray, List.getElem_cons_succ, List.getElem_cons_zero, Act.put, List.setIfInBounds_toArray, List.set_cons_zero, List.set_cons_succ]
              refine wpAnyH_ready (rs := [20]) (by kernel_rfl) (by simp) ?_
              refine AllReadyH.cons (i := 20) (o := _) rfl (fun K hK => ?_) ?_
              · go_simp
                refine hK.out _ _ (by (try dsimp only); go_keep) (fun hHeld => ?_)
                clear hK K
                try simp only [List.getElem_toArray, List.getElem_cons_succ, List.getElem_cons_zero, Act.put, List.setIfInBounds_toArray, List.set_cons_zero, List.set_cons_succ]
                refine wpAnyH_take (i := 21) (oi := _) (v := ?_) rfl (by kernel_rfl) (by kernel_rfl) (by kernel_rfl) (fun _ _ _ h => h) (Or.inl ⟨by rfl, ?_⟩) (by assumption) ?_
                rotate_left
                · intro w' hSw; (try dsimp only at hSw); (try simp only [List.getElem_toArray, List.getElem_cons_succ, List.getElem_cons_zero]); go_simp; (try with_reducible rfl)
                simp only [List.getElem_toArray, List.getElem_cons_succ, List.getElem_cons_zero, Act.put, List.setIfInBounds_toArray, List.set_cons_zero, List.set_cons_succ]
                refine wpAnyH_ready (rs := [23]) (by kernel_rfl) (by simp) ?_
                refine AllReadyH.cons (i := 23) (o := _) rfl (fun K hK => ?_) ?_
                · go_simp
                  refine hK.out _ _ (by (try dsimp only); go_keep) (fun hHeld => ?_)
                  clear hK K
                  try simp only [List.getElem_toArray, List.getElem_cons_succ, List.getElem_cons_zero, Act.put, List.setIfInBounds_toArray, List.set_cons_zero, List.set_cons_succ]
                  refine wpAnyH_done (by kernel_rfl) ?_ _
                  go_wp2_with fail
                  go_meet
                  exact ⟨_, _, rfl, by first | exact row_new1 _ _ _ _ hs1 rfl rfl | exact row_new2 _ _ _ _ (by omega) rfl rfl, Bdrew (Bal (Bal (Bre _) _) _), by omega⟩
                exact AllReadyH.nil
              exact AllReadyH.nil
            exact AllReadyH.nil
          refine AllReadyH.cons (i := 22) (o := _) rfl (fun K hK => ?_) ?_
          · go_simp
            refine hK.out _ _ (by (try dsimp only); go_keep) (fun hHeld => ?_)
            clear hK K
            try simp only [List.getElem_toArray, List.getElem_cons_succ, List.getElem_cons_zero, Act.put, List.setIfInBounds_toArray, List.set_cons_zero, List.set_cons_succ]
            refine wpAnyH_ready (rs := [14]) (by kernel_rfl) (by simp) ?_
            refine AllReadyH.cons (i := 14) (o := _) rfl (fun K hK => ?_) ?_
            · go_simp
              refine hK.out _ _ (by (try dsimp only); go_keep) (fun hHeld => ?_)
              clear hK K
              try simp only [List.getElem_toArray, List.getElem_cons_succ, List.getElem_cons_zero, Act.put, List.setIfInBounds_toArray, List.set_cons_zero, List.set_cons_succ]
              refine wpAnyH_take (i := 19) (oi := _) (v := ?_) rfl (by kernel_rfl) (by kernel_rfl) (by kernel_rfl) (fun _ _ _ h => h) (Or.inl ⟨by rfl, ?_⟩) (by assumption) ?_
              rotate_left
              · intro w' hSw; (try dsimp only at hSw); (try simp only [List.getElem_toArray, List.getElem_cons_succ, List.getElem_cons_zero]); go_simp; (try with_reducible rfl)
              simp only [List.getElem_toArray, List.getElem_cons_succ, List.getElem_cons_zero, Act.put, List.setIfInBounds_toArray, List.set_cons_zero, List.set_cons_succ]
              refine wpAnyH_ready (rs := [20]) (by kernel_rfl) (by simp) ?_
              refine AllReadyH.cons (i := 20) (o := _) rfl (fun K hK => ?_) ?_
              · go_simp
                refine hK.out _ _ (by (try dsimp only); go_keep) (fun hHeld => ?_)
                clear hK K
                try simp only [List.getElem_toArray, List.getElem_cons_succ, List.getElem_cons_zero, Act.put, List.setIfInBounds_toArray, List.set_cons_zero, List.set_cons_succ]
                refine wpAnyH_take (i := 21) (oi := _) (v := ?_) rfl (by kernel_rfl) (by kernel_rfl) (by kernel_rfl) (fun _ _ _ h => h) (Or.inl ⟨by rfl, ?_⟩) (by assumption) ?_
                rotate_left
                · intro w' hSw; (try dsimp only at hSw); (try simp only [List.getElem_toArray, List.getElem_cons_succ, List.getElem_cons_zero]); go_simp; (try with_reducible rfl)
                simp only [List.getElem_toArray, List.getElem_cons_succ, List.getElem_cons_zero, Act.put, List.setIfInBounds_toArray, List.set_cons_zero, List.set_cons_succ]
                refine wpAnyH_ready (rs := [23]) (by kernel_rfl) (by simp) ?_
                refine AllReadyH.cons (i := 23) (o := _) rfl (fun K hK => ?_) ?_
                · go_simp
                  refine hK.out _ _ (by (try dsimp only); go_keep) (fun hHeld => ?_)
                  clear hK K
                  try simp only [List.getElem_toArray, List.getElem_cons_succ, List.getElem_cons_zero, Act.put, List.setIfInBounds_toArray, List.set_cons_zero, List.set_cons_succ]
                  refine wpAnyH_done (by kernel_rfl) ?_ _
                  go_wp2_with fail
                  go_meet
                  exact ⟨_, _, rfl, by first | exact row_new1 _ _ _ _ hs1 rfl rfl | exact row_new2 _ _ _ _ (by omega) rfl rfl, Bdrew (Bal (Bal (Bre _) _) _), by omega⟩
                exact AllReadyH.nil
              exact AllReadyH.nil
            exact AllReadyH.nil
          exact AllReadyH.nil
      case rest =>
        obtain ⟨b11, en', rfl, hr11, hb2, hl11⟩ := hcut
        clear e1 e1' e2 e2' e3 e3' y0 y1 y3 y4 e1w e2w kw kw2
        have z2 := (hb2.cell (p := ⟨wr.heap.size, 2, none⟩) hlt1).trans y2
        have z5 := (hb2.cell (p := ⟨wr.heap.size, 5, none⟩) hlt1).trans y5
        have v3 : wc.cell? ⟨b11, 3, none⟩ = some (.int .i64 t2) := hr11.cell (i := 3) (by omega)
        have v4 : wc.cell? ⟨b11, 4, none⟩ = some (.int .i64 0) := hr11.cell (i := 4) (by omega)
        have fz := hr11.frozen 4
        have hbl := hr11.lt
        have hT := Bth hb1 hb2
        have ew : wrap64 (t2 + t4) = t2 + t4 := w64_in (tb_of ht2 ht4)
        have hHR := Lib.hid hr11
        go_upto_region 9 with fail
        clear e4 e4' ew e4w v3 v4 fz z2
        have hws : w.heap.size + 1 < wr.heap.size := by omega
        have q0 : wc.cell? ⟨w.heap.size + 1, 0, none⟩ = some (.int .i64 (f 0)) := (hT.cell (p := ⟨w.heap.size + 1, 0, none⟩) hws).trans (hw.cell (i := 0) (by omega))
        have q1 : wc.cell? ⟨w.heap.size + 1, 1, none⟩ = some (.int .i64 (f 1)) := (hT.cell (p := ⟨w.heap.size + 1, 1, none⟩) hws).trans (hw.cell (i := 1) (by omega))
        have q2 : wc.cell? ⟨w.heap.size + 1, 2, none⟩ = some (.int .i64 (f 2)) := (hT.cell (p := ⟨w.heap.size + 1, 2, none⟩) hws).trans (hw.cell (i := 2) (by omega))
        have hne1 : w.heap.size + 1 ≠ b11 := by omega
        have hne2 : b11 ≠ w.heap.size + 1 := by omega
        have HWd := Lib.hid hw
        clear hr11 hw
        go_wp2_with fail
        have hM0 : Hid (Mid ((wc.setCell ⟨b11, 4, none⟩ (.int .i64 (t2 + t4))).alloc (.cells #[.int .i64 (f 0), .int .i64 (f 1), .int .i64 (f 2)] 22)) (wc.heap.size + 1) b11 wc.heap.size (putS f []) ⟨⟨t1, k + 1, real, t2, t2 + t4, en', 0, 0, [], [], []⟩, .slice none 0 0, .slice none 0 0, .slice none 0 0⟩) := by
          refine ⟨(box_set (r := ⟨⟨t1, k + 1, real, t2, 0, en', 0, 0, [], [], []⟩, .slice none 0 0, .slice none 0 0, .slice none 0 0⟩) hHR.out ⟨⟨t1, k + 1, real, t2, t2 + t4, en', 0, 0, [], [], []⟩, .slice none 0 0, .slice none 0 0, .slice none 0 0⟩ 4 (.int .i64 (t2 + t4)) rfl).alloc _, ?_, ⟨World.ownsRow_nil _ _ _ _, World.ownsRow_nil _ _ _ _, World.ownsRow_nil _ _ _ _⟩, by simp [Row.bl, ob, Value.ownBlock]⟩
          have := World.rowIs_alloc (wc.setCell ⟨b11, 4, none⟩ (.int .i64 (t2 + t4))) #[.int .i64 (f 0), .int .i64 (f 1), .int .i64 (f 2)] 22 (fun j => .int .i64 (f j)) (fun i hi => by
            have hi' : i = 0 ∨ i = 1 ∨ i = 2 := by simp at hi; omega
            rcases hi' with rfl | rfl | rfl <;> rfl)
          rw [World.size_setCell] at this
          exact this
        have hB0 : Below wr.heap.size wr ((wc.setCell ⟨b11, 4, none⟩ (.int .i64 (t2 + t4))).alloc (.cells #[.int .i64 (f 0), .int .i64 (f 1), .int .i64 (f 2)] 22)) := Bal (Bset hT (by show _ ≤ b11; omega) _) _
        have hz0 : ((wc.setCell ⟨b11, 4, none⟩ (.int .i64 (t2 + t4))).alloc (.cells #[.int .i64 (f 0), .int .i64 (f 1), .int .i64 (f 2)] 22)).cell? ⟨wr.heap.size, 5, none⟩ = some (.slice Ao m co) := by
          have hB' : Below (wr.heap.size + 1) wc ((wc.setCell ⟨b11, 4, none⟩ (.int .i64 (t2 + t4))).alloc (.cells #[.int .i64 (f 0), .int .i64 (f 1), .int .i64 (f 2)] 22)) := ((Below.refl _ _).setCell (by show _ ≤ b11; omega) _).alloc (by rw [World.size_setCell]; omega) _
          exact (hB'.cell (p := ⟨wr.heap.size, 5, none⟩) (by show wr.heap.size < _; omega)).trans z5
        have hwcs := hT.size
        generalize ((wc.setCell ⟨b11, 4, none⟩ (.int .i64 (t2 + t4))).alloc (.cells #[.int .i64 (f 0), .int .i64 (f 1), .int .i64 (f 2)] 22)) = W3 at *
        generalize hB : wc.heap.size = b12 at *
        have hW3 : b12 < W3.heap.size := hM0.out.own.lt
        clear hHR q0 q1 q2 z5 hb2 hT hB hne1 hne2 hws
        obtain ⟨v0, hv0⟩ : ∃ v0, v0 = wr := ⟨wr, rfl⟩
        subst hv0
        have hx0 : b11 < b12 + 1 := by omega
        have hx1 : b12 < b12 + 1 := by omega
        have hv1 : v0.heap.size + 1 ≤ b11 := by omega
        have hv2 : v0.heap.size + 1 ≤ b12 := by omega
        go_loopw [13] (fun i w2 => ∃ (j : Nat) (rs ws : List Wd) (ss : List Int) (vr vw vs : Value), j ≤ m ∧ i = .int .i64 j ∧ Hid (Mid w2 (b12 + 1) b11 b12 (putS f ws) ⟨⟨t1, k + 1, real, t2, t2 + t4, en', 0, 0, rs, ws, ss⟩, vr, vw, vs⟩) ∧ Hid (Part2 j f right ⟨t1, k + 1, real, t2, t2 + t4, en', 0, 0, rs, ws, ss⟩) ∧ Below v0.heap.size v0 w2 ∧ b12 < w2.heap.size ∧ w2.cell? ⟨v0.heap.size, 5, none⟩ = some (.slice Ao m co)) (fun i _ => m - (intOf i).toNat)
        case atStart => exact ⟨0, [], [], [], _, _, _, by omega, rfl, hM0, Part2.nil _ _ _ rfl rfl rfl, hB0, hW3, hz0⟩
        case round =>
          clear hM0 hB0 hW3 hz0
          obtain ⟨j, rs, ws, ss, vr, vw, vs, hjm, rfl, HM, HP, hbr, hbs, hz⟩ := hrel
          by_cases hjl : j < m
          · obtain ⟨bo, oo, kd, pl, val, rfl, hbo, _, _, _, c0, c1', c2⟩ := HOP.out j hjl
            have hbw : Below w.heap.size w wr := Bth hbel hbr
            have g0 := (hbw.cell (p := ⟨bo, _, none⟩) hbo).trans c0
            have g1 := (hbw.cell (p := ⟨bo, _, none⟩) hbo).trans c1'
            have g2 := (hbw.cell (p := ⟨bo, _, none⟩) hbo).trans c2
            have j0 : (0 : Int) ≤ (j : Int) := by omega
            have jn : (j : Int) < (m : Int) := by omega
            obtain ⟨Ar, cr, hvr, hcr⟩ := own_form HM.out.o.1
            obtain ⟨Aw, cw, hvw, hcw⟩ := own_form HM.out.o.2.1
            obtain ⟨As, cs, hvs, hcs⟩ := own_form HM.out.o.2.2
            dsimp only at hvr hvw hvs hcr hcw hcs
            subst hvr hvw hvs
            clear c0 c1' c2
            go_upto_region 14 with fail
            obtain ⟨W5, hW5⟩ : ∃ W5, W5 = wr.alloc (.cells #[.int .i64 kd, .int .i64 pl, .int .i64 val] 54) := ⟨_, rfl⟩
            have hb5 : Below wr.heap.size wr W5 := by rw [hW5]; exact Bal (Bre _) _
            have hs5 : wr.heap.size < W5.heap.size := by rw [hW5]; simp
            have h0 : W5.cell? ⟨wr.heap.size, 0, none⟩ = some (.int .i64 kd) := by rw [hW5]; go_simp
            have h1 : W5.cell? ⟨wr.heap.size, 1, none⟩ = some (.int .i64 pl) := by rw [hW5]; go_simp
            have h2 : W5.cell? ⟨wr.heap.size, 2, none⟩ = some (.int .i64 val) := by rw [hW5]; go_simp
            rw [← hW5]
            clear hW5 g0 g1 g2
            obtain ⟨q1, hq1, d1, d1'⟩ := umodI pl 3 3 rfl (by omega) (by omega)
            obtain ⟨q2, hq2, d2, d2'⟩ := umodI val 3 3 rfl (by clear d1 d1'; omega) (by clear d1 d1'; omega)
            have q1w : IntKind.i64.wrap q1 = q1 := IntWalk.i64_in _ (by clear d1 d1' d2 d2'; omega)
            have q2w : IntKind.i64.wrap q2 = q2 := IntWalk.i64_in _ (by clear d1 d1' d2 d2' q1w; omega)
            go_cut [15, 16] from 60 to 117 (fun a v w5 => a = .int .i64 q1 ∧ v = .int .i64 q2 ∧ Below W5.heap.size W5 w5)
            case first =>
              go_region_held3 (fun w' => w'.cell? ⟨wr.heap.size, 1, none⟩ = some (.int .i64 pl) ∧ w'.cell? ⟨wr.heap.size, 2, none⟩ = some (.int .i64 val)) (go_keep) (fail)
              all_goals
                go_wp2_with fail
                go_meet
              all_goals exact ⟨rfl, rfl, by repeat (first | exact Bre _ | refine Bdrew ?_)⟩
            case rest =>
              obtain ⟨rfl, rfl, hb6⟩ := hcut
              clear d1 d1' d2 d2' q1w q2w h1 h2
              have hq0 : 0 ≤ q1 := hq1.1
              have hq3 : q1 < 3 := hq1.2
              obtain ⟨q, rfl⟩ := Int.eq_ofNat_of_zero_le hq0
              have hb7 : Below wr.heap.size wr wc := Bth hb5 hb6
              have HM5 : Hid (Mid wc (b12 + 1) b11 b12 (putS f ws) ⟨⟨t1, k + 1, real, t2, t2 + t4, en', 0, 0, rs, ws, ss⟩, .slice Ar rs.length cr, .slice Aw ws.length cw, .slice As ss.length cs⟩) := HM.out.th hb7
              have hbs5 : b12 < wc.heap.size := HM5.out.own.lt
              have hz5 : wc.cell? ⟨v0.heap.size, 5, none⟩ = some (.slice (some ⟨bo, oo, none⟩) m co) := (hb7.cell (p := ⟨v0.heap.size, 5, none⟩) (by show v0.heap.size < _; omega)).trans hz
              have hb8 : Below v0.heap.size v0 wc := Bth hbr hb7
              have h0' := (hb6.cell (p := ⟨wr.heap.size, 0, none⟩) hs5).trans h0
              have hwv : v0.heap.size + 1 ≤ wc.heap.size := by omega
              have hn1 := HP.out.a.n1
              have hn2 := HP.out.a.n2
              dsimp only at hn1 hn2
              have hwl : ws.length < 6 := by omega
              have hrl : rs.length < 6 := by omega
              have hsl : ss.length < 6 := by omega
              clear hn1 hn2 h0 hz hb6 hb7 hs5 hb5 HM hbr hq1 hq0
              obtain ⟨d, hd, d3, d4⟩ := umodN kd 2 2 rfl (by omega) (by omega)
              rcases (by clear d3 d4; omega : d = 1 ∨ d = 0) with rfl | rfl
              · have d5 : (IntKind.u64.wrap kd).tmod 2 = 1 := d4
                clear d3 d4 hd
                have v9 : wc.cell? ⟨b11, 9, none⟩ = some (.slice Aw ws.length cw) := HM5.out.cells.cell (i := 9) (by omega)
                have hq3n : q < 3 := by clear d5; omega
                have hq0 : (0 : Int) ≤ (q : Int) := by clear d5; omega
                have hb12l := HM5.out.own.lt
                have hb11l := HM5.out.cells.lt
                go_wp2_with (at_builtin; refine wpList_append_lies _ rfl (.tmp 88) (.tmp 92) 31 rfl (b12 + 1) 51 ia _ 2 16 Try.underlying31 hia az0 az1 az2 rfl (Nat.succ_pos _) (.slice Aw ws.length cw) ws.length (wdCells ws) rfl (HM5.out.o.2.1.alloc _) ⟨wc.heap.size, 0, none⟩ 1 1 (wdC ⟨q, q2⟩) rfl rfl (World.news_of_block (heap_alloc_new wc _)) (by simp [Value.oneCell', wdC]) (Nat.succ_pos _) (by clear d5; unfold maxLen; omega) (by clear d5; omega) (by clear d5; simp; omega) (wc.heap.size + 1) (by simp) ?_; intro g1 c3 w6 hown hgrow hat hg1; have HF := HM5.out.far hx0 hx1 (Bal (Bre wc) _) hgrow (fun k e => (HM5.out.o.2.1.lt k e).1); have f1 := HF.1.frozen 9; have f2 := HF.2.frozen q; have f3 := HF.1.lt; have f4 := HF.2.lt; have f5 := HF.2.cell (i := q) hq3n; have f6 := HF.1.cell (i := 9) (by omega))
                have HM7 : Hid (Mid (w6.setCell ⟨b11, 9, none⟩ (.slice (some ⟨g1, 0, none⟩) (ws.length + 1) c3)) (b12 + 1) b11 b12 (putS f ws) ⟨⟨t1, k + 1, real, t2, t2 + t4, en', 0, 0, rs, ws ++ [⟨q, q2⟩], ss⟩, .slice Ar rs.length cr, .slice (some ⟨g1, 0, none⟩) (ws.length + 1) c3, .slice As ss.length cs⟩) :=
                  HM5.out.addW hx0 hx1 (by clear d5; omega) (Bal (Bre _) _) ⟨q, q2⟩ hown hgrow (hat.imp id (fun e => by clear d5; omega))
                have HM8 : Hid (Mid ((w6.setCell ⟨b11, 9, none⟩ (.slice (some ⟨g1, 0, none⟩) (ws.length + 1) c3)).setCell ⟨b12, q, none⟩ (.int .i64 q2)) (b12 + 1) b11 b12 (putS f (ws ++ [⟨q, q2⟩])) ⟨⟨t1, k + 1, real, t2, t2 + t4, en', 0, 0, rs, ws ++ [⟨q, q2⟩], ss⟩, .slice Ar rs.length cr, .slice (some ⟨g1, 0, none⟩) (ws.length + 1) c3, .slice As ss.length cs⟩) := by
                  show Mid _ _ _ _ _ _
                  rw [putS_snoc]
                  exact HM7.out.put hx1 q q2
                have C : Below (v0.heap.size + 1) wc ((w6.setCell ⟨b11, 9, none⟩ (.slice (some ⟨g1, 0, none⟩) (ws.length + 1) c3)).setCell ⟨b12, q, none⟩ (.int .i64 q2)) :=
                  ((((Below.refl _ _).alloc hwv _).grown hgrow (by rw [World.size_alloc]; clear d5; omega) (fun g e => by have := (HM5.out.o.2.1.lt g e).1; clear d5; omega)).setCell hv1 _).setCell hv2 _
                have HP8 : Hid (Part2 (j + 1) f right ⟨t1, k + 1, real, t2, t2 + t4, en', 0, 0, rs, ws ++ [⟨q, q2⟩], ss⟩) := HP.out.addW ⟨q, q2⟩ ⟨hq0, hq3⟩ hq2
                exact ⟨⟨j + 1, rs, ws ++ [⟨q, q2⟩], ss, _, _, _, by clear d5; omega, by go_num, HM8, HP8, hb8.trans (C.mono (Nat.le_succ _)), Nat.lt_of_lt_of_le hbs5 C.size, (C.cell (p := ⟨v0.heap.size, 5, none⟩) (Nat.lt_succ_self _)).trans hz5⟩, by clear d5; (simp [intOf]) <;> omega⟩
              · have d5 : (IntKind.u64.wrap kd).tmod 2 = 0 := d4
                clear d3 d4 hd
                have v8 : wc.cell? ⟨b11, 8, none⟩ = some (.slice Ar rs.length cr) := HM5.out.cells.cell (i := 8) (by omega)
                have hq3n : q < 3 := by clear d5; omega
                have hq0 : (0 : Int) ≤ (q : Int) := by clear d5; omega
                have hb12l := HM5.out.own.lt
                have hb11l := HM5.out.cells.lt
                have oq := HM5.out.own.cell (i := q) hq3n
                generalize hY : putS f ws (q : Int) = Y0 at oq
                have HY := Lib.hid hY
                clear hY
                cases right
                · go_wp2_with (first
                    | (at_builtin; refine wpList_append_lies _ rfl (.tmp 103) (.tmp 107) 31 rfl (b12 + 1) 51 ia _ 2 16 Try.underlying31 hia az0 az1 az2 rfl (Nat.succ_pos _) (.slice Ar rs.length cr) rs.length (wdCells rs) rfl (HM5.out.o.1.alloc _) ⟨wc.heap.size, 0, none⟩ 1 1 (wdC ⟨q, q2⟩) rfl rfl (World.news_of_block (heap_alloc_new wc _)) (by simp [Value.oneCell', wdC]) (Nat.succ_pos _) (by clear d5; unfold maxLen; omega) (by clear d5; omega) (by clear d5; simp; omega) (wc.heap.size + 1) (by simp) ?_
                       intro g1 c3 w6 hown hgrow hat hg1
                       have HF := Lib.hid (HM5.out.far hx0 hx1 (Bal (Bre wc) _) hgrow (fun k e => (HM5.out.o.1.lt k e).1))
                       have f1 := HF.out.1.frozen 8
                       have f3 := HF.out.1.lt
                       have f4 := HF.out.2.lt
                       have f8 : w6.cell? ⟨b11, 8, none⟩ = some (.slice Ar rs.length cr) := HF.out.1.cell (i := 8) (by omega)
                       have f9 : w6.cell? ⟨b11, 9, none⟩ = some (.slice Aw ws.length cw) := HF.out.1.cell (i := 9) (by omega)
                       have f10 : w6.cell? ⟨b11, 10, none⟩ = some (.slice As ss.length cs) := HF.out.1.cell (i := 10) (by omega)
                       have HM6 : Hid (Mid (w6.setCell ⟨b11, 8, none⟩ (.slice (some ⟨g1, 0, none⟩) (rs.length + 1) c3)) (b12 + 1) b11 b12 (putS f ws) ⟨⟨t1, k + 1, real, t2, t2 + t4, en', 0, 0, rs ++ [⟨q, q2⟩], ws, ss⟩, .slice (some ⟨g1, 0, none⟩) (rs.length + 1) c3, .slice Aw ws.length cw, .slice As ss.length cs⟩) := HM5.out.addR hx0 hx1 (by clear d5; omega) (Bal (Bre _) _) ⟨q, q2⟩ hown hgrow (hat.imp id (fun e => by clear d5; omega)))
                    | (at_builtin; refine wpList_append_lies _ rfl (.tmp 111) (.tmp 115) 24 rfl (b12 + 1) 3 ib _ 1 8 Try.underlying24 hib bz0 bz1 bz2 rfl (Nat.succ_pos _) (.slice As ss.length cs) ss.length (intCells ss) rfl (HM6.out.o.2.2.alloc _) ⟨w6.heap.size, 0, none⟩ 1 1 [.int .i64 ws.length] rfl rfl (World.news_of_block (cs := #[.int .i64 ws.length]) (t := 3) (fr := (0, 0)) (by have := heap_alloc_new (w6.setCell ⟨b11, 8, none⟩ (.slice (some ⟨g1, 0, none⟩) (rs.length + 1) c3)) (.cells #[.int .i64 ws.length] 3); rwa [World.size_setCell] at this)) (by simp [Value.oneCell']) (Nat.succ_pos _) (by clear d5; unfold maxLen; omega) (by clear d5; omega) (by clear d5; simp; omega) (w6.heap.size + 1) (by simp) ?_
                       intro g2 c4 w8 hown2 hgrow2 hat2 hg2
                       have HF2 := Lib.hid (HM6.out.far hx0 hx1 (Bal (Bre _) _) hgrow2 (fun k e => (HM6.out.o.2.2.lt k e).1))
                       have f1' := HF2.out.1.frozen 10
                       have f3' := HF2.out.1.lt
                       have f10' : w8.cell? ⟨b11, 10, none⟩ = some (.slice As ss.length cs) := HF2.out.1.cell (i := 10) (by omega)))
                  have HM8 : Hid (Mid (w8.setCell ⟨b11, 10, none⟩ (.slice (some ⟨g2, 0, none⟩) (ss.length + 1) c4)) (b12 + 1) b11 b12 (putS f ws) ⟨⟨t1, k + 1, real, t2, t2 + t4, en', 0, 0, rs ++ [⟨q, q2⟩], ws, ss ++ [(ws.length : Int)]⟩, .slice (some ⟨g1, 0, none⟩) (rs.length + 1) c3, .slice Aw ws.length cw, .slice (some ⟨g2, 0, none⟩) (ss.length + 1) c4⟩) :=
                    HM6.out.addS hx0 hx1 (by rw [World.size_setCell]; clear d5; omega) (Bal (Bre _) _) (ws.length : Int) hown2 hgrow2 (hat2.imp id (fun e => by rw [World.size_setCell]; clear d5; omega))
                  have C : Below (v0.heap.size + 1) wc (w8.setCell ⟨b11, 10, none⟩ (.slice (some ⟨g2, 0, none⟩) (ss.length + 1) c4)) :=
                    ((((((Below.refl _ _).alloc hwv _).grown hgrow (by rw [World.size_alloc]; clear d5; omega) (fun g e => by have := (HM5.out.o.1.lt g e).1; clear d5; omega)).setCell hv1 _).alloc (by rw [World.size_setCell]; clear d5; omega) _).grown hgrow2 (by rw [World.size_alloc, World.size_setCell]; clear d5; omega) (fun g e => by have := (HM6.out.o.2.2.lt g e).1; clear d5; omega)).setCell hv1 _
                  have HP8 : Hid (Part2 (j + 1) f false ⟨t1, k + 1, real, t2, t2 + t4, en', 0, 0, rs ++ [⟨q, q2⟩], ws, ss ++ [(ws.length : Int)]⟩) := HP.out.addR ⟨q, q2⟩ ⟨hq0, hq3⟩ (fun h => by cases h)
                  exact ⟨⟨j + 1, rs ++ [⟨q, q2⟩], ws, ss ++ [(ws.length : Int)], _, _, _, by clear d5; omega, by go_num, HM8, HP8, hb8.trans (C.mono (Nat.le_succ _)), Nat.lt_of_lt_of_le hbs5 C.size, (C.cell (p := ⟨v0.heap.size, 5, none⟩) (Nat.lt_succ_self _)).trans hz5⟩, by clear d5; (simp [intOf]) <;> omega⟩
                · go_wp2_with (first
                    | (at_builtin; refine wpList_append_lies _ rfl (.tmp 103) (.tmp 107) 31 rfl (b12 + 1) 51 ia _ 2 16 Try.underlying31 hia az0 az1 az2 rfl (Nat.succ_pos _) (.slice Ar rs.length cr) rs.length (wdCells rs) rfl (HM5.out.o.1.alloc _) ⟨wc.heap.size, 0, none⟩ 1 1 (wdC ⟨q, Y0⟩) rfl rfl (World.news_of_block (heap_alloc_new wc _)) (by simp [Value.oneCell', wdC]) (Nat.succ_pos _) (by clear d5; unfold maxLen; omega) (by clear d5; omega) (by clear d5; simp; omega) (wc.heap.size + 1) (by simp) ?_
                       intro g1 c3 w6 hown hgrow hat hg1
                       have HF := Lib.hid (HM5.out.far hx0 hx1 (Bal (Bre wc) _) hgrow (fun k e => (HM5.out.o.1.lt k e).1))
                       have f1 := HF.out.1.frozen 8
                       have f3 := HF.out.1.lt
                       have f4 := HF.out.2.lt
                       have f8 : w6.cell? ⟨b11, 8, none⟩ = some (.slice Ar rs.length cr) := HF.out.1.cell (i := 8) (by omega)
                       have f9 : w6.cell? ⟨b11, 9, none⟩ = some (.slice Aw ws.length cw) := HF.out.1.cell (i := 9) (by omega)
                       have f10 : w6.cell? ⟨b11, 10, none⟩ = some (.slice As ss.length cs) := HF.out.1.cell (i := 10) (by omega)
                       have HM6 : Hid (Mid (w6.setCell ⟨b11, 8, none⟩ (.slice (some ⟨g1, 0, none⟩) (rs.length + 1) c3)) (b12 + 1) b11 b12 (putS f ws) ⟨⟨t1, k + 1, real, t2, t2 + t4, en', 0, 0, rs ++ [⟨q, Y0⟩], ws, ss⟩, .slice (some ⟨g1, 0, none⟩) (rs.length + 1) c3, .slice Aw ws.length cw, .slice As ss.length cs⟩) := HM5.out.addR hx0 hx1 (by clear d5; omega) (Bal (Bre _) _) ⟨q, Y0⟩ hown hgrow (hat.imp id (fun e => by clear d5; omega)))
                    | (at_builtin; refine wpList_append_lies _ rfl (.tmp 111) (.tmp 115) 24 rfl (b12 + 1) 3 ib _ 1 8 Try.underlying24 hib bz0 bz1 bz2 rfl (Nat.succ_pos _) (.slice As ss.length cs) ss.length (intCells ss) rfl (HM6.out.o.2.2.alloc _) ⟨w6.heap.size, 0, none⟩ 1 1 [.int .i64 ws.length] rfl rfl (World.news_of_block (cs := #[.int .i64 ws.length]) (t := 3) (fr := (0, 0)) (by have := heap_alloc_new (w6.setCell ⟨b11, 8, none⟩ (.slice (some ⟨g1, 0, none⟩) (rs.length + 1) c3)) (.cells #[.int .i64 ws.length] 3); rwa [World.size_setCell] at this)) (by simp [Value.oneCell']) (Nat.succ_pos _) (by clear d5; unfold maxLen; omega) (by clear d5; omega) (by clear d5; simp; omega) (w6.heap.size + 1) (by simp) ?_
                       intro g2 c4 w8 hown2 hgrow2 hat2 hg2
                       have HF2 := Lib.hid (HM6.out.far hx0 hx1 (Bal (Bre _) _) hgrow2 (fun k e => (HM6.out.o.2.2.lt k e).1))
                       have f1' := HF2.out.1.frozen 10
                       have f3' := HF2.out.1.lt
                       have f10' : w8.cell? ⟨b11, 10, none⟩ = some (.slice As ss.length cs) := HF2.out.1.cell (i := 10) (by omega)))
                  have HM8 : Hid (Mid (w8.setCell ⟨b11, 10, none⟩ (.slice (some ⟨g2, 0, none⟩) (ss.length + 1) c4)) (b12 + 1) b11 b12 (putS f ws) ⟨⟨t1, k + 1, real, t2, t2 + t4, en', 0, 0, rs ++ [⟨q, Y0⟩], ws, ss ++ [(ws.length : Int)]⟩, .slice (some ⟨g1, 0, none⟩) (rs.length + 1) c3, .slice Aw ws.length cw, .slice (some ⟨g2, 0, none⟩) (ss.length + 1) c4⟩) :=
                    HM6.out.addS hx0 hx1 (by rw [World.size_setCell]; clear d5; omega) (Bal (Bre _) _) (ws.length : Int) hown2 hgrow2 (hat2.imp id (fun e => by rw [World.size_setCell]; clear d5; omega))
                  have C : Below (v0.heap.size + 1) wc (w8.setCell ⟨b11, 10, none⟩ (.slice (some ⟨g2, 0, none⟩) (ss.length + 1) c4)) :=
                    ((((((Below.refl _ _).alloc hwv _).grown hgrow (by rw [World.size_alloc]; clear d5; omega) (fun g e => by have := (HM5.out.o.1.lt g e).1; clear d5; omega)).setCell hv1 _).alloc (by rw [World.size_setCell]; clear d5; omega) _).grown hgrow2 (by rw [World.size_alloc, World.size_setCell]; clear d5; omega) (fun g e => by have := (HM6.out.o.2.2.lt g e).1; clear d5; omega)).setCell hv1 _
                  have HP8 : Hid (Part2 (j + 1) f true ⟨t1, k + 1, real, t2, t2 + t4, en', 0, 0, rs ++ [⟨q, Y0⟩], ws, ss ++ [(ws.length : Int)]⟩) := HP.out.addR ⟨q, Y0⟩ ⟨hq0, hq3⟩ (fun _ => HY.out.symm)
                  exact ⟨⟨j + 1, rs ++ [⟨q, Y0⟩], ws, ss ++ [(ws.length : Int)], _, _, _, by clear d5; omega, by go_num, HM8, HP8, hb8.trans (C.mono (Nat.le_succ _)), Nat.lt_of_lt_of_le hbs5 C.size, (C.cell (p := ⟨v0.heap.size, 5, none⟩) (Nat.lt_succ_self _)).trans hz5⟩, by clear d5; (simp [intOf]) <;> omega⟩
          · obtain rfl : j = m := by omega
            have o0 : wr.cell? ⟨b12, 0, none⟩ = some (.int .i64 (putS f ws 0)) := HM.out.own.cell (i := 0) (by omega)
            have o1 : wr.cell? ⟨b12, 1, none⟩ = some (.int .i64 (putS f ws 1)) := HM.out.own.cell (i := 1) (by omega)
            have o2 : wr.cell? ⟨b12, 2, none⟩ = some (.int .i64 (putS f ws 2)) := HM.out.own.cell (i := 2) (by omega)
            have hw8 : wr.rowIs (w.heap.size + 1) 22 3 (fun j => .int .i64 (f j)) := HWd.out.of_block (hbr.block _ (by omega))
            have p0 := hw8.frozen 0
            have p1 := hw8.frozen 1
            have p2 := hw8.frozen 2
            have p3 := hw8.lt
            have c0 : wr.cell? ⟨w.heap.size + 1, 0, none⟩ = some (.int .i64 (f 0)) := hw8.cell (i := 0) (by omega)
            have c1' : wr.cell? ⟨w.heap.size + 1, 1, none⟩ = some (.int .i64 (f 1)) := hw8.cell (i := 1) (by omega)
            have c2 : wr.cell? ⟨w.heap.size + 1, 2, none⟩ = some (.int .i64 (f 2)) := hw8.cell (i := 2) (by omega)
            have HW8 := Lib.hid hw8
            clear hw8
            have z0 : wr.cell? ⟨b11, 0, none⟩ = some (.int .i64 t1) := HM.out.cells.cell (i := 0) (by omega)
            have z1 : wr.cell? ⟨b11, 1, none⟩ = some (.int .i64 ((k : Int) + 1)) := HM.out.cells.cell (i := 1) (by omega)
            have z2 : wr.cell? ⟨b11, 2, none⟩ = some (.bool real) := HM.out.cells.cell (i := 2) (by omega)
            have z3 : wr.cell? ⟨b11, 3, none⟩ = some (.int .i64 t2) := HM.out.cells.cell (i := 3) (by omega)
            have z4 : wr.cell? ⟨b11, 4, none⟩ = some (.int .i64 (t2 + t4)) := HM.out.cells.cell (i := 4) (by omega)
            have z5 : wr.cell? ⟨b11, 5, none⟩ = some (.int .i64 en') := HM.out.cells.cell (i := 5) (by omega)
            have z6 : wr.cell? ⟨b11, 6, none⟩ = some (.int .i64 0) := HM.out.cells.cell (i := 6) (by omega)
            have z7 : wr.cell? ⟨b11, 7, none⟩ = some (.int .i64 0) := HM.out.cells.cell (i := 7) (by omega)
            have z8 : wr.cell? ⟨b11, 8, none⟩ = some vr := HM.out.cells.cell (i := 8) (by omega)
            have z9 : wr.cell? ⟨b11, 9, none⟩ = some vw := HM.out.cells.cell (i := 9) (by omega)
            have z10 : wr.cell? ⟨b11, 10, none⟩ = some vs := HM.out.cells.cell (i := 10) (by omega)
            have z11 : wr.cell? ⟨b11, 11, none⟩ = some (.slice none 0 0) := HM.out.cells.cell (i := 11) (by omega)
            have hb88 : w.heap.size + 1 ≠ b11 := by omega
            have hb89 : b11 ≠ w.heap.size + 1 := by omega
            have hHO : Hid (Outs wr (w.heap.size + 2) u7 rows) := HO.out.th hbr
            have hlB : Hid (∀ g ∈ ob u7 ++ rows.flatMap Row.bl, g < b12 + 1) := by
              show ∀ g, _
              intro g hg
              have := (HO.out.lt g hg).2
              omega
            obtain ⟨Ar, cr, hvr, hcr⟩ := own_form HM.out.o.1
            obtain ⟨Aw, cw, hvw, hcw⟩ := own_form HM.out.o.2.1
            obtain ⟨As, cs, hvs, hcs⟩ := own_form HM.out.o.2.2
            dsimp only at hvr hvw hvs hcr hcw hcs
            subst hvr hvw hvs
            have HPT : Hid (Part j (wordsI (startS [s0, s1, s2]) (rows.map Row.p)) right ⟨t1, k + 1, real, t2, t2 + t4, en', 0, 0, rs, ws, ss⟩) := HP.out.a.congr hf.out
            have HG' : Hid (Good (startS [s0, s1, s2]) right ((rows ++ [(⟨⟨t1, k + 1, real, t2, t2 + t4, en', 0, 0, rs, ws, ss⟩, .slice Ar rs.length cr, .slice Aw ws.length cw, .slice As ss.length cs⟩ : Row)]).map Row.p)) := by
              show Good _ _ _
              rw [List.map_append]
              exact HG.out.add hm6 HPT.out (by rw [List.length_map, hlen.out])
            have hb0 : Below w.heap.size w wr := Bth hbel hbr
            obtain rfl : rows.length = k := hlen.out
            by_cases he : en' = 6
            · subst he
              have hrow : Hid (Row.own (((wr.setCell ⟨w.heap.size + 1, 0, none⟩ (.int .i64 (putS f ws 0))).setCell ⟨w.heap.size + 1, 1, none⟩ (.int .i64 (putS f ws 1))).setCell ⟨w.heap.size + 1, 2, none⟩ (.int .i64 (putS f ws 2))) (b12 + 1) ⟨⟨t1, rows.length + 1, real, t2, t2 + t4, 6, 0, 0, rs, ws, ss⟩, .slice Ar rs.length cr, .slice Aw ws.length cw, .slice As ss.length cs⟩) :=
                Row.own_same HM.out.o (fun g hg => by
                  have := (Row.own_lt HM.out.o g hg).1
                  exact three_other (by omega))
              have HO3 : Hid (Outs (((wr.setCell ⟨w.heap.size + 1, 0, none⟩ (.int .i64 (putS f ws 0))).setCell ⟨w.heap.size + 1, 1, none⟩ (.int .i64 (putS f ws 1))).setCell ⟨w.heap.size + 1, 2, none⟩ (.int .i64 (putS f ws 2))) (w.heap.size + 2) u7 rows) :=
                hHO.out.same (fun g hg => by
                  have := (hHO.out.lt g hg).1
                  exact three_other (by omega))
              go_wp2_with (at_builtin; refine wpList_append_lies _ rfl (.tmp 122) (.tmp 124) 27 rfl (w.heap.size + 2) 33 ic _ 12 160 Try.underlying27 hic cz0 cz1 cz2 rfl (Nat.succ_pos _) u7 rows.length (rowCells rows) rfl (HO3.out.out.alloc _) ⟨wr.heap.size, 0, none⟩ 1 1 (attCells ⟨t1, rows.length + 1, real, t2, t2 + t4, 6, 0, 0, rs, ws, ss⟩ (.slice Ar rs.length cr) (.slice Aw ws.length cw) (.slice As ss.length cs)) rfl rfl (World.news_of_block (t := 33) (fr := (0, 0)) (three_new _ _ _ _ _ _ _ _ rfl)) (by simp [Value.oneCell', attCells]) (Nat.succ_pos _) (by unfold maxLen; omega) (by omega) (by simp; omega) (wr.heap.size + 1) (by simp) ?_; intro g1 c3 w9 hown hgrow hat hg1)
              have HO9 : Hid (Outs w9 (w.heap.size + 2) (.slice (some ⟨g1, 0, none⟩) (rows.length + 1) c3) (rows ++ [⟨⟨t1, rows.length + 1, real, t2, t2 + t4, 6, 0, 0, rs, ws, ss⟩, .slice Ar rs.length cr, .slice Aw ws.length cw, .slice As ss.length cs⟩])) :=
                HO3.out.add (B := b12 + 1) (g := g1) (Bal (Bre _) _) (by omega) hlB.out (Row.own_same hrow.out (fun g hg => heap_alloc_old _ _ (Row.own_lt hrow.out g hg).2)) HM.out.nd hown hgrow rfl (hat.imp id (fun e => by rw [e]; simp))
              have hne9 : some (w.heap.size + 1) ≠ u7.ownBlock := fun e => by
                have := (hHO.out.lt _ (List.mem_append_left _ (mem_ob.2 e.symm))).1
                omega
              have hw9 : w9.rowIs (w.heap.size + 1) 22 3 (fun j => .int .i64 (putS f ws j)) :=
                (((((HW8.out.set 0 (.int .i64 (putS f ws 0))).set 1 (.int .i64 (putS f ws 1))).set 2 (.int .i64 (putS f ws 2))).congr (g := fun j => .int .i64 (putS f ws j)) (fun i hi => by
                  rcases (by omega : i = 0 ∨ i = 1 ∨ i = 2) with rfl | rfl | rfl <;> rfl)).alloc _).of_block (hgrow.block _ (by simp; omega) hne9)
              have hf9 : Hid (∀ j : Nat, j < 3 → putS f ws j = wordsI (startS [s0, s1, s2]) ((rows ++ [(⟨⟨t1, rows.length + 1, real, t2, t2 + t4, 6, 0, 0, rs, ws, ss⟩, .slice Ar rs.length cr, .slice Aw ws.length cw, .slice As ss.length cs⟩ : Row)]).map Row.p) j) := by
                show ∀ j : Nat, _
                intro j hj
                rw [List.map_append, List.map_cons, List.map_nil, wordsI_snoc]
                simp only [appS, if_true]
                exact putS_congr (hf.out j hj) ws
              have hb9 : Below w.heap.size w w9 := (Bal (Bset (Bset (Bset hb0 (Nat.le_succ _) _) (Nat.le_succ _) _) (Nat.le_succ _) _) _).grown hgrow (Bal (Bset (Bset (Bset hb0 (Nat.le_succ _) _) (Nat.le_succ _) _) (Nat.le_succ _) _) _).size (fun g e => by
                have := (hHO.out.lt g (List.mem_append_left _ (mem_ob.2 e))).1
                omega)
              have hs9 : w.heap.size + 2 ≤ w9.heap.size := by
                have := hgrow.size
                simp only [World.size_alloc, World.size_setCell] at this
                omega
              exact ⟨⟨rows.length + 1, rows ++ [⟨⟨t1, rows.length + 1, real, t2, t2 + t4, 6, 0, 0, rs, ws, ss⟩, .slice Ar rs.length cr, .slice Aw ws.length cw, .slice As ss.length cs⟩], putS f ws, by omega, by go_num, HO9, by show _ = _; simp, hw9, hf9, hb9, hs9, HG'⟩, by (simp [intOf]) <;> omega⟩
            · have hne : (en' == 6) = false := by simpa using he
              clear he
              have hrow : Hid (Row.own wr (b12 + 1) ⟨⟨t1, rows.length + 1, real, t2, t2 + t4, en', 0, 0, rs, ws, ss⟩, .slice Ar rs.length cr, .slice Aw ws.length cw, .slice As ss.length cs⟩) := HM.out.o
              have HO3 := hHO
              go_wp2_with (at_builtin; refine wpList_append_lies _ rfl (.tmp 122) (.tmp 124) 27 rfl (w.heap.size + 2) 33 ic _ 12 160 Try.underlying27 hic cz0 cz1 cz2 rfl (Nat.succ_pos _) u7 rows.length (rowCells rows) rfl (HO3.out.out.alloc _) ⟨wr.heap.size, 0, none⟩ 1 1 (attCells ⟨t1, rows.length + 1, real, t2, t2 + t4, en', 0, 0, rs, ws, ss⟩ (.slice Ar rs.length cr) (.slice Aw ws.length cw) (.slice As ss.length cs)) rfl rfl (World.news_of_block (t := 33) (fr := (0, 0)) (heap_alloc_new wr _)) (by simp [Value.oneCell', attCells]) (Nat.succ_pos _) (by unfold maxLen; omega) (by omega) (by simp; omega) (wr.heap.size + 1) (by simp) ?_; intro g1 c3 w9 hown hgrow hat hg1)
              have HO9 : Hid (Outs w9 (w.heap.size + 2) (.slice (some ⟨g1, 0, none⟩) (rows.length + 1) c3) (rows ++ [⟨⟨t1, rows.length + 1, real, t2, t2 + t4, en', 0, 0, rs, ws, ss⟩, .slice Ar rs.length cr, .slice Aw ws.length cw, .slice As ss.length cs⟩])) :=
                HO3.out.add (B := b12 + 1) (g := g1) (Bal (Bre _) _) (by omega) hlB.out (Row.own_same hrow.out (fun g hg => heap_alloc_old _ _ (Row.own_lt hrow.out g hg).2)) HM.out.nd hown hgrow rfl (hat.imp id (fun e => by rw [e]; simp))
              have hne9 : some (w.heap.size + 1) ≠ u7.ownBlock := fun e => by
                have := (hHO.out.lt _ (List.mem_append_left _ (mem_ob.2 e.symm))).1
                omega
              have hw9 : w9.rowIs (w.heap.size + 1) 22 3 (fun j => .int .i64 (f j)) := (HW8.out.alloc _).of_block (hgrow.block _ (by simp; omega) hne9)
              have hf9 : Hid (∀ j : Nat, j < 3 → f j = wordsI (startS [s0, s1, s2]) ((rows ++ [(⟨⟨t1, rows.length + 1, real, t2, t2 + t4, en', 0, 0, rs, ws, ss⟩, .slice Ar rs.length cr, .slice Aw ws.length cw, .slice As ss.length cs⟩ : Row)]).map Row.p) j) := by
                show ∀ j : Nat, _
                intro j hj
                rw [List.map_append, List.map_cons, List.map_nil, wordsI_snoc]
                have hn6 : ¬ en' = 6 := by simpa using hne
                simp only [appS, if_neg hn6]
                exact hf.out j hj
              have hb9 : Below w.heap.size w w9 := (Bal hb0 _).grown hgrow (Bal hb0 _).size (fun g e => by
                have := (hHO.out.lt g (List.mem_append_left _ (mem_ob.2 e))).1
                omega)
              have hs9 : w.heap.size + 2 ≤ w9.heap.size := by
                have := hgrow.size
                simp only [World.size_alloc] at this
                omega
              exact ⟨⟨rows.length + 1, rows ++ [⟨⟨t1, rows.length + 1, real, t2, t2 + t4, en', 0, 0, rs, ws, ss⟩, .slice Ar rs.length cr, .slice Aw ws.length cw, .slice As ss.length cs⟩], f, by omega, by go_num, HO9, by show _ = _; simp, hw9, hf9, hb9, hs9, HG'⟩, by (simp [intOf]) <;> omega⟩
    · obtain rfl : k = n := by omega
      go_wp2_with fail
      go_ret
      exact ⟨_, rows, rfl, HO.out.mono (by omega), hlen.out, hbel, HG.out⟩
end Go.Proofs.Ytnjcebfbfecdeaa
