/-
  The law EvalNext as a walk.
-/
import Derived.Test.YtipkaloldlplgaaRNextF
import Derived.Test.YtipkaloldlplgaaLawSums
import Derived.Test.YtipkaloldlplgaaInstr
import Derived.ChangeKeysEq
import Derived.Deep.Cut
set_option linter.unusedVariables false
namespace Go.Proofs.Ytipkaloldlplgaa
open Go.RowKit
theorem cells2c : Try.prog.cellsOf 2 = 1 := by kernel_rfl
theorem regs_eq (r : Rg) (w : World) : (binOp .eql 38 (.agg #[.int .i64 r.a, .int .i64 r.b, .int .i64 r.c, .int .i64 r.d]) (.agg #[.int .i64 r.a, .int .i64 r.b, .int .i64 r.c, .int .i64 r.d])).run Try.prog w = .ok (.bool true) w := by
  obtain ⟨i0, hi, hz0, hz1, hz2⟩ := info_parts (show (Try.prog.info? 2).map (fun i => (i.zero, i.size, i.bytes)) = some (some (.int .i64 0), 1, 8) by kernel_rfl)
  rw [run_eql_struct, run_equalIn_array w 9999 _ _ Try.underlying38 hi, cells2c]
  simp [go_sem, Op.eqItems, part]
theorem insCells_set (l : List Ins) (i : Nat) (p : Ins) (a b c d e : Int) (h : l[i]? = some p) :
    (((((insCells l).set (i * 5) (.int .i64 a)).set (i * 5 + 1) (.int .i64 b)).set (i * 5 + 2) (.int .i64 c)).set (i * 5 + 3) (.int .i64 d)).set (i * 5 + 4) (.int .i64 e) = insCells (l.set i ⟨a, b, c, d, e⟩) := by
  induction l generalizing i with
  | nil => simp at h
  | cons q l ih =>
    cases i with
    | zero => simp at h; subst h; simp [insCells, Ins.cells]
    | succ i =>
      have := ih i (by simpa using h)
      rw [show (i + 1) * 5 = i * 5 + 4 + 1 by omega]
      simp only [insCells, List.flatMap_cons, Ins.cells, List.cons_append, List.nil_append, List.set_cons_succ] at this ⊢
      rw [this]
theorem own_ins {w : World} {base g n cap : Nat} {l : List Ins} (h : w.ownsRow base 24 5 (.slice (some ⟨g, 0, none⟩) n cap) n (insCells l)) (i : Nat) (p : Ins) (hp : l[i]? = some p) (a b c d e : Int) :
    (((((w.setCell ⟨g, i * 5, none⟩ (.int .i64 a)).setCell ⟨g, i * 5 + 1, none⟩ (.int .i64 b)).setCell ⟨g, i * 5 + 2, none⟩ (.int .i64 c)).setCell ⟨g, i * 5 + 3, none⟩ (.int .i64 d)).setCell ⟨g, i * 5 + 4, none⟩ (.int .i64 e)).ownsRow base 24 5 (.slice (some ⟨g, 0, none⟩) n cap) n (insCells (l.set i ⟨a, b, c, d, e⟩)) := by
  rw [← insCells_set l i p a b c d e hp]
  exact (((((h.stored _ _).1.stored _ _).1.stored _ _).1.stored _ _).1.stored _ _).1
theorem B5 {B : Nat} {a w : World} (h : Below B a w) {g : Nat} (hg : B ≤ g) (o1 o2 o3 o4 o5 : Nat) (v1 v2 v3 v4 v5 : Value) :
    Below B a (((((w.setCell ⟨g, o1, none⟩ v1).setCell ⟨g, o2, none⟩ v2).setCell ⟨g, o3, none⟩ v3).setCell ⟨g, o4, none⟩ v4).setCell ⟨g, o5, none⟩ v5) :=
  ((((h.setCell hg _).setCell hg _).setCell hg _).setCell hg _).setCell hg _
theorem eqg38 : Try.prog.eqGuardType Try.prog.depth 38 = false := by kernel_rfl
theorem map_getD (zs : List Int) (i : Nat) (h : i < zs.length) : (zs.map (Value.int .i64))[i]? = some (.int .i64 (zs.getD i 0)) := by simp [List.getD, h]
theorem news1' (w : World) (x : Value) (t : TypeId) : ∀ j u, [x][j]? = some u → (w.alloc (.cells #[x] t)).cell? ((⟨w.heap.size, 0, none⟩ : Addr).add j) = some u := by
  intro j u hu
  match j, hu with
  | 0, hu => simp at hu; subst hu; simp [Addr.add]
theorem own_new (w : World) (g : Nat) (hg : g = w.heap.size) (cs : Array Value) (l : List Ins) (hcs : cs.toList = insCells l) (h : l.length ≤ maxLen) : (w.alloc (.cells cs 24)).ownsRow g 24 5 (.slice (some ⟨g, 0, none⟩) l.length l.length) l.length (insCells l) := by
  subst hg
  have hs : cs.size = l.length * 5 := by rw [← Array.length_toList, hcs, insCells_len]
  have := World.ownsRow_lit (base := w.heap.size) (e := 24) w cs l.length (Nat.le_refl _) h hs
  rwa [hcs] at this
theorem made6 : madeCells #[.int .i64 0, .int .i64 0, .int .i64 0, .int .i64 0, .int .i64 0] 30 = (insCells (List.replicate 6 ⟨0, 0, 0, 0, 0⟩)).toArray := by kernel_rfl
theorem make6 (w : World) : (Instr.makeSlice 32 (.int .i64 6) (.int .i64 6)).run Try.prog w = .ok (.slice (some ⟨w.heap.size, 0, none⟩) 6 6) (w.alloc (.cells (insCells (List.replicate 6 ⟨0, 0, 0, 0, 0⟩)).toArray 24)) := by
  obtain ⟨i0, hi, hz0, hz1, hz2⟩ := info_parts info24
  have := run_make (P := Try.prog) w 32 24 i0 _ Try.underlying32 hi hz0 .i64 .i64 6 6 (by omega) (by omega) (by rw [hz2]; omega) (by omega)
  rw [hz1] at this
  rw [← made6]
  exact this
set_option maxRecDepth 100000 in
set_option maxHeartbeats 6400000 in
theorem law_next_ltz0y0 (k0 k1 k2 k3 n at' mate : Int) (raw : Bool) (r : Rg) (w : World) (q : Nat) (dq : wrap64 ((IntKind.u64.wrap at').tmod 8) = (q : Int)) (hq : q < 5) (dz : (IntKind.u64.wrap at').tmod 9 = 0) (dy : (IntKind.u64.wrap mate).tmod 4 = 0) :
    Calls Try.prog 8 #[.agg #[.int .i64 k0, .int .i64 k1, .int .i64 k2, .int .i64 k3], .int .i64 n, .bool raw, .int .i64 at', .int .i64 mate, .agg #[.int .i64 r.a, .int .i64 r.b, .int .i64 r.c, .int .i64 r.d]] w fun e w' => e = .returned (.bool true) ∧ Below w.heap.size w w' := by
  obtain ⟨i0, hi, hz00, hz1, hz2⟩ := info_parts info3
  have R0 : RegAt ((w.alloc (.cells #[.int .i64 k0, .int .i64 k1, .int .i64 k2, .int .i64 k3] 22)).alloc (.cells #[.int .i64 r.a, .int .i64 r.b, .int .i64 r.c, .int .i64 r.d] 38)) w.heap.size ⟨k0, k1, k2, k3⟩ := regBox w ⟨k0, k1, k2, k3⟩ 22 _
  have R1 : RegAt ((w.alloc (.cells #[.int .i64 k0, .int .i64 k1, .int .i64 k2, .int .i64 k3] 22)).alloc (.cells #[.int .i64 r.a, .int .i64 r.b, .int .i64 r.c, .int .i64 r.d] 38)) (w.heap.size + 1) r := regNew' _ _ (by simp) r 38
  have HR0 := Lib.hid R0
  have HR1 := Lib.hid R1
  clear R0 R1
  have hmk6 := fun w => make6 w
  go_enter Try.func8, Try.ntmps8
  go_wp2_with fail
  clear hmk6
  go_loopw [14] (fun i wr => ∃ (k : Nat) (l : List Ins), k ≤ 6 ∧ i = .int .i64 k ∧ Hid (l.length = 6) ∧ wr.ownsRow (w.heap.size + 1 + 1) 24 5 (.slice (some ⟨w.heap.size + 1 + 1, 0, none⟩) 6 6) 6 (insCells l) ∧ Below (w.heap.size + 1 + 1) ((w.alloc (.cells #[.int .i64 k0, .int .i64 k1, .int .i64 k2, .int .i64 k3] 22)).alloc (.cells #[.int .i64 r.a, .int .i64 r.b, .int .i64 r.c, .int .i64 r.d] 38)) wr) (fun i _ => 6 - (intOf i).toNat)
  case atStart =>
    refine ⟨0, List.replicate 6 ⟨0, 0, 0, 0, 0⟩, by omega, rfl, rfl, ?_, (Below.refl _ _).alloc (by simp) _⟩
    exact own_new _ _ (by simp) _ _ rfl (by unfold maxLen; simp)
  case round =>
    obtain ⟨k, l, hk, rfl, hl, hown, hbel⟩ := hrel
    have HP := Lib.hid hown
    clear hown
    by_cases hlt : k < 6
    · obtain ⟨p, hp⟩ : ∃ p, l[k]? = some p := ⟨_, List.getElem?_eq_getElem (by rw [hl.out]; exact hlt)⟩
      have c0 : wr.cell? ⟨w.heap.size + 1 + 1, k * 5, none⟩ = some (.int .i64 p.op) := by rw [HP.out.cellAt (k * 5) (by omega)]; exact insCells_get _ k _ hp 0 (by omega)
      have cf0 : wr.frozen? ⟨w.heap.size + 1 + 1, k * 5, none⟩ = false := HP.out.frozenAt _
      have c1 : wr.cell? ⟨w.heap.size + 1 + 1, k * 5 + 1, none⟩ = some (.int .i64 p.a) := by rw [HP.out.cellAt (k * 5 + 1) (by omega)]; exact insCells_get _ k _ hp 1 (by omega)
      have cf1 : wr.frozen? ⟨w.heap.size + 1 + 1, k * 5 + 1, none⟩ = false := HP.out.frozenAt _
      have c2 : wr.cell? ⟨w.heap.size + 1 + 1, k * 5 + 2, none⟩ = some (.int .i64 p.b) := by rw [HP.out.cellAt (k * 5 + 2) (by omega)]; exact insCells_get _ k _ hp 2 (by omega)
      have cf2 : wr.frozen? ⟨w.heap.size + 1 + 1, k * 5 + 2, none⟩ = false := HP.out.frozenAt _
      have c3 : wr.cell? ⟨w.heap.size + 1 + 1, k * 5 + 3, none⟩ = some (.int .i64 p.c) := by rw [HP.out.cellAt (k * 5 + 3) (by omega)]; exact insCells_get _ k _ hp 3 (by omega)
      have cf3 : wr.frozen? ⟨w.heap.size + 1 + 1, k * 5 + 3, none⟩ = false := HP.out.frozenAt _
      have c4 : wr.cell? ⟨w.heap.size + 1 + 1, k * 5 + 4, none⟩ = some (.int .i64 p.n) := by rw [HP.out.cellAt (k * 5 + 4) (by omega)]; exact insCells_get _ k _ hp 4 (by omega)
      have cf4 : wr.frozen? ⟨w.heap.size + 1 + 1, k * 5 + 4, none⟩ = false := HP.out.frozenAt _
      have HN := Lib.hid (own_ins HP.out k p hp 20 0 0 0 0)
      clear hp
      go_wp2_with fail
      exact ⟨⟨k + 1, l.set k ⟨20, 0, 0, 0, 0⟩, by omega, by go_num, by show _ = _; rw [List.length_set]; exact hl.out, HN.out, B5 hbel (Nat.le_refl _) _ _ _ _ _ _ _ _ _ _⟩, by (simp [intOf]) <;> omega⟩
    · have hbz := hbel.size
      simp only [World.size_alloc] at hbz
      have hb0 : Below w.heap.size w wr := (Bal (Bal (Bre w) _) _).trans (hbel.mono (by omega))
      have thR : ∀ g r', g < w.heap.size + 1 + 1 → RegAt ((w.alloc (.cells #[.int .i64 k0, .int .i64 k1, .int .i64 k2, .int .i64 k3] 22)).alloc (.cells #[.int .i64 r.a, .int .i64 r.b, .int .i64 r.c, .int .i64 r.d] 38)) g r' → RegAt wr g r' := fun g r' hg h => ⟨by omega, fun j hj => ⟨(hbel.cell (p := ⟨g, j, none⟩) hg).trans (h.2 j hj).1, (hbel.frozen (p := ⟨g, j, none⟩) hg).trans (h.2 j hj).2⟩⟩
      have K0 := Lib.hid (thR _ _ (by omega) HR0.out)
      have K1 := Lib.hid (thR _ _ (by omega) HR1.out)
      clear thR HR0 HR1 hbel hk
      have hkb : RegAt wr w.heap.size ⟨k0, k1, k2, k3⟩ := K0.out
      have hzk : w.heap.size < wr.heap.size := hkb.1
      have b0 : wr.cell? ⟨w.heap.size, 0, none⟩ = some (.int .i64 k0) := (hkb.2 0 (by omega)).1
      have b1 : wr.cell? ⟨w.heap.size, 1, none⟩ = some (.int .i64 k1) := (hkb.2 1 (by omega)).1
      have b2 : wr.cell? ⟨w.heap.size, 2, none⟩ = some (.int .i64 k2) := (hkb.2 2 (by omega)).1
      have b3 : wr.cell? ⟨w.heap.size, 3, none⟩ = some (.int .i64 k3) := (hkb.2 3 (by omega)).1
      clear hkb
      go_wp2_with fail
      refine (instr_any _ _ _ _ _ _ _).mono ?_
      rintro e w1 ⟨⟨jo, ja, jb, jc, jn⟩, rfl, hb1⟩
      obtain ⟨p, hp⟩ : ∃ p, l[q]? = some p := ⟨_, List.getElem?_eq_getElem (by rw [hl.out]; omega)⟩
      have HP1 := Lib.hid (own_th HP.out hb1)
      have d0 : w1.cell? ⟨w.heap.size + 1 + 1, q * 5, none⟩ = some (.int .i64 p.op) := by rw [HP1.out.cellAt (q * 5) (by omega)]; exact insCells_get _ q _ hp 0 (by omega)
      have df0 : w1.frozen? ⟨w.heap.size + 1 + 1, q * 5, none⟩ = false := HP1.out.frozenAt _
      have d1 : w1.cell? ⟨w.heap.size + 1 + 1, q * 5 + 1, none⟩ = some (.int .i64 p.a) := by rw [HP1.out.cellAt (q * 5 + 1) (by omega)]; exact insCells_get _ q _ hp 1 (by omega)
      have df1 : w1.frozen? ⟨w.heap.size + 1 + 1, q * 5 + 1, none⟩ = false := HP1.out.frozenAt _
      have d2 : w1.cell? ⟨w.heap.size + 1 + 1, q * 5 + 2, none⟩ = some (.int .i64 p.b) := by rw [HP1.out.cellAt (q * 5 + 2) (by omega)]; exact insCells_get _ q _ hp 2 (by omega)
      have df2 : w1.frozen? ⟨w.heap.size + 1 + 1, q * 5 + 2, none⟩ = false := HP1.out.frozenAt _
      have d3 : w1.cell? ⟨w.heap.size + 1 + 1, q * 5 + 3, none⟩ = some (.int .i64 p.c) := by rw [HP1.out.cellAt (q * 5 + 3) (by omega)]; exact insCells_get _ q _ hp 3 (by omega)
      have df3 : w1.frozen? ⟨w.heap.size + 1 + 1, q * 5 + 3, none⟩ = false := HP1.out.frozenAt _
      have d4 : w1.cell? ⟨w.heap.size + 1 + 1, q * 5 + 4, none⟩ = some (.int .i64 p.n) := by rw [HP1.out.cellAt (q * 5 + 4) (by omega)]; exact insCells_get _ q _ hp 4 (by omega)
      have df4 : w1.frozen? ⟨w.heap.size + 1 + 1, q * 5 + 4, none⟩ = false := HP1.out.frozenAt _
      have HN := Lib.hid (own_ins HP1.out q p hp jo ja jb jc jn)
      have hln : Hid ((l.set q ⟨jo, ja, jb, jc, jn⟩).length = 6) := by show _ = _; rw [List.length_set]; exact hl.out
      have hbA : Below w.heap.size w (((((w1.setCell ⟨w.heap.size + 1 + 1, q * 5, none⟩ (.int .i64 jo)).setCell ⟨w.heap.size + 1 + 1, q * 5 + 1, none⟩ (.int .i64 ja)).setCell ⟨w.heap.size + 1 + 1, q * 5 + 2, none⟩ (.int .i64 jb)).setCell ⟨w.heap.size + 1 + 1, q * 5 + 3, none⟩ (.int .i64 jc)).setCell ⟨w.heap.size + 1 + 1, q * 5 + 4, none⟩ (.int .i64 jn)) := B5 (Bth hb0 hb1) (by omega) _ _ _ _ _ _ _ _ _ _
      have K0' : Hid (RegAt (((((w1.setCell ⟨w.heap.size + 1 + 1, q * 5, none⟩ (.int .i64 jo)).setCell ⟨w.heap.size + 1 + 1, q * 5 + 1, none⟩ (.int .i64 ja)).setCell ⟨w.heap.size + 1 + 1, q * 5 + 2, none⟩ (.int .i64 jb)).setCell ⟨w.heap.size + 1 + 1, q * 5 + 3, none⟩ (.int .i64 jc)).setCell ⟨w.heap.size + 1 + 1, q * 5 + 4, none⟩ (.int .i64 jn)) w.heap.size ⟨k0, k1, k2, k3⟩) := (((((K0.out.th hb1).other _ _ (by omega) _).other _ _ (by omega) _).other _ _ (by omega) _).other _ _ (by omega) _).other _ _ (by omega) _
      have K1' : Hid (RegAt (((((w1.setCell ⟨w.heap.size + 1 + 1, q * 5, none⟩ (.int .i64 jo)).setCell ⟨w.heap.size + 1 + 1, q * 5 + 1, none⟩ (.int .i64 ja)).setCell ⟨w.heap.size + 1 + 1, q * 5 + 2, none⟩ (.int .i64 jb)).setCell ⟨w.heap.size + 1 + 1, q * 5 + 3, none⟩ (.int .i64 jc)).setCell ⟨w.heap.size + 1 + 1, q * 5 + 4, none⟩ (.int .i64 jn)) (w.heap.size + 1) r) := (((((K1.out.th hb1).other _ _ (by omega) _).other _ _ (by omega) _).other _ _ (by omega) _).other _ _ (by omega) _).other _ _ (by omega) _
      dsimp only
      clear hp b0 b1 b2 b3 K0 K1 hb0
      go_upto_region 9 with fail
      have HI : Hid (InsAt (((((w1.setCell ⟨w.heap.size + 1 + 1, q * 5, none⟩ (.int .i64 jo)).setCell ⟨w.heap.size + 1 + 1, q * 5 + 1, none⟩ (.int .i64 ja)).setCell ⟨w.heap.size + 1 + 1, q * 5 + 2, none⟩ (.int .i64 jb)).setCell ⟨w.heap.size + 1 + 1, q * 5 + 3, none⟩ (.int .i64 jc)).setCell ⟨w.heap.size + 1 + 1, q * 5 + 4, none⟩ (.int .i64 jn)) (.slice (some ⟨w.heap.size + 1 + 1, 0, none⟩) 6 6) (l.set q ⟨jo, ja, jb, jc, jn⟩)) := by
        have := HN.out
        rw [← hln.out] at this
        have := InsAt.own this
        rw [hln.out] at this
        exact this
      clear d0 d1 d2 d3 d4 df0 df1 df2 df3 df4 HN HP HP1
      generalize (((((w1.setCell ⟨w.heap.size + 1 + 1, q * 5, none⟩ (.int .i64 jo)).setCell ⟨w.heap.size + 1 + 1, q * 5 + 1, none⟩ (.int .i64 ja)).setCell ⟨w.heap.size + 1 + 1, q * 5 + 2, none⟩ (.int .i64 jb)).setCell ⟨w.heap.size + 1 + 1, q * 5 + 3, none⟩ (.int .i64 jc)).setCell ⟨w.heap.size + 1 + 1, q * 5 + 4, none⟩ (.int .i64 jn)) = W2 at HI K0' K1' hbA ⊢
      generalize l.set q ⟨jo, ja, jb, jc, jn⟩ = l2 at HI hln
      go_upto_region 10 with fail
      have hm3 : (W2.alloc (.cells #[.int .i64 (-1), .int .i64 (-1), .int .i64 (-1), .int .i64 (-1), .int .i64 (-1)] 3)).ownsRow W2.heap.size 3 1 (.slice (some ⟨W2.heap.size, 0, none⟩) 5 5) 5 ([(-1 : Int), -1, -1, -1, -1].map (Value.int .i64)) := World.ownsRow_lit (base := W2.heap.size) (e := 3) W2 #[.int .i64 (-1), .int .i64 (-1), .int .i64 (-1), .int .i64 (-1), .int .i64 (-1)] 5 (Nat.le_refl _) (by unfold maxLen; omega) rfl
      have hb3 : Below W2.heap.size W2 (W2.alloc (.cells #[.int .i64 (-1), .int .i64 (-1), .int .i64 (-1), .int .i64 (-1), .int .i64 (-1)] 3)) := Bal (Bre _) _
      generalize W2.alloc (.cells #[.int .i64 (-1), .int .i64 (-1), .int .i64 (-1), .int .i64 (-1), .int .i64 (-1)] 3) = W3 at hm3 hb3 ⊢
      have HM3 := Lib.hid hm3
      have hs3 := hb3.size
      clear hm3
      obtain ⟨zs, hzs⟩ : ∃ zs : List Int, zs = [(-1 : Int), -1, -1, -1, -1] := ⟨_, rfl⟩
      have hzl : Hid (zs.length = 5) := by rw [hzs]; rfl
      have HM : Hid (W3.ownsRow W2.heap.size 3 1 (.slice (some ⟨W2.heap.size, 0, none⟩) 5 5) 5 (zs.map (Value.int .i64))) := by rw [hzs]; exact HM3.out
      clear hzs HM3
      have m0 : W3.cell? ⟨W2.heap.size, q, none⟩ = some (.int .i64 (zs.getD q 0)) := by rw [HM.out.cellAt q (by omega)]; exact map_getD zs q (by rw [hzl.out]; omega)
      have m1 := HM.out.frozenAt q
      generalize zs.getD q 0 = zq at m0
      go_upto_region 18 with fail
      have HM5 : Hid ((W3.setCell ⟨W2.heap.size, q, none⟩ (.int .i64 mate)).ownsRow W2.heap.size 3 1 (.slice (some ⟨W2.heap.size, 0, none⟩) 5 5) 5 ((zs.set q mate).map (Value.int .i64))) := by show World.ownsRow _ _ _ _ _ _ _; rw [List.map_set]; exact (HM.out.stored q _).1
      have hb5 : Below W2.heap.size W2 (W3.setCell ⟨W2.heap.size, q, none⟩ (.int .i64 mate)) := Bset hb3 (show W2.heap.size ≤ W2.heap.size from (HM.out.lt _ rfl).1) _
      generalize W3.setCell ⟨W2.heap.size, q, none⟩ (.int .i64 mate) = W5 at HM5 hb5 ⊢
      have hz5 : Hid ((zs.set q mate).length = 5) := by show _ = _; rw [List.length_set]; exact hzl.out
      generalize zs.set q mate = zl at HM5 hz5
      have hr5 : RegAt W5 (w.heap.size + 1) r := K1'.out.th hb5
      have HK0 : Hid (RegAt W5 w.heap.size ⟨k0, k1, k2, k3⟩) := K0'.out.th hb5
      have HK1 := Lib.hid hr5
      have HI5 : Hid (InsAt W5 (.slice (some ⟨w.heap.size + 1 + 1, 0, none⟩) 6 6) l2) := HI.out.th hb5
      have HJ5 : Hid (IntsAt W5 (.slice (some ⟨W2.heap.size, 0, none⟩) 5 5) zl) := by
        have := HM5.out
        rw [← hz5.out] at this
        have := IntsAt.own this
        rw [hz5.out] at this
        exact this
      have hw5 : Below w.heap.size w W5 := hbA.trans (hb5.mono hbA.size)
      have hgz : w.heap.size + 1 < W5.heap.size := hr5.1
      have HLN : Hid (l2.length = 6) := hln
      have c0 : W5.cell? ⟨w.heap.size + 1, 0, none⟩ = some (.int .i64 r.a) := (hr5.2 0 (by omega)).1
      have c1 : W5.cell? ⟨w.heap.size + 1, 1, none⟩ = some (.int .i64 r.b) := (hr5.2 1 (by omega)).1
      have c2 : W5.cell? ⟨w.heap.size + 1, 2, none⟩ = some (.int .i64 r.c) := (hr5.2 2 (by omega)).1
      have c3 : W5.cell? ⟨w.heap.size + 1, 3, none⟩ = some (.int .i64 r.d) := (hr5.2 3 (by omega)).1
      clear hr5 hln
      go_wp2_with fail
      refine (next_any l2 _ _ zl _ r _ (by rw [HLN.out]; omega) HI5.out HJ5.out).mono ?_
      rintro e w6 ⟨rfl, hb6⟩
      generalize hX : nextF l2 zl (q : Int) r = X
      have HX := Lib.hid hX
      clear hX
      obtain ⟨xa, ⟨ya, yb, yc, yd⟩, xo⟩ := X
      unfold outV
      dsimp only
      have hr6 : RegAt w6 (w.heap.size + 1) r := HK1.out.th hb6
      have hgz6 : w.heap.size + 1 < w6.heap.size := hr6.1
      clear c0 c1 c2 c3
      have c0 : w6.cell? ⟨w.heap.size + 1, 0, none⟩ = some (.int .i64 r.a) := (hr6.2 0 (by omega)).1
      have c1 : w6.cell? ⟨w.heap.size + 1, 1, none⟩ = some (.int .i64 r.b) := (hr6.2 1 (by omega)).1
      have c2 : w6.cell? ⟨w.heap.size + 1, 2, none⟩ = some (.int .i64 r.c) := (hr6.2 2 (by omega)).1
      have c3 : w6.cell? ⟨w.heap.size + 1, 3, none⟩ = some (.int .i64 r.d) := (hr6.2 3 (by omega)).1
      clear hr6
      go_wp2_with fail
      refine (rnext_any l2 _ _ zl _ r _ (by rw [HLN.out]; omega) ((HI5.out.th hb6).th (Bal (Bre _) _)) ((HJ5.out.th hb6).th (Bal (Bre _) _))).mono ?_
      rintro e w7 ⟨rfl, hb7⟩
      rw [HX.out]
      unfold outV
      dsimp only
      have hb67 : Below w6.heap.size w6 w7 := Bth (Bal (Bre _) _) hb7
      have R18 : Hid (RegAt w7 w6.heap.size ⟨ya, yb, yc, yd⟩) := (regNew w6 ⟨ya, yb, yc, yd⟩ 38).th hb7
      have hk7 : RegAt w7 w.heap.size ⟨k0, k1, k2, k3⟩ := (HK0.out.th hb6).th hb67
      have hgz7 : w.heap.size < w7.heap.size := hk7.1
      clear c0 c1 c2 c3
      have c0 : w7.cell? ⟨w.heap.size, 0, none⟩ = some (.int .i64 k0) := (hk7.2 0 (by omega)).1
      have c1 : w7.cell? ⟨w.heap.size, 1, none⟩ = some (.int .i64 k1) := (hk7.2 1 (by omega)).1
      have c2 : w7.cell? ⟨w.heap.size, 2, none⟩ = some (.int .i64 k2) := (hk7.2 2 (by omega)).1
      have c3 : w7.cell? ⟨w.heap.size, 3, none⟩ = some (.int .i64 k3) := (hk7.2 3 (by omega)).1
      clear hk7
      go_wp2_with fail
      refine (instr_any _ _ _ _ _ _ _).mono ?_
      rintro e w8 ⟨⟨jo2, ja2, jb2, jc2, jn2⟩, rfl, hb8⟩
      dsimp only
      have hb78 : Below w7.heap.size w7 w8 := Bth (Bal (Bre _) _) hb8
      have p18 : RegAt w8 w6.heap.size ⟨ya, yb, yc, yd⟩ := R18.out.th hb78
      have p21 : RegAt w8 w7.heap.size ⟨ya, yb, yc, yd⟩ := (regNew w7 ⟨ya, yb, yc, yd⟩ 38).th hb8
      have pr : RegAt w8 (w.heap.size + 1) r := ((HK1.out.th hb6).th hb67).th hb78
      have z18 : w6.heap.size < w8.heap.size := p18.1
      have z21 : w7.heap.size < w8.heap.size := p21.1
      have zr : w.heap.size + 1 < w8.heap.size := pr.1
      have z18' : w6.heap.size < w8.heap.size + 1 := by omega
      have z21' : w7.heap.size < w8.heap.size + 1 := by omega
      have zr' : w.heap.size + 1 < w8.heap.size + 1 := by omega
      clear c0 c1 c2 c3
      have p0 : w8.cell? ⟨w6.heap.size, 0, none⟩ = some (.int .i64 ya) := (p18.2 0 (by omega)).1
      have p1 : w8.cell? ⟨w6.heap.size, 1, none⟩ = some (.int .i64 yb) := (p18.2 1 (by omega)).1
      have p2 : w8.cell? ⟨w6.heap.size, 2, none⟩ = some (.int .i64 yc) := (p18.2 2 (by omega)).1
      have p3 : w8.cell? ⟨w6.heap.size, 3, none⟩ = some (.int .i64 yd) := (p18.2 3 (by omega)).1
      have q0 : w8.cell? ⟨w7.heap.size, 0, none⟩ = some (.int .i64 ya) := (p21.2 0 (by omega)).1
      have q1 : w8.cell? ⟨w7.heap.size, 1, none⟩ = some (.int .i64 yb) := (p21.2 1 (by omega)).1
      have q2 : w8.cell? ⟨w7.heap.size, 2, none⟩ = some (.int .i64 yc) := (p21.2 2 (by omega)).1
      have q3 : w8.cell? ⟨w7.heap.size, 3, none⟩ = some (.int .i64 yd) := (p21.2 3 (by omega)).1
      have s0 : w8.cell? ⟨w.heap.size + 1, 0, none⟩ = some (.int .i64 r.a) := (pr.2 0 (by omega)).1
      have s1 : w8.cell? ⟨w.heap.size + 1, 1, none⟩ = some (.int .i64 r.b) := (pr.2 1 (by omega)).1
      have s2 : w8.cell? ⟨w.heap.size + 1, 2, none⟩ = some (.int .i64 r.c) := (pr.2 2 (by omega)).1
      have s3 : w8.cell? ⟨w.heap.size + 1, 3, none⟩ = some (.int .i64 r.d) := (pr.2 3 (by omega)).1
      have hreq := fun w => regs_eq ⟨ya, yb, yc, yd⟩ w
      have heqg := eqg38
      dsimp only at hreq
      clear p18 p21 pr
      go_wp2_with fail
      refine wp_region_aft_lit (by kernel_rfl) (by kernel_rfl) ?_
      repeat (go_big_quiet_step (first
        | (go_at_call 10; exact Calls.aft_of _ (told_any _))
        | (go_at_call 20; exact Calls.aft_of _ (addr_any _ _ _ _ _ r _))
        | (go_at_call 21; exact Calls.aft_of _ (raddr_any _ _ _ _ _ r _))))
      refine wpQuiet_nil ?_
      rintro _ ⟨z, rfl⟩
      go_wp2_with fail
      go_ret
      exact ⟨rfl, Bth (Bal (Bth (Bal (Bth (Bal (Bth hw5 hb6) _) hb7) _) hb8) _) z.h⟩
set_option maxRecDepth 100000 in
set_option maxHeartbeats 6400000 in
theorem law_next_ltz0y1 (k0 k1 k2 k3 n at' mate : Int) (raw : Bool) (r : Rg) (w : World) (q : Nat) (dq : wrap64 ((IntKind.u64.wrap at').tmod 8) = (q : Int)) (hq : q < 5) (dz : (IntKind.u64.wrap at').tmod 9 = 0) (y : Int) (dy : (IntKind.u64.wrap mate).tmod 4 = y) (hy0 : 0 < y) :
    Calls Try.prog 8 #[.agg #[.int .i64 k0, .int .i64 k1, .int .i64 k2, .int .i64 k3], .int .i64 n, .bool raw, .int .i64 at', .int .i64 mate, .agg #[.int .i64 r.a, .int .i64 r.b, .int .i64 r.c, .int .i64 r.d]] w fun e w' => e = .returned (.bool true) ∧ Below w.heap.size w w' := by
  obtain ⟨i0, hi, hz00, hz1, hz2⟩ := info_parts info3
  have R0 : RegAt ((w.alloc (.cells #[.int .i64 k0, .int .i64 k1, .int .i64 k2, .int .i64 k3] 22)).alloc (.cells #[.int .i64 r.a, .int .i64 r.b, .int .i64 r.c, .int .i64 r.d] 38)) w.heap.size ⟨k0, k1, k2, k3⟩ := regBox w ⟨k0, k1, k2, k3⟩ 22 _
  have R1 : RegAt ((w.alloc (.cells #[.int .i64 k0, .int .i64 k1, .int .i64 k2, .int .i64 k3] 22)).alloc (.cells #[.int .i64 r.a, .int .i64 r.b, .int .i64 r.c, .int .i64 r.d] 38)) (w.heap.size + 1) r := regNew' _ _ (by simp) r 38
  have HR0 := Lib.hid R0
  have HR1 := Lib.hid R1
  clear R0 R1
  have hmk6 := fun w => make6 w
  go_enter Try.func8, Try.ntmps8
  go_wp2_with fail
  clear hmk6
  go_loopw [14] (fun i wr => ∃ (k : Nat) (l : List Ins), k ≤ 6 ∧ i = .int .i64 k ∧ Hid (l.length = 6) ∧ wr.ownsRow (w.heap.size + 1 + 1) 24 5 (.slice (some ⟨w.heap.size + 1 + 1, 0, none⟩) 6 6) 6 (insCells l) ∧ Below (w.heap.size + 1 + 1) ((w.alloc (.cells #[.int .i64 k0, .int .i64 k1, .int .i64 k2, .int .i64 k3] 22)).alloc (.cells #[.int .i64 r.a, .int .i64 r.b, .int .i64 r.c, .int .i64 r.d] 38)) wr) (fun i _ => 6 - (intOf i).toNat)
  case atStart =>
    refine ⟨0, List.replicate 6 ⟨0, 0, 0, 0, 0⟩, by omega, rfl, rfl, ?_, (Below.refl _ _).alloc (by simp) _⟩
    exact own_new _ _ (by simp) _ _ rfl (by unfold maxLen; simp)
  case round =>
    obtain ⟨k, l, hk, rfl, hl, hown, hbel⟩ := hrel
    have HP := Lib.hid hown
    clear hown
    by_cases hlt : k < 6
    · obtain ⟨p, hp⟩ : ∃ p, l[k]? = some p := ⟨_, List.getElem?_eq_getElem (by rw [hl.out]; exact hlt)⟩
      have c0 : wr.cell? ⟨w.heap.size + 1 + 1, k * 5, none⟩ = some (.int .i64 p.op) := by rw [HP.out.cellAt (k * 5) (by omega)]; exact insCells_get _ k _ hp 0 (by omega)
      have cf0 : wr.frozen? ⟨w.heap.size + 1 + 1, k * 5, none⟩ = false := HP.out.frozenAt _
      have c1 : wr.cell? ⟨w.heap.size + 1 + 1, k * 5 + 1, none⟩ = some (.int .i64 p.a) := by rw [HP.out.cellAt (k * 5 + 1) (by omega)]; exact insCells_get _ k _ hp 1 (by omega)
      have cf1 : wr.frozen? ⟨w.heap.size + 1 + 1, k * 5 + 1, none⟩ = false := HP.out.frozenAt _
      have c2 : wr.cell? ⟨w.heap.size + 1 + 1, k * 5 + 2, none⟩ = some (.int .i64 p.b) := by rw [HP.out.cellAt (k * 5 + 2) (by omega)]; exact insCells_get _ k _ hp 2 (by omega)
      have cf2 : wr.frozen? ⟨w.heap.size + 1 + 1, k * 5 + 2, none⟩ = false := HP.out.frozenAt _
      have c3 : wr.cell? ⟨w.heap.size + 1 + 1, k * 5 + 3, none⟩ = some (.int .i64 p.c) := by rw [HP.out.cellAt (k * 5 + 3) (by omega)]; exact insCells_get _ k _ hp 3 (by omega)
      have cf3 : wr.frozen? ⟨w.heap.size + 1 + 1, k * 5 + 3, none⟩ = false := HP.out.frozenAt _
      have c4 : wr.cell? ⟨w.heap.size + 1 + 1, k * 5 + 4, none⟩ = some (.int .i64 p.n) := by rw [HP.out.cellAt (k * 5 + 4) (by omega)]; exact insCells_get _ k _ hp 4 (by omega)
      have cf4 : wr.frozen? ⟨w.heap.size + 1 + 1, k * 5 + 4, none⟩ = false := HP.out.frozenAt _
      have HN := Lib.hid (own_ins HP.out k p hp 20 0 0 0 0)
      clear hp
      go_wp2_with fail
      exact ⟨⟨k + 1, l.set k ⟨20, 0, 0, 0, 0⟩, by omega, by go_num, by show _ = _; rw [List.length_set]; exact hl.out, HN.out, B5 hbel (Nat.le_refl _) _ _ _ _ _ _ _ _ _ _⟩, by (simp [intOf]) <;> omega⟩
    · have hbz := hbel.size
      simp only [World.size_alloc] at hbz
      have hb0 : Below w.heap.size w wr := (Bal (Bal (Bre w) _) _).trans (hbel.mono (by omega))
      have thR : ∀ g r', g < w.heap.size + 1 + 1 → RegAt ((w.alloc (.cells #[.int .i64 k0, .int .i64 k1, .int .i64 k2, .int .i64 k3] 22)).alloc (.cells #[.int .i64 r.a, .int .i64 r.b, .int .i64 r.c, .int .i64 r.d] 38)) g r' → RegAt wr g r' := fun g r' hg h => ⟨by omega, fun j hj => ⟨(hbel.cell (p := ⟨g, j, none⟩) hg).trans (h.2 j hj).1, (hbel.frozen (p := ⟨g, j, none⟩) hg).trans (h.2 j hj).2⟩⟩
      have K0 := Lib.hid (thR _ _ (by omega) HR0.out)
      have K1 := Lib.hid (thR _ _ (by omega) HR1.out)
      clear thR HR0 HR1 hbel hk
      have hkb : RegAt wr w.heap.size ⟨k0, k1, k2, k3⟩ := K0.out
      have hzk : w.heap.size < wr.heap.size := hkb.1
      have b0 : wr.cell? ⟨w.heap.size, 0, none⟩ = some (.int .i64 k0) := (hkb.2 0 (by omega)).1
      have b1 : wr.cell? ⟨w.heap.size, 1, none⟩ = some (.int .i64 k1) := (hkb.2 1 (by omega)).1
      have b2 : wr.cell? ⟨w.heap.size, 2, none⟩ = some (.int .i64 k2) := (hkb.2 2 (by omega)).1
      have b3 : wr.cell? ⟨w.heap.size, 3, none⟩ = some (.int .i64 k3) := (hkb.2 3 (by omega)).1
      clear hkb
      go_wp2_with fail
      refine (instr_any _ _ _ _ _ _ _).mono ?_
      rintro e w1 ⟨⟨jo, ja, jb, jc, jn⟩, rfl, hb1⟩
      obtain ⟨p, hp⟩ : ∃ p, l[q]? = some p := ⟨_, List.getElem?_eq_getElem (by rw [hl.out]; omega)⟩
      have HP1 := Lib.hid (own_th HP.out hb1)
      have d0 : w1.cell? ⟨w.heap.size + 1 + 1, q * 5, none⟩ = some (.int .i64 p.op) := by rw [HP1.out.cellAt (q * 5) (by omega)]; exact insCells_get _ q _ hp 0 (by omega)
      have df0 : w1.frozen? ⟨w.heap.size + 1 + 1, q * 5, none⟩ = false := HP1.out.frozenAt _
      have d1 : w1.cell? ⟨w.heap.size + 1 + 1, q * 5 + 1, none⟩ = some (.int .i64 p.a) := by rw [HP1.out.cellAt (q * 5 + 1) (by omega)]; exact insCells_get _ q _ hp 1 (by omega)
      have df1 : w1.frozen? ⟨w.heap.size + 1 + 1, q * 5 + 1, none⟩ = false := HP1.out.frozenAt _
      have d2 : w1.cell? ⟨w.heap.size + 1 + 1, q * 5 + 2, none⟩ = some (.int .i64 p.b) := by rw [HP1.out.cellAt (q * 5 + 2) (by omega)]; exact insCells_get _ q _ hp 2 (by omega)
      have df2 : w1.frozen? ⟨w.heap.size + 1 + 1, q * 5 + 2, none⟩ = false := HP1.out.frozenAt _
      have d3 : w1.cell? ⟨w.heap.size + 1 + 1, q * 5 + 3, none⟩ = some (.int .i64 p.c) := by rw [HP1.out.cellAt (q * 5 + 3) (by omega)]; exact insCells_get _ q _ hp 3 (by omega)
      have df3 : w1.frozen? ⟨w.heap.size + 1 + 1, q * 5 + 3, none⟩ = false := HP1.out.frozenAt _
      have d4 : w1.cell? ⟨w.heap.size + 1 + 1, q * 5 + 4, none⟩ = some (.int .i64 p.n) := by rw [HP1.out.cellAt (q * 5 + 4) (by omega)]; exact insCells_get _ q _ hp 4 (by omega)
      have df4 : w1.frozen? ⟨w.heap.size + 1 + 1, q * 5 + 4, none⟩ = false := HP1.out.frozenAt _
      have HN := Lib.hid (own_ins HP1.out q p hp jo ja jb jc jn)
      have hln : Hid ((l.set q ⟨jo, ja, jb, jc, jn⟩).length = 6) := by show _ = _; rw [List.length_set]; exact hl.out
      have hbA : Below w.heap.size w (((((w1.setCell ⟨w.heap.size + 1 + 1, q * 5, none⟩ (.int .i64 jo)).setCell ⟨w.heap.size + 1 + 1, q * 5 + 1, none⟩ (.int .i64 ja)).setCell ⟨w.heap.size + 1 + 1, q * 5 + 2, none⟩ (.int .i64 jb)).setCell ⟨w.heap.size + 1 + 1, q * 5 + 3, none⟩ (.int .i64 jc)).setCell ⟨w.heap.size + 1 + 1, q * 5 + 4, none⟩ (.int .i64 jn)) := B5 (Bth hb0 hb1) (by omega) _ _ _ _ _ _ _ _ _ _
      have K0' : Hid (RegAt (((((w1.setCell ⟨w.heap.size + 1 + 1, q * 5, none⟩ (.int .i64 jo)).setCell ⟨w.heap.size + 1 + 1, q * 5 + 1, none⟩ (.int .i64 ja)).setCell ⟨w.heap.size + 1 + 1, q * 5 + 2, none⟩ (.int .i64 jb)).setCell ⟨w.heap.size + 1 + 1, q * 5 + 3, none⟩ (.int .i64 jc)).setCell ⟨w.heap.size + 1 + 1, q * 5 + 4, none⟩ (.int .i64 jn)) w.heap.size ⟨k0, k1, k2, k3⟩) := (((((K0.out.th hb1).other _ _ (by omega) _).other _ _ (by omega) _).other _ _ (by omega) _).other _ _ (by omega) _).other _ _ (by omega) _
      have K1' : Hid (RegAt (((((w1.setCell ⟨w.heap.size + 1 + 1, q * 5, none⟩ (.int .i64 jo)).setCell ⟨w.heap.size + 1 + 1, q * 5 + 1, none⟩ (.int .i64 ja)).setCell ⟨w.heap.size + 1 + 1, q * 5 + 2, none⟩ (.int .i64 jb)).setCell ⟨w.heap.size + 1 + 1, q * 5 + 3, none⟩ (.int .i64 jc)).setCell ⟨w.heap.size + 1 + 1, q * 5 + 4, none⟩ (.int .i64 jn)) (w.heap.size + 1) r) := (((((K1.out.th hb1).other _ _ (by omega) _).other _ _ (by omega) _).other _ _ (by omega) _).other _ _ (by omega) _).other _ _ (by omega) _
      dsimp only
      clear hp b0 b1 b2 b3 K0 K1 hb0
      go_upto_region 9 with fail
      have HI : Hid (InsAt (((((w1.setCell ⟨w.heap.size + 1 + 1, q * 5, none⟩ (.int .i64 jo)).setCell ⟨w.heap.size + 1 + 1, q * 5 + 1, none⟩ (.int .i64 ja)).setCell ⟨w.heap.size + 1 + 1, q * 5 + 2, none⟩ (.int .i64 jb)).setCell ⟨w.heap.size + 1 + 1, q * 5 + 3, none⟩ (.int .i64 jc)).setCell ⟨w.heap.size + 1 + 1, q * 5 + 4, none⟩ (.int .i64 jn)) (.slice (some ⟨w.heap.size + 1 + 1, 0, none⟩) 6 6) (l.set q ⟨jo, ja, jb, jc, jn⟩)) := by
        have := HN.out
        rw [← hln.out] at this
        have := InsAt.own this
        rw [hln.out] at this
        exact this
      clear d0 d1 d2 d3 d4 df0 df1 df2 df3 df4 HN HP HP1
      generalize (((((w1.setCell ⟨w.heap.size + 1 + 1, q * 5, none⟩ (.int .i64 jo)).setCell ⟨w.heap.size + 1 + 1, q * 5 + 1, none⟩ (.int .i64 ja)).setCell ⟨w.heap.size + 1 + 1, q * 5 + 2, none⟩ (.int .i64 jb)).setCell ⟨w.heap.size + 1 + 1, q * 5 + 3, none⟩ (.int .i64 jc)).setCell ⟨w.heap.size + 1 + 1, q * 5 + 4, none⟩ (.int .i64 jn)) = W2 at HI K0' K1' hbA ⊢
      generalize l.set q ⟨jo, ja, jb, jc, jn⟩ = l2 at HI hln
      go_upto_region 10 with fail
      have hm3 : (W2.alloc (.cells #[.int .i64 (-1), .int .i64 (-1), .int .i64 (-1), .int .i64 (-1), .int .i64 (-1)] 3)).ownsRow W2.heap.size 3 1 (.slice (some ⟨W2.heap.size, 0, none⟩) 5 5) 5 ([(-1 : Int), -1, -1, -1, -1].map (Value.int .i64)) := World.ownsRow_lit (base := W2.heap.size) (e := 3) W2 #[.int .i64 (-1), .int .i64 (-1), .int .i64 (-1), .int .i64 (-1), .int .i64 (-1)] 5 (Nat.le_refl _) (by unfold maxLen; omega) rfl
      have hb3 : Below W2.heap.size W2 (W2.alloc (.cells #[.int .i64 (-1), .int .i64 (-1), .int .i64 (-1), .int .i64 (-1), .int .i64 (-1)] 3)) := Bal (Bre _) _
      generalize W2.alloc (.cells #[.int .i64 (-1), .int .i64 (-1), .int .i64 (-1), .int .i64 (-1), .int .i64 (-1)] 3) = W3 at hm3 hb3 ⊢
      have HM3 := Lib.hid hm3
      have hs3 := hb3.size
      clear hm3
      obtain ⟨zs, hzs⟩ : ∃ zs : List Int, zs = [(-1 : Int), -1, -1, -1, -1] := ⟨_, rfl⟩
      have hzl : Hid (zs.length = 5) := by rw [hzs]; rfl
      have HM : Hid (W3.ownsRow W2.heap.size 3 1 (.slice (some ⟨W2.heap.size, 0, none⟩) 5 5) 5 (zs.map (Value.int .i64))) := by rw [hzs]; exact HM3.out
      clear hzs HM3
      have m0 : W3.cell? ⟨W2.heap.size, q, none⟩ = some (.int .i64 (zs.getD q 0)) := by rw [HM.out.cellAt q (by omega)]; exact map_getD zs q (by rw [hzl.out]; omega)
      have m1 := HM.out.frozenAt q
      generalize zs.getD q 0 = zq at m0
      go_upto_region 14 with fail
      have HM5 : Hid ((W3.setCell ⟨W2.heap.size, q, none⟩ (.int .i64 mate)).ownsRow W2.heap.size 3 1 (.slice (some ⟨W2.heap.size, 0, none⟩) 5 5) 5 ((zs.set q mate).map (Value.int .i64))) := by show World.ownsRow _ _ _ _ _ _ _; rw [List.map_set]; exact (HM.out.stored q _).1
      have hb5 : Below W2.heap.size W2 (W3.setCell ⟨W2.heap.size, q, none⟩ (.int .i64 mate)) := Bset hb3 (show W2.heap.size ≤ W2.heap.size from (HM.out.lt _ rfl).1) _
      generalize W3.setCell ⟨W2.heap.size, q, none⟩ (.int .i64 mate) = W5 at HM5 hb5 ⊢
      have hz5 : Hid ((zs.set q mate).length = 5) := by show _ = _; rw [List.length_set]; exact hzl.out
      generalize zs.set q mate = zl at HM5 hz5
      have m0 : W5.cell? ⟨W2.heap.size, q, none⟩ = some (.int .i64 (zl.getD q 0)) := by rw [HM5.out.cellAt q (by omega)]; exact map_getD zl q (by rw [hz5.out]; omega)
      have m1 := HM5.out.frozenAt q
      generalize zl.getD q 0 = zq at m0
      obtain ⟨V, hV⟩ : ∃ V : Int, wrap64 ((IntKind.u64.wrap ((IntKind.u64.wrap mate).tdiv 4)).tmod 6) = V := ⟨_, rfl⟩
      go_upto_region 18 with fail
      have HM6 : Hid ((W5.setCell ⟨W2.heap.size, q, none⟩ (.int .i64 V)).ownsRow W2.heap.size 3 1 (.slice (some ⟨W2.heap.size, 0, none⟩) 5 5) 5 ((zl.set q V).map (Value.int .i64))) := by show World.ownsRow _ _ _ _ _ _ _; rw [List.map_set]; exact (HM5.out.stored q _).1
      have hb6 : Below W2.heap.size W2 (W5.setCell ⟨W2.heap.size, q, none⟩ (.int .i64 V)) := Bset hb5 (show W2.heap.size ≤ W2.heap.size from (HM.out.lt _ rfl).1) _
      have hz6 : Hid ((zl.set q V).length = 5) := by show _ = _; rw [List.length_set]; exact hz5.out
      generalize W5.setCell ⟨W2.heap.size, q, none⟩ (.int .i64 V) = W6 at HM6 hb6 ⊢
      clear HM5 hb5 hz5 m0 m1 hV
      have HM5 := HM6
      have hb5 := hb6
      generalize zl.set q V = zl3 at HM5 hz6
      have hz5 := hz6
      have hr5 : RegAt W6 (w.heap.size + 1) r := K1'.out.th hb5
      have HK0 : Hid (RegAt W6 w.heap.size ⟨k0, k1, k2, k3⟩) := K0'.out.th hb5
      have HK1 := Lib.hid hr5
      have HI5 : Hid (InsAt W6 (.slice (some ⟨w.heap.size + 1 + 1, 0, none⟩) 6 6) l2) := HI.out.th hb5
      have HJ5 : Hid (IntsAt W6 (.slice (some ⟨W2.heap.size, 0, none⟩) 5 5) zl3) := by
        have := HM5.out
        rw [← hz5.out] at this
        have := IntsAt.own this
        rw [hz5.out] at this
        exact this
      have hw5 : Below w.heap.size w W6 := hbA.trans (hb5.mono hbA.size)
      have hgz : w.heap.size + 1 < W6.heap.size := hr5.1
      have HLN : Hid (l2.length = 6) := hln
      have c0 : W6.cell? ⟨w.heap.size + 1, 0, none⟩ = some (.int .i64 r.a) := (hr5.2 0 (by omega)).1
      have c1 : W6.cell? ⟨w.heap.size + 1, 1, none⟩ = some (.int .i64 r.b) := (hr5.2 1 (by omega)).1
      have c2 : W6.cell? ⟨w.heap.size + 1, 2, none⟩ = some (.int .i64 r.c) := (hr5.2 2 (by omega)).1
      have c3 : W6.cell? ⟨w.heap.size + 1, 3, none⟩ = some (.int .i64 r.d) := (hr5.2 3 (by omega)).1
      clear hr5 hln
      go_wp2_with fail
      refine (next_any l2 _ _ zl3 _ r _ (by rw [HLN.out]; omega) HI5.out HJ5.out).mono ?_
      rintro e w6 ⟨rfl, hb6⟩
      generalize hX : nextF l2 zl3 (q : Int) r = X
      have HX := Lib.hid hX
      clear hX
      obtain ⟨xa, ⟨ya, yb, yc, yd⟩, xo⟩ := X
      unfold outV
      dsimp only
      have hr6 : RegAt w6 (w.heap.size + 1) r := HK1.out.th hb6
      have hgz6 : w.heap.size + 1 < w6.heap.size := hr6.1
      clear c0 c1 c2 c3
      have c0 : w6.cell? ⟨w.heap.size + 1, 0, none⟩ = some (.int .i64 r.a) := (hr6.2 0 (by omega)).1
      have c1 : w6.cell? ⟨w.heap.size + 1, 1, none⟩ = some (.int .i64 r.b) := (hr6.2 1 (by omega)).1
      have c2 : w6.cell? ⟨w.heap.size + 1, 2, none⟩ = some (.int .i64 r.c) := (hr6.2 2 (by omega)).1
      have c3 : w6.cell? ⟨w.heap.size + 1, 3, none⟩ = some (.int .i64 r.d) := (hr6.2 3 (by omega)).1
      clear hr6
      go_wp2_with fail
      refine (rnext_any l2 _ _ zl3 _ r _ (by rw [HLN.out]; omega) ((HI5.out.th hb6).th (Bal (Bre _) _)) ((HJ5.out.th hb6).th (Bal (Bre _) _))).mono ?_
      rintro e w7 ⟨rfl, hb7⟩
      rw [HX.out]
      unfold outV
      dsimp only
      have hb67 : Below w6.heap.size w6 w7 := Bth (Bal (Bre _) _) hb7
      have R18 : Hid (RegAt w7 w6.heap.size ⟨ya, yb, yc, yd⟩) := (regNew w6 ⟨ya, yb, yc, yd⟩ 38).th hb7
      have hk7 : RegAt w7 w.heap.size ⟨k0, k1, k2, k3⟩ := (HK0.out.th hb6).th hb67
      have hgz7 : w.heap.size < w7.heap.size := hk7.1
      clear c0 c1 c2 c3
      have c0 : w7.cell? ⟨w.heap.size, 0, none⟩ = some (.int .i64 k0) := (hk7.2 0 (by omega)).1
      have c1 : w7.cell? ⟨w.heap.size, 1, none⟩ = some (.int .i64 k1) := (hk7.2 1 (by omega)).1
      have c2 : w7.cell? ⟨w.heap.size, 2, none⟩ = some (.int .i64 k2) := (hk7.2 2 (by omega)).1
      have c3 : w7.cell? ⟨w.heap.size, 3, none⟩ = some (.int .i64 k3) := (hk7.2 3 (by omega)).1
      clear hk7
      go_wp2_with fail
      refine (instr_any _ _ _ _ _ _ _).mono ?_
      rintro e w8 ⟨⟨jo2, ja2, jb2, jc2, jn2⟩, rfl, hb8⟩
      dsimp only
      have hb78 : Below w7.heap.size w7 w8 := Bth (Bal (Bre _) _) hb8
      have p18 : RegAt w8 w6.heap.size ⟨ya, yb, yc, yd⟩ := R18.out.th hb78
      have p21 : RegAt w8 w7.heap.size ⟨ya, yb, yc, yd⟩ := (regNew w7 ⟨ya, yb, yc, yd⟩ 38).th hb8
      have pr : RegAt w8 (w.heap.size + 1) r := ((HK1.out.th hb6).th hb67).th hb78
      have z18 : w6.heap.size < w8.heap.size := p18.1
      have z21 : w7.heap.size < w8.heap.size := p21.1
      have zr : w.heap.size + 1 < w8.heap.size := pr.1
      have z18' : w6.heap.size < w8.heap.size + 1 := by omega
      have z21' : w7.heap.size < w8.heap.size + 1 := by omega
      have zr' : w.heap.size + 1 < w8.heap.size + 1 := by omega
      clear c0 c1 c2 c3
      have p0 : w8.cell? ⟨w6.heap.size, 0, none⟩ = some (.int .i64 ya) := (p18.2 0 (by omega)).1
      have p1 : w8.cell? ⟨w6.heap.size, 1, none⟩ = some (.int .i64 yb) := (p18.2 1 (by omega)).1
      have p2 : w8.cell? ⟨w6.heap.size, 2, none⟩ = some (.int .i64 yc) := (p18.2 2 (by omega)).1
      have p3 : w8.cell? ⟨w6.heap.size, 3, none⟩ = some (.int .i64 yd) := (p18.2 3 (by omega)).1
      have q0 : w8.cell? ⟨w7.heap.size, 0, none⟩ = some (.int .i64 ya) := (p21.2 0 (by omega)).1
      have q1 : w8.cell? ⟨w7.heap.size, 1, none⟩ = some (.int .i64 yb) := (p21.2 1 (by omega)).1
      have q2 : w8.cell? ⟨w7.heap.size, 2, none⟩ = some (.int .i64 yc) := (p21.2 2 (by omega)).1
      have q3 : w8.cell? ⟨w7.heap.size, 3, none⟩ = some (.int .i64 yd) := (p21.2 3 (by omega)).1
      have s0 : w8.cell? ⟨w.heap.size + 1, 0, none⟩ = some (.int .i64 r.a) := (pr.2 0 (by omega)).1
      have s1 : w8.cell? ⟨w.heap.size + 1, 1, none⟩ = some (.int .i64 r.b) := (pr.2 1 (by omega)).1
      have s2 : w8.cell? ⟨w.heap.size + 1, 2, none⟩ = some (.int .i64 r.c) := (pr.2 2 (by omega)).1
      have s3 : w8.cell? ⟨w.heap.size + 1, 3, none⟩ = some (.int .i64 r.d) := (pr.2 3 (by omega)).1
      have hreq := fun w => regs_eq ⟨ya, yb, yc, yd⟩ w
      have heqg := eqg38
      dsimp only at hreq
      clear p18 p21 pr
      go_wp2_with fail
      refine wp_region_aft_lit (by kernel_rfl) (by kernel_rfl) ?_
      repeat (go_big_quiet_step (first
        | (go_at_call 10; exact Calls.aft_of _ (told_any _))
        | (go_at_call 20; exact Calls.aft_of _ (addr_any _ _ _ _ _ r _))
        | (go_at_call 21; exact Calls.aft_of _ (raddr_any _ _ _ _ _ r _))))
      refine wpQuiet_nil ?_
      rintro _ ⟨z, rfl⟩
      go_wp2_with fail
      go_ret
      exact ⟨rfl, Bth (Bal (Bth (Bal (Bth (Bal (Bth hw5 hb6) _) hb7) _) hb8) _) z.h⟩
set_option maxRecDepth 100000 in
set_option maxHeartbeats 6400000 in
theorem law_next_ltz1y0 (k0 k1 k2 k3 n at' mate : Int) (raw : Bool) (r : Rg) (w : World) (q : Nat) (dq : wrap64 ((IntKind.u64.wrap at').tmod 8) = (q : Int)) (hq : q < 6) (z : Int) (dz : (IntKind.u64.wrap at').tmod 9 = z) (hz0 : 0 < z) (dy : (IntKind.u64.wrap mate).tmod 4 = 0) :
    Calls Try.prog 8 #[.agg #[.int .i64 k0, .int .i64 k1, .int .i64 k2, .int .i64 k3], .int .i64 n, .bool raw, .int .i64 at', .int .i64 mate, .agg #[.int .i64 r.a, .int .i64 r.b, .int .i64 r.c, .int .i64 r.d]] w fun e w' => e = .returned (.bool true) ∧ Below w.heap.size w w' := by
  obtain ⟨i0, hi, hz00, hz1, hz2⟩ := info_parts info3
  have R0 : RegAt ((w.alloc (.cells #[.int .i64 k0, .int .i64 k1, .int .i64 k2, .int .i64 k3] 22)).alloc (.cells #[.int .i64 r.a, .int .i64 r.b, .int .i64 r.c, .int .i64 r.d] 38)) w.heap.size ⟨k0, k1, k2, k3⟩ := regBox w ⟨k0, k1, k2, k3⟩ 22 _
  have R1 : RegAt ((w.alloc (.cells #[.int .i64 k0, .int .i64 k1, .int .i64 k2, .int .i64 k3] 22)).alloc (.cells #[.int .i64 r.a, .int .i64 r.b, .int .i64 r.c, .int .i64 r.d] 38)) (w.heap.size + 1) r := regNew' _ _ (by simp) r 38
  have HR0 := Lib.hid R0
  have HR1 := Lib.hid R1
  clear R0 R1
  have hmk6 := fun w => make6 w
  go_enter Try.func8, Try.ntmps8
  go_wp2_with fail
  clear hmk6
  go_loopw [14] (fun i wr => ∃ (k : Nat) (l : List Ins), k ≤ 6 ∧ i = .int .i64 k ∧ Hid (l.length = 6) ∧ wr.ownsRow (w.heap.size + 1 + 1) 24 5 (.slice (some ⟨w.heap.size + 1 + 1, 0, none⟩) 6 6) 6 (insCells l) ∧ Below (w.heap.size + 1 + 1) ((w.alloc (.cells #[.int .i64 k0, .int .i64 k1, .int .i64 k2, .int .i64 k3] 22)).alloc (.cells #[.int .i64 r.a, .int .i64 r.b, .int .i64 r.c, .int .i64 r.d] 38)) wr) (fun i _ => 6 - (intOf i).toNat)
  case atStart =>
    refine ⟨0, List.replicate 6 ⟨0, 0, 0, 0, 0⟩, by omega, rfl, rfl, ?_, (Below.refl _ _).alloc (by simp) _⟩
    exact own_new _ _ (by simp) _ _ rfl (by unfold maxLen; simp)
  case round =>
    obtain ⟨k, l, hk, rfl, hl, hown, hbel⟩ := hrel
    have HP := Lib.hid hown
    clear hown
    by_cases hlt : k < 6
    · obtain ⟨p, hp⟩ : ∃ p, l[k]? = some p := ⟨_, List.getElem?_eq_getElem (by rw [hl.out]; exact hlt)⟩
      have c0 : wr.cell? ⟨w.heap.size + 1 + 1, k * 5, none⟩ = some (.int .i64 p.op) := by rw [HP.out.cellAt (k * 5) (by omega)]; exact insCells_get _ k _ hp 0 (by omega)
      have cf0 : wr.frozen? ⟨w.heap.size + 1 + 1, k * 5, none⟩ = false := HP.out.frozenAt _
      have c1 : wr.cell? ⟨w.heap.size + 1 + 1, k * 5 + 1, none⟩ = some (.int .i64 p.a) := by rw [HP.out.cellAt (k * 5 + 1) (by omega)]; exact insCells_get _ k _ hp 1 (by omega)
      have cf1 : wr.frozen? ⟨w.heap.size + 1 + 1, k * 5 + 1, none⟩ = false := HP.out.frozenAt _
      have c2 : wr.cell? ⟨w.heap.size + 1 + 1, k * 5 + 2, none⟩ = some (.int .i64 p.b) := by rw [HP.out.cellAt (k * 5 + 2) (by omega)]; exact insCells_get _ k _ hp 2 (by omega)
      have cf2 : wr.frozen? ⟨w.heap.size + 1 + 1, k * 5 + 2, none⟩ = false := HP.out.frozenAt _
      have c3 : wr.cell? ⟨w.heap.size + 1 + 1, k * 5 + 3, none⟩ = some (.int .i64 p.c) := by rw [HP.out.cellAt (k * 5 + 3) (by omega)]; exact insCells_get _ k _ hp 3 (by omega)
      have cf3 : wr.frozen? ⟨w.heap.size + 1 + 1, k * 5 + 3, none⟩ = false := HP.out.frozenAt _
      have c4 : wr.cell? ⟨w.heap.size + 1 + 1, k * 5 + 4, none⟩ = some (.int .i64 p.n) := by rw [HP.out.cellAt (k * 5 + 4) (by omega)]; exact insCells_get _ k _ hp 4 (by omega)
      have cf4 : wr.frozen? ⟨w.heap.size + 1 + 1, k * 5 + 4, none⟩ = false := HP.out.frozenAt _
      have HN := Lib.hid (own_ins HP.out k p hp 20 0 0 0 0)
      clear hp
      go_wp2_with fail
      exact ⟨⟨k + 1, l.set k ⟨20, 0, 0, 0, 0⟩, by omega, by go_num, by show _ = _; rw [List.length_set]; exact hl.out, HN.out, B5 hbel (Nat.le_refl _) _ _ _ _ _ _ _ _ _ _⟩, by (simp [intOf]) <;> omega⟩
    · have hbz := hbel.size
      simp only [World.size_alloc] at hbz
      have hb0 : Below w.heap.size w wr := (Bal (Bal (Bre w) _) _).trans (hbel.mono (by omega))
      have thR : ∀ g r', g < w.heap.size + 1 + 1 → RegAt ((w.alloc (.cells #[.int .i64 k0, .int .i64 k1, .int .i64 k2, .int .i64 k3] 22)).alloc (.cells #[.int .i64 r.a, .int .i64 r.b, .int .i64 r.c, .int .i64 r.d] 38)) g r' → RegAt wr g r' := fun g r' hg h => ⟨by omega, fun j hj => ⟨(hbel.cell (p := ⟨g, j, none⟩) hg).trans (h.2 j hj).1, (hbel.frozen (p := ⟨g, j, none⟩) hg).trans (h.2 j hj).2⟩⟩
      have K0 := Lib.hid (thR _ _ (by omega) HR0.out)
      have K1 := Lib.hid (thR _ _ (by omega) HR1.out)
      clear thR HR0 HR1 hbel hk
      have hkb : RegAt wr w.heap.size ⟨k0, k1, k2, k3⟩ := K0.out
      have hzk : w.heap.size < wr.heap.size := hkb.1
      have b0 : wr.cell? ⟨w.heap.size, 0, none⟩ = some (.int .i64 k0) := (hkb.2 0 (by omega)).1
      have b1 : wr.cell? ⟨w.heap.size, 1, none⟩ = some (.int .i64 k1) := (hkb.2 1 (by omega)).1
      have b2 : wr.cell? ⟨w.heap.size, 2, none⟩ = some (.int .i64 k2) := (hkb.2 2 (by omega)).1
      have b3 : wr.cell? ⟨w.heap.size, 3, none⟩ = some (.int .i64 k3) := (hkb.2 3 (by omega)).1
      clear hkb
      go_wp2_with fail
      refine (instr_any _ _ _ _ _ _ _).mono ?_
      rintro e w1 ⟨⟨jo, ja, jb, jc, jn⟩, rfl, hb1⟩
      obtain ⟨p, hp⟩ : ∃ p, l[q]? = some p := ⟨_, List.getElem?_eq_getElem (by rw [hl.out]; omega)⟩
      have HP1 := Lib.hid (own_th HP.out hb1)
      have d0 : w1.cell? ⟨w.heap.size + 1 + 1, q * 5, none⟩ = some (.int .i64 p.op) := by rw [HP1.out.cellAt (q * 5) (by omega)]; exact insCells_get _ q _ hp 0 (by omega)
      have df0 : w1.frozen? ⟨w.heap.size + 1 + 1, q * 5, none⟩ = false := HP1.out.frozenAt _
      have d1 : w1.cell? ⟨w.heap.size + 1 + 1, q * 5 + 1, none⟩ = some (.int .i64 p.a) := by rw [HP1.out.cellAt (q * 5 + 1) (by omega)]; exact insCells_get _ q _ hp 1 (by omega)
      have df1 : w1.frozen? ⟨w.heap.size + 1 + 1, q * 5 + 1, none⟩ = false := HP1.out.frozenAt _
      have d2 : w1.cell? ⟨w.heap.size + 1 + 1, q * 5 + 2, none⟩ = some (.int .i64 p.b) := by rw [HP1.out.cellAt (q * 5 + 2) (by omega)]; exact insCells_get _ q _ hp 2 (by omega)
      have df2 : w1.frozen? ⟨w.heap.size + 1 + 1, q * 5 + 2, none⟩ = false := HP1.out.frozenAt _
      have d3 : w1.cell? ⟨w.heap.size + 1 + 1, q * 5 + 3, none⟩ = some (.int .i64 p.c) := by rw [HP1.out.cellAt (q * 5 + 3) (by omega)]; exact insCells_get _ q _ hp 3 (by omega)
      have df3 : w1.frozen? ⟨w.heap.size + 1 + 1, q * 5 + 3, none⟩ = false := HP1.out.frozenAt _
      have d4 : w1.cell? ⟨w.heap.size + 1 + 1, q * 5 + 4, none⟩ = some (.int .i64 p.n) := by rw [HP1.out.cellAt (q * 5 + 4) (by omega)]; exact insCells_get _ q _ hp 4 (by omega)
      have df4 : w1.frozen? ⟨w.heap.size + 1 + 1, q * 5 + 4, none⟩ = false := HP1.out.frozenAt _
      have HN := Lib.hid (own_ins HP1.out q p hp jo ja jb jc jn)
      have hln : Hid ((l.set q ⟨jo, ja, jb, jc, jn⟩).length = 6) := by show _ = _; rw [List.length_set]; exact hl.out
      have hbA : Below w.heap.size w (((((w1.setCell ⟨w.heap.size + 1 + 1, q * 5, none⟩ (.int .i64 jo)).setCell ⟨w.heap.size + 1 + 1, q * 5 + 1, none⟩ (.int .i64 ja)).setCell ⟨w.heap.size + 1 + 1, q * 5 + 2, none⟩ (.int .i64 jb)).setCell ⟨w.heap.size + 1 + 1, q * 5 + 3, none⟩ (.int .i64 jc)).setCell ⟨w.heap.size + 1 + 1, q * 5 + 4, none⟩ (.int .i64 jn)) := B5 (Bth hb0 hb1) (by omega) _ _ _ _ _ _ _ _ _ _
      have K0' : Hid (RegAt (((((w1.setCell ⟨w.heap.size + 1 + 1, q * 5, none⟩ (.int .i64 jo)).setCell ⟨w.heap.size + 1 + 1, q * 5 + 1, none⟩ (.int .i64 ja)).setCell ⟨w.heap.size + 1 + 1, q * 5 + 2, none⟩ (.int .i64 jb)).setCell ⟨w.heap.size + 1 + 1, q * 5 + 3, none⟩ (.int .i64 jc)).setCell ⟨w.heap.size + 1 + 1, q * 5 + 4, none⟩ (.int .i64 jn)) w.heap.size ⟨k0, k1, k2, k3⟩) := (((((K0.out.th hb1).other _ _ (by omega) _).other _ _ (by omega) _).other _ _ (by omega) _).other _ _ (by omega) _).other _ _ (by omega) _
      have K1' : Hid (RegAt (((((w1.setCell ⟨w.heap.size + 1 + 1, q * 5, none⟩ (.int .i64 jo)).setCell ⟨w.heap.size + 1 + 1, q * 5 + 1, none⟩ (.int .i64 ja)).setCell ⟨w.heap.size + 1 + 1, q * 5 + 2, none⟩ (.int .i64 jb)).setCell ⟨w.heap.size + 1 + 1, q * 5 + 3, none⟩ (.int .i64 jc)).setCell ⟨w.heap.size + 1 + 1, q * 5 + 4, none⟩ (.int .i64 jn)) (w.heap.size + 1) r) := (((((K1.out.th hb1).other _ _ (by omega) _).other _ _ (by omega) _).other _ _ (by omega) _).other _ _ (by omega) _).other _ _ (by omega) _
      dsimp only
      clear hp b0 b1 b2 b3 K0 K1 hb0
      go_upto_region 9 with fail
      have HI : Hid (InsAt (((((w1.setCell ⟨w.heap.size + 1 + 1, q * 5, none⟩ (.int .i64 jo)).setCell ⟨w.heap.size + 1 + 1, q * 5 + 1, none⟩ (.int .i64 ja)).setCell ⟨w.heap.size + 1 + 1, q * 5 + 2, none⟩ (.int .i64 jb)).setCell ⟨w.heap.size + 1 + 1, q * 5 + 3, none⟩ (.int .i64 jc)).setCell ⟨w.heap.size + 1 + 1, q * 5 + 4, none⟩ (.int .i64 jn)) (.slice (some ⟨w.heap.size + 1 + 1, 0, none⟩) 6 6) (l.set q ⟨jo, ja, jb, jc, jn⟩)) := by
        have := HN.out
        rw [← hln.out] at this
        have := InsAt.own this
        rw [hln.out] at this
        exact this
      clear d0 d1 d2 d3 d4 df0 df1 df2 df3 df4 HN HP HP1
      generalize (((((w1.setCell ⟨w.heap.size + 1 + 1, q * 5, none⟩ (.int .i64 jo)).setCell ⟨w.heap.size + 1 + 1, q * 5 + 1, none⟩ (.int .i64 ja)).setCell ⟨w.heap.size + 1 + 1, q * 5 + 2, none⟩ (.int .i64 jb)).setCell ⟨w.heap.size + 1 + 1, q * 5 + 3, none⟩ (.int .i64 jc)).setCell ⟨w.heap.size + 1 + 1, q * 5 + 4, none⟩ (.int .i64 jn)) = W2 at HI K0' K1' hbA ⊢
      generalize l.set q ⟨jo, ja, jb, jc, jn⟩ = l2 at HI hln
      go_upto_region 10 with fail
      have hm3 : (W2.alloc (.cells #[.int .i64 (-1), .int .i64 (-1), .int .i64 (-1), .int .i64 (-1), .int .i64 (-1)] 3)).ownsRow W2.heap.size 3 1 (.slice (some ⟨W2.heap.size, 0, none⟩) 5 5) 5 ([(-1 : Int), -1, -1, -1, -1].map (Value.int .i64)) := World.ownsRow_lit (base := W2.heap.size) (e := 3) W2 #[.int .i64 (-1), .int .i64 (-1), .int .i64 (-1), .int .i64 (-1), .int .i64 (-1)] 5 (Nat.le_refl _) (by unfold maxLen; omega) rfl
      have hb3 : Below W2.heap.size W2 (W2.alloc (.cells #[.int .i64 (-1), .int .i64 (-1), .int .i64 (-1), .int .i64 (-1), .int .i64 (-1)] 3)) := Bal (Bre _) _
      generalize W2.alloc (.cells #[.int .i64 (-1), .int .i64 (-1), .int .i64 (-1), .int .i64 (-1), .int .i64 (-1)] 3) = W3 at hm3 hb3 ⊢
      have HM3 := Lib.hid hm3
      have hs3 := hb3.size
      clear hm3
      go_upto_region 12 with (at_builtin; refine wpList_append_own _ rfl (.tmp 51) (.tmp 52) 31 rfl W2.heap.size 3 i0 _ 1 8 Try.underlying31 hi hz00 hz1 hz2 rfl (by omega) _ 5 _ rfl (HM3.out.alloc _) ⟨W3.heap.size, 0, none⟩ 1 1 [.int .i64 (-1)] rfl rfl (news1' W3 _ _) (by simp [Value.oneCell']) (by unfold maxLen; omega) (by omega) (by simp; omega) ?_; intro v' w4 hown' hgrow _)
      have hb4 : Below W2.heap.size W2 w4 := (Bal hb3 _).grown hgrow (Bal hb3 _).size (fun g hg => (HM3.out.lt g hg).1)
      obtain ⟨g2, c4, rfl⟩ : ∃ g2 c4, v' = .slice (some ⟨g2, 0, none⟩) 6 c4 := by
        rcases hown'.2 with ⟨_, h0⟩ | ⟨g, cap', cur, rfl, _⟩
        · omega
        · exact ⟨_, _, rfl⟩
      obtain ⟨zs, hzs⟩ : ∃ zs : List Int, zs = [(-1 : Int), -1, -1, -1, -1, -1] := ⟨_, rfl⟩
      have hzl : Hid (zs.length = 6) := by rw [hzs]; rfl
      have HM : Hid (w4.ownsRow W2.heap.size 3 1 (.slice (some ⟨g2, 0, none⟩) 6 c4) 6 (zs.map (Value.int .i64))) := by rw [hzs]; exact hown'
      clear hzs HM3 hown' hgrow
      have m0 : w4.cell? ⟨g2, q, none⟩ = some (.int .i64 (zs.getD q 0)) := by rw [HM.out.cellAt q (by omega)]; exact map_getD zs q (by rw [hzl.out]; omega)
      have m1 := HM.out.frozenAt q
      generalize zs.getD q 0 = zq at m0
      go_upto_region 18 with fail
      have HM5 : Hid ((w4.setCell ⟨g2, q, none⟩ (.int .i64 mate)).ownsRow W2.heap.size 3 1 (.slice (some ⟨g2, 0, none⟩) 6 c4) 6 ((zs.set q mate).map (Value.int .i64))) := by show World.ownsRow _ _ _ _ _ _ _; rw [List.map_set]; exact (HM.out.stored q _).1
      have hb5 : Below W2.heap.size W2 (w4.setCell ⟨g2, q, none⟩ (.int .i64 mate)) := Bset hb4 (show W2.heap.size ≤ g2 from (HM.out.lt _ rfl).1) _
      generalize w4.setCell ⟨g2, q, none⟩ (.int .i64 mate) = W5 at HM5 hb5 ⊢
      have hz5 : Hid ((zs.set q mate).length = 6) := by show _ = _; rw [List.length_set]; exact hzl.out
      generalize zs.set q mate = zl at HM5 hz5
      have hr5 : RegAt W5 (w.heap.size + 1) r := K1'.out.th hb5
      have HK0 : Hid (RegAt W5 w.heap.size ⟨k0, k1, k2, k3⟩) := K0'.out.th hb5
      have HK1 := Lib.hid hr5
      have HI5 : Hid (InsAt W5 (.slice (some ⟨w.heap.size + 1 + 1, 0, none⟩) 6 6) l2) := HI.out.th hb5
      have HJ5 : Hid (IntsAt W5 (.slice (some ⟨g2, 0, none⟩) 6 c4) zl) := by
        have := HM5.out
        rw [← hz5.out] at this
        have := IntsAt.own this
        rw [hz5.out] at this
        exact this
      have hw5 : Below w.heap.size w W5 := hbA.trans (hb5.mono hbA.size)
      have hgz : w.heap.size + 1 < W5.heap.size := hr5.1
      have HLN : Hid (l2.length = 6) := hln
      have c0 : W5.cell? ⟨w.heap.size + 1, 0, none⟩ = some (.int .i64 r.a) := (hr5.2 0 (by omega)).1
      have c1 : W5.cell? ⟨w.heap.size + 1, 1, none⟩ = some (.int .i64 r.b) := (hr5.2 1 (by omega)).1
      have c2 : W5.cell? ⟨w.heap.size + 1, 2, none⟩ = some (.int .i64 r.c) := (hr5.2 2 (by omega)).1
      have c3 : W5.cell? ⟨w.heap.size + 1, 3, none⟩ = some (.int .i64 r.d) := (hr5.2 3 (by omega)).1
      clear hr5 hln
      go_wp2_with fail
      refine (next_any l2 _ _ zl _ r _ (by rw [HLN.out]; omega) HI5.out HJ5.out).mono ?_
      rintro e w6 ⟨rfl, hb6⟩
      generalize hX : nextF l2 zl (q : Int) r = X
      have HX := Lib.hid hX
      clear hX
      obtain ⟨xa, ⟨ya, yb, yc, yd⟩, xo⟩ := X
      unfold outV
      dsimp only
      have hr6 : RegAt w6 (w.heap.size + 1) r := HK1.out.th hb6
      have hgz6 : w.heap.size + 1 < w6.heap.size := hr6.1
      clear c0 c1 c2 c3
      have c0 : w6.cell? ⟨w.heap.size + 1, 0, none⟩ = some (.int .i64 r.a) := (hr6.2 0 (by omega)).1
      have c1 : w6.cell? ⟨w.heap.size + 1, 1, none⟩ = some (.int .i64 r.b) := (hr6.2 1 (by omega)).1
      have c2 : w6.cell? ⟨w.heap.size + 1, 2, none⟩ = some (.int .i64 r.c) := (hr6.2 2 (by omega)).1
      have c3 : w6.cell? ⟨w.heap.size + 1, 3, none⟩ = some (.int .i64 r.d) := (hr6.2 3 (by omega)).1
      clear hr6
      go_wp2_with fail
      refine (rnext_any l2 _ _ zl _ r _ (by rw [HLN.out]; omega) ((HI5.out.th hb6).th (Bal (Bre _) _)) ((HJ5.out.th hb6).th (Bal (Bre _) _))).mono ?_
      rintro e w7 ⟨rfl, hb7⟩
      rw [HX.out]
      unfold outV
      dsimp only
      have hb67 : Below w6.heap.size w6 w7 := Bth (Bal (Bre _) _) hb7
      have R18 : Hid (RegAt w7 w6.heap.size ⟨ya, yb, yc, yd⟩) := (regNew w6 ⟨ya, yb, yc, yd⟩ 38).th hb7
      have hk7 : RegAt w7 w.heap.size ⟨k0, k1, k2, k3⟩ := (HK0.out.th hb6).th hb67
      have hgz7 : w.heap.size < w7.heap.size := hk7.1
      clear c0 c1 c2 c3
      have c0 : w7.cell? ⟨w.heap.size, 0, none⟩ = some (.int .i64 k0) := (hk7.2 0 (by omega)).1
      have c1 : w7.cell? ⟨w.heap.size, 1, none⟩ = some (.int .i64 k1) := (hk7.2 1 (by omega)).1
      have c2 : w7.cell? ⟨w.heap.size, 2, none⟩ = some (.int .i64 k2) := (hk7.2 2 (by omega)).1
      have c3 : w7.cell? ⟨w.heap.size, 3, none⟩ = some (.int .i64 k3) := (hk7.2 3 (by omega)).1
      clear hk7
      go_wp2_with fail
      refine (instr_any _ _ _ _ _ _ _).mono ?_
      rintro e w8 ⟨⟨jo2, ja2, jb2, jc2, jn2⟩, rfl, hb8⟩
      dsimp only
      have hb78 : Below w7.heap.size w7 w8 := Bth (Bal (Bre _) _) hb8
      have p18 : RegAt w8 w6.heap.size ⟨ya, yb, yc, yd⟩ := R18.out.th hb78
      have p21 : RegAt w8 w7.heap.size ⟨ya, yb, yc, yd⟩ := (regNew w7 ⟨ya, yb, yc, yd⟩ 38).th hb8
      have pr : RegAt w8 (w.heap.size + 1) r := ((HK1.out.th hb6).th hb67).th hb78
      have z18 : w6.heap.size < w8.heap.size := p18.1
      have z21 : w7.heap.size < w8.heap.size := p21.1
      have zr : w.heap.size + 1 < w8.heap.size := pr.1
      have z18' : w6.heap.size < w8.heap.size + 1 := by omega
      have z21' : w7.heap.size < w8.heap.size + 1 := by omega
      have zr' : w.heap.size + 1 < w8.heap.size + 1 := by omega
      clear c0 c1 c2 c3
      have p0 : w8.cell? ⟨w6.heap.size, 0, none⟩ = some (.int .i64 ya) := (p18.2 0 (by omega)).1
      have p1 : w8.cell? ⟨w6.heap.size, 1, none⟩ = some (.int .i64 yb) := (p18.2 1 (by omega)).1
      have p2 : w8.cell? ⟨w6.heap.size, 2, none⟩ = some (.int .i64 yc) := (p18.2 2 (by omega)).1
      have p3 : w8.cell? ⟨w6.heap.size, 3, none⟩ = some (.int .i64 yd) := (p18.2 3 (by omega)).1
      have q0 : w8.cell? ⟨w7.heap.size, 0, none⟩ = some (.int .i64 ya) := (p21.2 0 (by omega)).1
      have q1 : w8.cell? ⟨w7.heap.size, 1, none⟩ = some (.int .i64 yb) := (p21.2 1 (by omega)).1
      have q2 : w8.cell? ⟨w7.heap.size, 2, none⟩ = some (.int .i64 yc) := (p21.2 2 (by omega)).1
      have q3 : w8.cell? ⟨w7.heap.size, 3, none⟩ = some (.int .i64 yd) := (p21.2 3 (by omega)).1
      have s0 : w8.cell? ⟨w.heap.size + 1, 0, none⟩ = some (.int .i64 r.a) := (pr.2 0 (by omega)).1
      have s1 : w8.cell? ⟨w.heap.size + 1, 1, none⟩ = some (.int .i64 r.b) := (pr.2 1 (by omega)).1
      have s2 : w8.cell? ⟨w.heap.size + 1, 2, none⟩ = some (.int .i64 r.c) := (pr.2 2 (by omega)).1
      have s3 : w8.cell? ⟨w.heap.size + 1, 3, none⟩ = some (.int .i64 r.d) := (pr.2 3 (by omega)).1
      have hreq := fun w => regs_eq ⟨ya, yb, yc, yd⟩ w
      have heqg := eqg38
      dsimp only at hreq
      clear p18 p21 pr
      go_wp2_with fail
      refine wp_region_aft_lit (by kernel_rfl) (by kernel_rfl) ?_
      repeat (go_big_quiet_step (first
        | (go_at_call 10; exact Calls.aft_of _ (told_any _))
        | (go_at_call 20; exact Calls.aft_of _ (addr_any _ _ _ _ _ r _))
        | (go_at_call 21; exact Calls.aft_of _ (raddr_any _ _ _ _ _ r _))))
      refine wpQuiet_nil ?_
      rintro _ ⟨z, rfl⟩
      go_wp2_with fail
      go_ret
      exact ⟨rfl, Bth (Bal (Bth (Bal (Bth (Bal (Bth hw5 hb6) _) hb7) _) hb8) _) z.h⟩
set_option maxRecDepth 100000 in
set_option maxHeartbeats 6400000 in
theorem law_next_ltz1y1 (k0 k1 k2 k3 n at' mate : Int) (raw : Bool) (r : Rg) (w : World) (q : Nat) (dq : wrap64 ((IntKind.u64.wrap at').tmod 8) = (q : Int)) (hq : q < 6) (z : Int) (dz : (IntKind.u64.wrap at').tmod 9 = z) (hz0 : 0 < z) (y : Int) (dy : (IntKind.u64.wrap mate).tmod 4 = y) (hy0 : 0 < y) :
    Calls Try.prog 8 #[.agg #[.int .i64 k0, .int .i64 k1, .int .i64 k2, .int .i64 k3], .int .i64 n, .bool raw, .int .i64 at', .int .i64 mate, .agg #[.int .i64 r.a, .int .i64 r.b, .int .i64 r.c, .int .i64 r.d]] w fun e w' => e = .returned (.bool true) ∧ Below w.heap.size w w' := by
  obtain ⟨i0, hi, hz00, hz1, hz2⟩ := info_parts info3
  have R0 : RegAt ((w.alloc (.cells #[.int .i64 k0, .int .i64 k1, .int .i64 k2, .int .i64 k3] 22)).alloc (.cells #[.int .i64 r.a, .int .i64 r.b, .int .i64 r.c, .int .i64 r.d] 38)) w.heap.size ⟨k0, k1, k2, k3⟩ := regBox w ⟨k0, k1, k2, k3⟩ 22 _
  have R1 : RegAt ((w.alloc (.cells #[.int .i64 k0, .int .i64 k1, .int .i64 k2, .int .i64 k3] 22)).alloc (.cells #[.int .i64 r.a, .int .i64 r.b, .int .i64 r.c, .int .i64 r.d] 38)) (w.heap.size + 1) r := regNew' _ _ (by simp) r 38
  have HR0 := Lib.hid R0
  have HR1 := Lib.hid R1
  clear R0 R1
  have hmk6 := fun w => make6 w
  go_enter Try.func8, Try.ntmps8
  go_wp2_with fail
  clear hmk6
  go_loopw [14] (fun i wr => ∃ (k : Nat) (l : List Ins), k ≤ 6 ∧ i = .int .i64 k ∧ Hid (l.length = 6) ∧ wr.ownsRow (w.heap.size + 1 + 1) 24 5 (.slice (some ⟨w.heap.size + 1 + 1, 0, none⟩) 6 6) 6 (insCells l) ∧ Below (w.heap.size + 1 + 1) ((w.alloc (.cells #[.int .i64 k0, .int .i64 k1, .int .i64 k2, .int .i64 k3] 22)).alloc (.cells #[.int .i64 r.a, .int .i64 r.b, .int .i64 r.c, .int .i64 r.d] 38)) wr) (fun i _ => 6 - (intOf i).toNat)
  case atStart =>
    refine ⟨0, List.replicate 6 ⟨0, 0, 0, 0, 0⟩, by omega, rfl, rfl, ?_, (Below.refl _ _).alloc (by simp) _⟩
    exact own_new _ _ (by simp) _ _ rfl (by unfold maxLen; simp)
  case round =>
    obtain ⟨k, l, hk, rfl, hl, hown, hbel⟩ := hrel
    have HP := Lib.hid hown
    clear hown
    by_cases hlt : k < 6
    · obtain ⟨p, hp⟩ : ∃ p, l[k]? = some p := ⟨_, List.getElem?_eq_getElem (by rw [hl.out]; exact hlt)⟩
      have c0 : wr.cell? ⟨w.heap.size + 1 + 1, k * 5, none⟩ = some (.int .i64 p.op) := by rw [HP.out.cellAt (k * 5) (by omega)]; exact insCells_get _ k _ hp 0 (by omega)
      have cf0 : wr.frozen? ⟨w.heap.size + 1 + 1, k * 5, none⟩ = false := HP.out.frozenAt _
      have c1 : wr.cell? ⟨w.heap.size + 1 + 1, k * 5 + 1, none⟩ = some (.int .i64 p.a) := by rw [HP.out.cellAt (k * 5 + 1) (by omega)]; exact insCells_get _ k _ hp 1 (by omega)
      have cf1 : wr.frozen? ⟨w.heap.size + 1 + 1, k * 5 + 1, none⟩ = false := HP.out.frozenAt _
      have c2 : wr.cell? ⟨w.heap.size + 1 + 1, k * 5 + 2, none⟩ = some (.int .i64 p.b) := by rw [HP.out.cellAt (k * 5 + 2) (by omega)]; exact insCells_get _ k _ hp 2 (by omega)
      have cf2 : wr.frozen? ⟨w.heap.size + 1 + 1, k * 5 + 2, none⟩ = false := HP.out.frozenAt _
      have c3 : wr.cell? ⟨w.heap.size + 1 + 1, k * 5 + 3, none⟩ = some (.int .i64 p.c) := by rw [HP.out.cellAt (k * 5 + 3) (by omega)]; exact insCells_get _ k _ hp 3 (by omega)
      have cf3 : wr.frozen? ⟨w.heap.size + 1 + 1, k * 5 + 3, none⟩ = false := HP.out.frozenAt _
      have c4 : wr.cell? ⟨w.heap.size + 1 + 1, k * 5 + 4, none⟩ = some (.int .i64 p.n) := by rw [HP.out.cellAt (k * 5 + 4) (by omega)]; exact insCells_get _ k _ hp 4 (by omega)
      have cf4 : wr.frozen? ⟨w.heap.size + 1 + 1, k * 5 + 4, none⟩ = false := HP.out.frozenAt _
      have HN := Lib.hid (own_ins HP.out k p hp 20 0 0 0 0)
      clear hp
      go_wp2_with fail
      exact ⟨⟨k + 1, l.set k ⟨20, 0, 0, 0, 0⟩, by omega, by go_num, by show _ = _; rw [List.length_set]; exact hl.out, HN.out, B5 hbel (Nat.le_refl _) _ _ _ _ _ _ _ _ _ _⟩, by (simp [intOf]) <;> omega⟩
    · have hbz := hbel.size
      simp only [World.size_alloc] at hbz
      have hb0 : Below w.heap.size w wr := (Bal (Bal (Bre w) _) _).trans (hbel.mono (by omega))
      have thR : ∀ g r', g < w.heap.size + 1 + 1 → RegAt ((w.alloc (.cells #[.int .i64 k0, .int .i64 k1, .int .i64 k2, .int .i64 k3] 22)).alloc (.cells #[.int .i64 r.a, .int .i64 r.b, .int .i64 r.c, .int .i64 r.d] 38)) g r' → RegAt wr g r' := fun g r' hg h => ⟨by omega, fun j hj => ⟨(hbel.cell (p := ⟨g, j, none⟩) hg).trans (h.2 j hj).1, (hbel.frozen (p := ⟨g, j, none⟩) hg).trans (h.2 j hj).2⟩⟩
      have K0 := Lib.hid (thR _ _ (by omega) HR0.out)
      have K1 := Lib.hid (thR _ _ (by omega) HR1.out)
      clear thR HR0 HR1 hbel hk
      have hkb : RegAt wr w.heap.size ⟨k0, k1, k2, k3⟩ := K0.out
      have hzk : w.heap.size < wr.heap.size := hkb.1
      have b0 : wr.cell? ⟨w.heap.size, 0, none⟩ = some (.int .i64 k0) := (hkb.2 0 (by omega)).1
      have b1 : wr.cell? ⟨w.heap.size, 1, none⟩ = some (.int .i64 k1) := (hkb.2 1 (by omega)).1
      have b2 : wr.cell? ⟨w.heap.size, 2, none⟩ = some (.int .i64 k2) := (hkb.2 2 (by omega)).1
      have b3 : wr.cell? ⟨w.heap.size, 3, none⟩ = some (.int .i64 k3) := (hkb.2 3 (by omega)).1
      clear hkb
      go_wp2_with fail
      refine (instr_any _ _ _ _ _ _ _).mono ?_
      rintro e w1 ⟨⟨jo, ja, jb, jc, jn⟩, rfl, hb1⟩
      obtain ⟨p, hp⟩ : ∃ p, l[q]? = some p := ⟨_, List.getElem?_eq_getElem (by rw [hl.out]; omega)⟩
      have HP1 := Lib.hid (own_th HP.out hb1)
      have d0 : w1.cell? ⟨w.heap.size + 1 + 1, q * 5, none⟩ = some (.int .i64 p.op) := by rw [HP1.out.cellAt (q * 5) (by omega)]; exact insCells_get _ q _ hp 0 (by omega)
      have df0 : w1.frozen? ⟨w.heap.size + 1 + 1, q * 5, none⟩ = false := HP1.out.frozenAt _
      have d1 : w1.cell? ⟨w.heap.size + 1 + 1, q * 5 + 1, none⟩ = some (.int .i64 p.a) := by rw [HP1.out.cellAt (q * 5 + 1) (by omega)]; exact insCells_get _ q _ hp 1 (by omega)
      have df1 : w1.frozen? ⟨w.heap.size + 1 + 1, q * 5 + 1, none⟩ = false := HP1.out.frozenAt _
      have d2 : w1.cell? ⟨w.heap.size + 1 + 1, q * 5 + 2, none⟩ = some (.int .i64 p.b) := by rw [HP1.out.cellAt (q * 5 + 2) (by omega)]; exact insCells_get _ q _ hp 2 (by omega)
      have df2 : w1.frozen? ⟨w.heap.size + 1 + 1, q * 5 + 2, none⟩ = false := HP1.out.frozenAt _
      have d3 : w1.cell? ⟨w.heap.size + 1 + 1, q * 5 + 3, none⟩ = some (.int .i64 p.c) := by rw [HP1.out.cellAt (q * 5 + 3) (by omega)]; exact insCells_get _ q _ hp 3 (by omega)
      have df3 : w1.frozen? ⟨w.heap.size + 1 + 1, q * 5 + 3, none⟩ = false := HP1.out.frozenAt _
      have d4 : w1.cell? ⟨w.heap.size + 1 + 1, q * 5 + 4, none⟩ = some (.int .i64 p.n) := by rw [HP1.out.cellAt (q * 5 + 4) (by omega)]; exact insCells_get _ q _ hp 4 (by omega)
      have df4 : w1.frozen? ⟨w.heap.size + 1 + 1, q * 5 + 4, none⟩ = false := HP1.out.frozenAt _
      have HN := Lib.hid (own_ins HP1.out q p hp jo ja jb jc jn)
      have hln : Hid ((l.set q ⟨jo, ja, jb, jc, jn⟩).length = 6) := by show _ = _; rw [List.length_set]; exact hl.out
      have hbA : Below w.heap.size w (((((w1.setCell ⟨w.heap.size + 1 + 1, q * 5, none⟩ (.int .i64 jo)).setCell ⟨w.heap.size + 1 + 1, q * 5 + 1, none⟩ (.int .i64 ja)).setCell ⟨w.heap.size + 1 + 1, q * 5 + 2, none⟩ (.int .i64 jb)).setCell ⟨w.heap.size + 1 + 1, q * 5 + 3, none⟩ (.int .i64 jc)).setCell ⟨w.heap.size + 1 + 1, q * 5 + 4, none⟩ (.int .i64 jn)) := B5 (Bth hb0 hb1) (by omega) _ _ _ _ _ _ _ _ _ _
      have K0' : Hid (RegAt (((((w1.setCell ⟨w.heap.size + 1 + 1, q * 5, none⟩ (.int .i64 jo)).setCell ⟨w.heap.size + 1 + 1, q * 5 + 1, none⟩ (.int .i64 ja)).setCell ⟨w.heap.size + 1 + 1, q * 5 + 2, none⟩ (.int .i64 jb)).setCell ⟨w.heap.size + 1 + 1, q * 5 + 3, none⟩ (.int .i64 jc)).setCell ⟨w.heap.size + 1 + 1, q * 5 + 4, none⟩ (.int .i64 jn)) w.heap.size ⟨k0, k1, k2, k3⟩) := (((((K0.out.th hb1).other _ _ (by omega) _).other _ _ (by omega) _).other _ _ (by omega) _).other _ _ (by omega) _).other _ _ (by omega) _
      have K1' : Hid (RegAt (((((w1.setCell ⟨w.heap.size + 1 + 1, q * 5, none⟩ (.int .i64 jo)).setCell ⟨w.heap.size + 1 + 1, q * 5 + 1, none⟩ (.int .i64 ja)).setCell ⟨w.heap.size + 1 + 1, q * 5 + 2, none⟩ (.int .i64 jb)).setCell ⟨w.heap.size + 1 + 1, q * 5 + 3, none⟩ (.int .i64 jc)).setCell ⟨w.heap.size + 1 + 1, q * 5 + 4, none⟩ (.int .i64 jn)) (w.heap.size + 1) r) := (((((K1.out.th hb1).other _ _ (by omega) _).other _ _ (by omega) _).other _ _ (by omega) _).other _ _ (by omega) _).other _ _ (by omega) _
      dsimp only
      clear hp b0 b1 b2 b3 K0 K1 hb0
      go_upto_region 9 with fail
      have HI : Hid (InsAt (((((w1.setCell ⟨w.heap.size + 1 + 1, q * 5, none⟩ (.int .i64 jo)).setCell ⟨w.heap.size + 1 + 1, q * 5 + 1, none⟩ (.int .i64 ja)).setCell ⟨w.heap.size + 1 + 1, q * 5 + 2, none⟩ (.int .i64 jb)).setCell ⟨w.heap.size + 1 + 1, q * 5 + 3, none⟩ (.int .i64 jc)).setCell ⟨w.heap.size + 1 + 1, q * 5 + 4, none⟩ (.int .i64 jn)) (.slice (some ⟨w.heap.size + 1 + 1, 0, none⟩) 6 6) (l.set q ⟨jo, ja, jb, jc, jn⟩)) := by
        have := HN.out
        rw [← hln.out] at this
        have := InsAt.own this
        rw [hln.out] at this
        exact this
      clear d0 d1 d2 d3 d4 df0 df1 df2 df3 df4 HN HP HP1
      generalize (((((w1.setCell ⟨w.heap.size + 1 + 1, q * 5, none⟩ (.int .i64 jo)).setCell ⟨w.heap.size + 1 + 1, q * 5 + 1, none⟩ (.int .i64 ja)).setCell ⟨w.heap.size + 1 + 1, q * 5 + 2, none⟩ (.int .i64 jb)).setCell ⟨w.heap.size + 1 + 1, q * 5 + 3, none⟩ (.int .i64 jc)).setCell ⟨w.heap.size + 1 + 1, q * 5 + 4, none⟩ (.int .i64 jn)) = W2 at HI K0' K1' hbA ⊢
      generalize l.set q ⟨jo, ja, jb, jc, jn⟩ = l2 at HI hln
      go_upto_region 10 with fail
      have hm3 : (W2.alloc (.cells #[.int .i64 (-1), .int .i64 (-1), .int .i64 (-1), .int .i64 (-1), .int .i64 (-1)] 3)).ownsRow W2.heap.size 3 1 (.slice (some ⟨W2.heap.size, 0, none⟩) 5 5) 5 ([(-1 : Int), -1, -1, -1, -1].map (Value.int .i64)) := World.ownsRow_lit (base := W2.heap.size) (e := 3) W2 #[.int .i64 (-1), .int .i64 (-1), .int .i64 (-1), .int .i64 (-1), .int .i64 (-1)] 5 (Nat.le_refl _) (by unfold maxLen; omega) rfl
      have hb3 : Below W2.heap.size W2 (W2.alloc (.cells #[.int .i64 (-1), .int .i64 (-1), .int .i64 (-1), .int .i64 (-1), .int .i64 (-1)] 3)) := Bal (Bre _) _
      generalize W2.alloc (.cells #[.int .i64 (-1), .int .i64 (-1), .int .i64 (-1), .int .i64 (-1), .int .i64 (-1)] 3) = W3 at hm3 hb3 ⊢
      have HM3 := Lib.hid hm3
      have hs3 := hb3.size
      clear hm3
      go_upto_region 12 with (at_builtin; refine wpList_append_own _ rfl (.tmp 51) (.tmp 52) 31 rfl W2.heap.size 3 i0 _ 1 8 Try.underlying31 hi hz00 hz1 hz2 rfl (by omega) _ 5 _ rfl (HM3.out.alloc _) ⟨W3.heap.size, 0, none⟩ 1 1 [.int .i64 (-1)] rfl rfl (news1' W3 _ _) (by simp [Value.oneCell']) (by unfold maxLen; omega) (by omega) (by simp; omega) ?_; intro v' w4 hown' hgrow _)
      have hb4 : Below W2.heap.size W2 w4 := (Bal hb3 _).grown hgrow (Bal hb3 _).size (fun g hg => (HM3.out.lt g hg).1)
      obtain ⟨g2, c4, rfl⟩ : ∃ g2 c4, v' = .slice (some ⟨g2, 0, none⟩) 6 c4 := by
        rcases hown'.2 with ⟨_, h0⟩ | ⟨g, cap', cur, rfl, _⟩
        · omega
        · exact ⟨_, _, rfl⟩
      obtain ⟨zs, hzs⟩ : ∃ zs : List Int, zs = [(-1 : Int), -1, -1, -1, -1, -1] := ⟨_, rfl⟩
      have hzl : Hid (zs.length = 6) := by rw [hzs]; rfl
      have HM : Hid (w4.ownsRow W2.heap.size 3 1 (.slice (some ⟨g2, 0, none⟩) 6 c4) 6 (zs.map (Value.int .i64))) := by rw [hzs]; exact hown'
      clear hzs HM3 hown' hgrow
      have m0 : w4.cell? ⟨g2, q, none⟩ = some (.int .i64 (zs.getD q 0)) := by rw [HM.out.cellAt q (by omega)]; exact map_getD zs q (by rw [hzl.out]; omega)
      have m1 := HM.out.frozenAt q
      generalize zs.getD q 0 = zq at m0
      go_upto_region 14 with fail
      have HM5 : Hid ((w4.setCell ⟨g2, q, none⟩ (.int .i64 mate)).ownsRow W2.heap.size 3 1 (.slice (some ⟨g2, 0, none⟩) 6 c4) 6 ((zs.set q mate).map (Value.int .i64))) := by show World.ownsRow _ _ _ _ _ _ _; rw [List.map_set]; exact (HM.out.stored q _).1
      have hb5 : Below W2.heap.size W2 (w4.setCell ⟨g2, q, none⟩ (.int .i64 mate)) := Bset hb4 (show W2.heap.size ≤ g2 from (HM.out.lt _ rfl).1) _
      generalize w4.setCell ⟨g2, q, none⟩ (.int .i64 mate) = W5 at HM5 hb5 ⊢
      have hz5 : Hid ((zs.set q mate).length = 6) := by show _ = _; rw [List.length_set]; exact hzl.out
      generalize zs.set q mate = zl at HM5 hz5
      have m0 : W5.cell? ⟨g2, q, none⟩ = some (.int .i64 (zl.getD q 0)) := by rw [HM5.out.cellAt q (by omega)]; exact map_getD zl q (by rw [hz5.out]; omega)
      have m1 := HM5.out.frozenAt q
      generalize zl.getD q 0 = zq at m0
      obtain ⟨V, hV⟩ : ∃ V : Int, wrap64 ((IntKind.u64.wrap ((IntKind.u64.wrap mate).tdiv 4)).tmod 6) = V := ⟨_, rfl⟩
      go_upto_region 18 with fail
      have HM6 : Hid ((W5.setCell ⟨g2, q, none⟩ (.int .i64 V)).ownsRow W2.heap.size 3 1 (.slice (some ⟨g2, 0, none⟩) 6 c4) 6 ((zl.set q V).map (Value.int .i64))) := by show World.ownsRow _ _ _ _ _ _ _; rw [List.map_set]; exact (HM5.out.stored q _).1
      have hb6 : Below W2.heap.size W2 (W5.setCell ⟨g2, q, none⟩ (.int .i64 V)) := Bset hb5 (show W2.heap.size ≤ g2 from (HM.out.lt _ rfl).1) _
      have hz6 : Hid ((zl.set q V).length = 6) := by show _ = _; rw [List.length_set]; exact hz5.out
      generalize W5.setCell ⟨g2, q, none⟩ (.int .i64 V) = W6 at HM6 hb6 ⊢
      clear HM5 hb5 hz5 m0 m1 hV
      have HM5 := HM6
      have hb5 := hb6
      generalize zl.set q V = zl3 at HM5 hz6
      have hz5 := hz6
      have hr5 : RegAt W6 (w.heap.size + 1) r := K1'.out.th hb5
      have HK0 : Hid (RegAt W6 w.heap.size ⟨k0, k1, k2, k3⟩) := K0'.out.th hb5
      have HK1 := Lib.hid hr5
      have HI5 : Hid (InsAt W6 (.slice (some ⟨w.heap.size + 1 + 1, 0, none⟩) 6 6) l2) := HI.out.th hb5
      have HJ5 : Hid (IntsAt W6 (.slice (some ⟨g2, 0, none⟩) 6 c4) zl3) := by
        have := HM5.out
        rw [← hz5.out] at this
        have := IntsAt.own this
        rw [hz5.out] at this
        exact this
      have hw5 : Below w.heap.size w W6 := hbA.trans (hb5.mono hbA.size)
      have hgz : w.heap.size + 1 < W6.heap.size := hr5.1
      have HLN : Hid (l2.length = 6) := hln
      have c0 : W6.cell? ⟨w.heap.size + 1, 0, none⟩ = some (.int .i64 r.a) := (hr5.2 0 (by omega)).1
      have c1 : W6.cell? ⟨w.heap.size + 1, 1, none⟩ = some (.int .i64 r.b) := (hr5.2 1 (by omega)).1
      have c2 : W6.cell? ⟨w.heap.size + 1, 2, none⟩ = some (.int .i64 r.c) := (hr5.2 2 (by omega)).1
      have c3 : W6.cell? ⟨w.heap.size + 1, 3, none⟩ = some (.int .i64 r.d) := (hr5.2 3 (by omega)).1
      clear hr5 hln
      go_wp2_with fail
      refine (next_any l2 _ _ zl3 _ r _ (by rw [HLN.out]; omega) HI5.out HJ5.out).mono ?_
      rintro e w6 ⟨rfl, hb6⟩
      generalize hX : nextF l2 zl3 (q : Int) r = X
      have HX := Lib.hid hX
      clear hX
      obtain ⟨xa, ⟨ya, yb, yc, yd⟩, xo⟩ := X
      unfold outV
      dsimp only
      have hr6 : RegAt w6 (w.heap.size + 1) r := HK1.out.th hb6
      have hgz6 : w.heap.size + 1 < w6.heap.size := hr6.1
      clear c0 c1 c2 c3
      have c0 : w6.cell? ⟨w.heap.size + 1, 0, none⟩ = some (.int .i64 r.a) := (hr6.2 0 (by omega)).1
      have c1 : w6.cell? ⟨w.heap.size + 1, 1, none⟩ = some (.int .i64 r.b) := (hr6.2 1 (by omega)).1
      have c2 : w6.cell? ⟨w.heap.size + 1, 2, none⟩ = some (.int .i64 r.c) := (hr6.2 2 (by omega)).1
      have c3 : w6.cell? ⟨w.heap.size + 1, 3, none⟩ = some (.int .i64 r.d) := (hr6.2 3 (by omega)).1
      clear hr6
      go_wp2_with fail
      refine (rnext_any l2 _ _ zl3 _ r _ (by rw [HLN.out]; omega) ((HI5.out.th hb6).th (Bal (Bre _) _)) ((HJ5.out.th hb6).th (Bal (Bre _) _))).mono ?_
      rintro e w7 ⟨rfl, hb7⟩
      rw [HX.out]
      unfold outV
      dsimp only
      have hb67 : Below w6.heap.size w6 w7 := Bth (Bal (Bre _) _) hb7
      have R18 : Hid (RegAt w7 w6.heap.size ⟨ya, yb, yc, yd⟩) := (regNew w6 ⟨ya, yb, yc, yd⟩ 38).th hb7
      have hk7 : RegAt w7 w.heap.size ⟨k0, k1, k2, k3⟩ := (HK0.out.th hb6).th hb67
      have hgz7 : w.heap.size < w7.heap.size := hk7.1
      clear c0 c1 c2 c3
      have c0 : w7.cell? ⟨w.heap.size, 0, none⟩ = some (.int .i64 k0) := (hk7.2 0 (by omega)).1
      have c1 : w7.cell? ⟨w.heap.size, 1, none⟩ = some (.int .i64 k1) := (hk7.2 1 (by omega)).1
      have c2 : w7.cell? ⟨w.heap.size, 2, none⟩ = some (.int .i64 k2) := (hk7.2 2 (by omega)).1
      have c3 : w7.cell? ⟨w.heap.size, 3, none⟩ = some (.int .i64 k3) := (hk7.2 3 (by omega)).1
      clear hk7
      go_wp2_with fail
      refine (instr_any _ _ _ _ _ _ _).mono ?_
      rintro e w8 ⟨⟨jo2, ja2, jb2, jc2, jn2⟩, rfl, hb8⟩
      dsimp only
      have hb78 : Below w7.heap.size w7 w8 := Bth (Bal (Bre _) _) hb8
      have p18 : RegAt w8 w6.heap.size ⟨ya, yb, yc, yd⟩ := R18.out.th hb78
      have p21 : RegAt w8 w7.heap.size ⟨ya, yb, yc, yd⟩ := (regNew w7 ⟨ya, yb, yc, yd⟩ 38).th hb8
      have pr : RegAt w8 (w.heap.size + 1) r := ((HK1.out.th hb6).th hb67).th hb78
      have z18 : w6.heap.size < w8.heap.size := p18.1
      have z21 : w7.heap.size < w8.heap.size := p21.1
      have zr : w.heap.size + 1 < w8.heap.size := pr.1
      have z18' : w6.heap.size < w8.heap.size + 1 := by omega
      have z21' : w7.heap.size < w8.heap.size + 1 := by omega
      have zr' : w.heap.size + 1 < w8.heap.size + 1 := by omega
      clear c0 c1 c2 c3
      have p0 : w8.cell? ⟨w6.heap.size, 0, none⟩ = some (.int .i64 ya) := (p18.2 0 (by omega)).1
      have p1 : w8.cell? ⟨w6.heap.size, 1, none⟩ = some (.int .i64 yb) := (p18.2 1 (by omega)).1
      have p2 : w8.cell? ⟨w6.heap.size, 2, none⟩ = some (.int .i64 yc) := (p18.2 2 (by omega)).1
      have p3 : w8.cell? ⟨w6.heap.size, 3, none⟩ = some (.int .i64 yd) := (p18.2 3 (by omega)).1
      have q0 : w8.cell? ⟨w7.heap.size, 0, none⟩ = some (.int .i64 ya) := (p21.2 0 (by omega)).1
      have q1 : w8.cell? ⟨w7.heap.size, 1, none⟩ = some (.int .i64 yb) := (p21.2 1 (by omega)).1
      have q2 : w8.cell? ⟨w7.heap.size, 2, none⟩ = some (.int .i64 yc) := (p21.2 2 (by omega)).1
      have q3 : w8.cell? ⟨w7.heap.size, 3, none⟩ = some (.int .i64 yd) := (p21.2 3 (by omega)).1
      have s0 : w8.cell? ⟨w.heap.size + 1, 0, none⟩ = some (.int .i64 r.a) := (pr.2 0 (by omega)).1
      have s1 : w8.cell? ⟨w.heap.size + 1, 1, none⟩ = some (.int .i64 r.b) := (pr.2 1 (by omega)).1
      have s2 : w8.cell? ⟨w.heap.size + 1, 2, none⟩ = some (.int .i64 r.c) := (pr.2 2 (by omega)).1
      have s3 : w8.cell? ⟨w.heap.size + 1, 3, none⟩ = some (.int .i64 r.d) := (pr.2 3 (by omega)).1
      have hreq := fun w => regs_eq ⟨ya, yb, yc, yd⟩ w
      have heqg := eqg38
      dsimp only at hreq
      clear p18 p21 pr
      go_wp2_with fail
      refine wp_region_aft_lit (by kernel_rfl) (by kernel_rfl) ?_
      repeat (go_big_quiet_step (first
        | (go_at_call 10; exact Calls.aft_of _ (told_any _))
        | (go_at_call 20; exact Calls.aft_of _ (addr_any _ _ _ _ _ r _))
        | (go_at_call 21; exact Calls.aft_of _ (raddr_any _ _ _ _ _ r _))))
      refine wpQuiet_nil ?_
      rintro _ ⟨z, rfl⟩
      go_wp2_with fail
      go_ret
      exact ⟨rfl, Bth (Bal (Bth (Bal (Bth (Bal (Bth hw5 hb6) _) hb7) _) hb8) _) z.h⟩
set_option maxRecDepth 100000 in
set_option maxHeartbeats 6400000 in
theorem law_next_q5z0 (k0 k1 k2 k3 n at' mate : Int) (raw : Bool) (r : Rg) (w : World) (dq : wrap64 ((IntKind.u64.wrap at').tmod 8) = 5)  (dz : (IntKind.u64.wrap at').tmod 9 = 0)  :
    Calls Try.prog 8 #[.agg #[.int .i64 k0, .int .i64 k1, .int .i64 k2, .int .i64 k3], .int .i64 n, .bool raw, .int .i64 at', .int .i64 mate, .agg #[.int .i64 r.a, .int .i64 r.b, .int .i64 r.c, .int .i64 r.d]] w fun e w' => e = .returned (.bool true) ∧ Below w.heap.size w w' := by
  obtain ⟨i0, hi, hz00, hz1, hz2⟩ := info_parts info3
  have R0 : RegAt ((w.alloc (.cells #[.int .i64 k0, .int .i64 k1, .int .i64 k2, .int .i64 k3] 22)).alloc (.cells #[.int .i64 r.a, .int .i64 r.b, .int .i64 r.c, .int .i64 r.d] 38)) w.heap.size ⟨k0, k1, k2, k3⟩ := regBox w ⟨k0, k1, k2, k3⟩ 22 _
  have R1 : RegAt ((w.alloc (.cells #[.int .i64 k0, .int .i64 k1, .int .i64 k2, .int .i64 k3] 22)).alloc (.cells #[.int .i64 r.a, .int .i64 r.b, .int .i64 r.c, .int .i64 r.d] 38)) (w.heap.size + 1) r := regNew' _ _ (by simp) r 38
  have HR0 := Lib.hid R0
  have HR1 := Lib.hid R1
  clear R0 R1
  have hmk6 := fun w => make6 w
  go_enter Try.func8, Try.ntmps8
  go_wp2_with fail
  clear hmk6
  go_loopw [14] (fun i wr => ∃ (k : Nat) (l : List Ins), k ≤ 6 ∧ i = .int .i64 k ∧ Hid (l.length = 6) ∧ wr.ownsRow (w.heap.size + 1 + 1) 24 5 (.slice (some ⟨w.heap.size + 1 + 1, 0, none⟩) 6 6) 6 (insCells l) ∧ Below (w.heap.size + 1 + 1) ((w.alloc (.cells #[.int .i64 k0, .int .i64 k1, .int .i64 k2, .int .i64 k3] 22)).alloc (.cells #[.int .i64 r.a, .int .i64 r.b, .int .i64 r.c, .int .i64 r.d] 38)) wr) (fun i _ => 6 - (intOf i).toNat)
  case atStart =>
    refine ⟨0, List.replicate 6 ⟨0, 0, 0, 0, 0⟩, by omega, rfl, rfl, ?_, (Below.refl _ _).alloc (by simp) _⟩
    exact own_new _ _ (by simp) _ _ rfl (by unfold maxLen; simp)
  case round =>
    obtain ⟨k, l, hk, rfl, hl, hown, hbel⟩ := hrel
    have HP := Lib.hid hown
    clear hown
    by_cases hlt : k < 6
    · obtain ⟨p, hp⟩ : ∃ p, l[k]? = some p := ⟨_, List.getElem?_eq_getElem (by rw [hl.out]; exact hlt)⟩
      have c0 : wr.cell? ⟨w.heap.size + 1 + 1, k * 5, none⟩ = some (.int .i64 p.op) := by rw [HP.out.cellAt (k * 5) (by omega)]; exact insCells_get _ k _ hp 0 (by omega)
      have cf0 : wr.frozen? ⟨w.heap.size + 1 + 1, k * 5, none⟩ = false := HP.out.frozenAt _
      have c1 : wr.cell? ⟨w.heap.size + 1 + 1, k * 5 + 1, none⟩ = some (.int .i64 p.a) := by rw [HP.out.cellAt (k * 5 + 1) (by omega)]; exact insCells_get _ k _ hp 1 (by omega)
      have cf1 : wr.frozen? ⟨w.heap.size + 1 + 1, k * 5 + 1, none⟩ = false := HP.out.frozenAt _
      have c2 : wr.cell? ⟨w.heap.size + 1 + 1, k * 5 + 2, none⟩ = some (.int .i64 p.b) := by rw [HP.out.cellAt (k * 5 + 2) (by omega)]; exact insCells_get _ k _ hp 2 (by omega)
      have cf2 : wr.frozen? ⟨w.heap.size + 1 + 1, k * 5 + 2, none⟩ = false := HP.out.frozenAt _
      have c3 : wr.cell? ⟨w.heap.size + 1 + 1, k * 5 + 3, none⟩ = some (.int .i64 p.c) := by rw [HP.out.cellAt (k * 5 + 3) (by omega)]; exact insCells_get _ k _ hp 3 (by omega)
      have cf3 : wr.frozen? ⟨w.heap.size + 1 + 1, k * 5 + 3, none⟩ = false := HP.out.frozenAt _
      have c4 : wr.cell? ⟨w.heap.size + 1 + 1, k * 5 + 4, none⟩ = some (.int .i64 p.n) := by rw [HP.out.cellAt (k * 5 + 4) (by omega)]; exact insCells_get _ k _ hp 4 (by omega)
      have cf4 : wr.frozen? ⟨w.heap.size + 1 + 1, k * 5 + 4, none⟩ = false := HP.out.frozenAt _
      have HN := Lib.hid (own_ins HP.out k p hp 20 0 0 0 0)
      clear hp
      go_wp2_with fail
      exact ⟨⟨k + 1, l.set k ⟨20, 0, 0, 0, 0⟩, by omega, by go_num, by show _ = _; rw [List.length_set]; exact hl.out, HN.out, B5 hbel (Nat.le_refl _) _ _ _ _ _ _ _ _ _ _⟩, by (simp [intOf]) <;> omega⟩
    · have hbz := hbel.size
      simp only [World.size_alloc] at hbz
      have hb0 : Below w.heap.size w wr := (Bal (Bal (Bre w) _) _).trans (hbel.mono (by omega))
      have thR : ∀ g r', g < w.heap.size + 1 + 1 → RegAt ((w.alloc (.cells #[.int .i64 k0, .int .i64 k1, .int .i64 k2, .int .i64 k3] 22)).alloc (.cells #[.int .i64 r.a, .int .i64 r.b, .int .i64 r.c, .int .i64 r.d] 38)) g r' → RegAt wr g r' := fun g r' hg h => ⟨by omega, fun j hj => ⟨(hbel.cell (p := ⟨g, j, none⟩) hg).trans (h.2 j hj).1, (hbel.frozen (p := ⟨g, j, none⟩) hg).trans (h.2 j hj).2⟩⟩
      have K0 := Lib.hid (thR _ _ (by omega) HR0.out)
      have K1 := Lib.hid (thR _ _ (by omega) HR1.out)
      clear thR HR0 HR1 hbel hk
      have hkb : RegAt wr w.heap.size ⟨k0, k1, k2, k3⟩ := K0.out
      have hzk : w.heap.size < wr.heap.size := hkb.1
      have b0 : wr.cell? ⟨w.heap.size, 0, none⟩ = some (.int .i64 k0) := (hkb.2 0 (by omega)).1
      have b1 : wr.cell? ⟨w.heap.size, 1, none⟩ = some (.int .i64 k1) := (hkb.2 1 (by omega)).1
      have b2 : wr.cell? ⟨w.heap.size, 2, none⟩ = some (.int .i64 k2) := (hkb.2 2 (by omega)).1
      have b3 : wr.cell? ⟨w.heap.size, 3, none⟩ = some (.int .i64 k3) := (hkb.2 3 (by omega)).1
      clear hkb
      go_wp2_with fail
      refine (instr_any _ _ _ _ _ _ _).mono ?_
      rintro e w1 ⟨⟨jo, ja, jb, jc, jn⟩, rfl, hb1⟩
      obtain ⟨p, hp⟩ : ∃ p, l[5]? = some p := ⟨_, List.getElem?_eq_getElem (by rw [hl.out]; omega)⟩
      have HP1 := Lib.hid (own_th HP.out hb1)
      have d0 : w1.cell? ⟨w.heap.size + 1 + 1, 5 * 5, none⟩ = some (.int .i64 p.op) := by rw [HP1.out.cellAt (5 * 5) (by omega)]; exact insCells_get _ 5 _ hp 0 (by omega)
      have df0 : w1.frozen? ⟨w.heap.size + 1 + 1, 5 * 5, none⟩ = false := HP1.out.frozenAt _
      have d1 : w1.cell? ⟨w.heap.size + 1 + 1, 5 * 5 + 1, none⟩ = some (.int .i64 p.a) := by rw [HP1.out.cellAt (5 * 5 + 1) (by omega)]; exact insCells_get _ 5 _ hp 1 (by omega)
      have df1 : w1.frozen? ⟨w.heap.size + 1 + 1, 5 * 5 + 1, none⟩ = false := HP1.out.frozenAt _
      have d2 : w1.cell? ⟨w.heap.size + 1 + 1, 5 * 5 + 2, none⟩ = some (.int .i64 p.b) := by rw [HP1.out.cellAt (5 * 5 + 2) (by omega)]; exact insCells_get _ 5 _ hp 2 (by omega)
      have df2 : w1.frozen? ⟨w.heap.size + 1 + 1, 5 * 5 + 2, none⟩ = false := HP1.out.frozenAt _
      have d3 : w1.cell? ⟨w.heap.size + 1 + 1, 5 * 5 + 3, none⟩ = some (.int .i64 p.c) := by rw [HP1.out.cellAt (5 * 5 + 3) (by omega)]; exact insCells_get _ 5 _ hp 3 (by omega)
      have df3 : w1.frozen? ⟨w.heap.size + 1 + 1, 5 * 5 + 3, none⟩ = false := HP1.out.frozenAt _
      have d4 : w1.cell? ⟨w.heap.size + 1 + 1, 5 * 5 + 4, none⟩ = some (.int .i64 p.n) := by rw [HP1.out.cellAt (5 * 5 + 4) (by omega)]; exact insCells_get _ 5 _ hp 4 (by omega)
      have df4 : w1.frozen? ⟨w.heap.size + 1 + 1, 5 * 5 + 4, none⟩ = false := HP1.out.frozenAt _
      have HN := Lib.hid (own_ins HP1.out 5 p hp jo ja jb jc jn)
      have hln : Hid ((l.set 5 ⟨jo, ja, jb, jc, jn⟩).length = 6) := by show _ = _; rw [List.length_set]; exact hl.out
      have hbA : Below w.heap.size w (((((w1.setCell ⟨w.heap.size + 1 + 1, 5 * 5, none⟩ (.int .i64 jo)).setCell ⟨w.heap.size + 1 + 1, 5 * 5 + 1, none⟩ (.int .i64 ja)).setCell ⟨w.heap.size + 1 + 1, 5 * 5 + 2, none⟩ (.int .i64 jb)).setCell ⟨w.heap.size + 1 + 1, 5 * 5 + 3, none⟩ (.int .i64 jc)).setCell ⟨w.heap.size + 1 + 1, 5 * 5 + 4, none⟩ (.int .i64 jn)) := B5 (Bth hb0 hb1) (by omega) _ _ _ _ _ _ _ _ _ _
      have K0' : Hid (RegAt (((((w1.setCell ⟨w.heap.size + 1 + 1, 5 * 5, none⟩ (.int .i64 jo)).setCell ⟨w.heap.size + 1 + 1, 5 * 5 + 1, none⟩ (.int .i64 ja)).setCell ⟨w.heap.size + 1 + 1, 5 * 5 + 2, none⟩ (.int .i64 jb)).setCell ⟨w.heap.size + 1 + 1, 5 * 5 + 3, none⟩ (.int .i64 jc)).setCell ⟨w.heap.size + 1 + 1, 5 * 5 + 4, none⟩ (.int .i64 jn)) w.heap.size ⟨k0, k1, k2, k3⟩) := (((((K0.out.th hb1).other _ _ (by omega) _).other _ _ (by omega) _).other _ _ (by omega) _).other _ _ (by omega) _).other _ _ (by omega) _
      have K1' : Hid (RegAt (((((w1.setCell ⟨w.heap.size + 1 + 1, 5 * 5, none⟩ (.int .i64 jo)).setCell ⟨w.heap.size + 1 + 1, 5 * 5 + 1, none⟩ (.int .i64 ja)).setCell ⟨w.heap.size + 1 + 1, 5 * 5 + 2, none⟩ (.int .i64 jb)).setCell ⟨w.heap.size + 1 + 1, 5 * 5 + 3, none⟩ (.int .i64 jc)).setCell ⟨w.heap.size + 1 + 1, 5 * 5 + 4, none⟩ (.int .i64 jn)) (w.heap.size + 1) r) := (((((K1.out.th hb1).other _ _ (by omega) _).other _ _ (by omega) _).other _ _ (by omega) _).other _ _ (by omega) _).other _ _ (by omega) _
      dsimp only
      clear hp b0 b1 b2 b3 K0 K1 hb0
      simp only [Nat.reduceMul, Nat.reduceAdd] at HN K0' K1' hbA d0 d1 d2 d3 d4 df0 df1 df2 df3 df4
      go_upto_region 9 with fail
      have HI : Hid (InsAt (((((w1.setCell ⟨w.heap.size + 1 + 1, 25, none⟩ (.int .i64 jo)).setCell ⟨w.heap.size + 1 + 1, 26, none⟩ (.int .i64 ja)).setCell ⟨w.heap.size + 1 + 1, 27, none⟩ (.int .i64 jb)).setCell ⟨w.heap.size + 1 + 1, 28, none⟩ (.int .i64 jc)).setCell ⟨w.heap.size + 1 + 1, 29, none⟩ (.int .i64 jn)) (.slice (some ⟨w.heap.size + 1 + 1, 0, none⟩) 6 6) (l.set 5 ⟨jo, ja, jb, jc, jn⟩)) := by
        have := HN.out
        rw [← hln.out] at this
        have := InsAt.own this
        rw [hln.out] at this
        exact this
      clear d0 d1 d2 d3 d4 df0 df1 df2 df3 df4 HN HP HP1
      generalize (((((w1.setCell ⟨w.heap.size + 1 + 1, 25, none⟩ (.int .i64 jo)).setCell ⟨w.heap.size + 1 + 1, 26, none⟩ (.int .i64 ja)).setCell ⟨w.heap.size + 1 + 1, 27, none⟩ (.int .i64 jb)).setCell ⟨w.heap.size + 1 + 1, 28, none⟩ (.int .i64 jc)).setCell ⟨w.heap.size + 1 + 1, 29, none⟩ (.int .i64 jn)) = W2 at HI K0' K1' hbA ⊢
      generalize l.set 5 ⟨jo, ja, jb, jc, jn⟩ = l2 at HI hln
      go_upto_region 10 with fail
      have hm3 : (W2.alloc (.cells #[.int .i64 (-1), .int .i64 (-1), .int .i64 (-1), .int .i64 (-1), .int .i64 (-1)] 3)).ownsRow W2.heap.size 3 1 (.slice (some ⟨W2.heap.size, 0, none⟩) 5 5) 5 ([(-1 : Int), -1, -1, -1, -1].map (Value.int .i64)) := World.ownsRow_lit (base := W2.heap.size) (e := 3) W2 #[.int .i64 (-1), .int .i64 (-1), .int .i64 (-1), .int .i64 (-1), .int .i64 (-1)] 5 (Nat.le_refl _) (by unfold maxLen; omega) rfl
      have hb3 : Below W2.heap.size W2 (W2.alloc (.cells #[.int .i64 (-1), .int .i64 (-1), .int .i64 (-1), .int .i64 (-1), .int .i64 (-1)] 3)) := Bal (Bre _) _
      generalize W2.alloc (.cells #[.int .i64 (-1), .int .i64 (-1), .int .i64 (-1), .int .i64 (-1), .int .i64 (-1)] 3) = W3 at hm3 hb3 ⊢
      have HM3 := Lib.hid hm3
      have hs3 := hb3.size
      clear hm3
      obtain ⟨zs, hzs⟩ : ∃ zs : List Int, zs = [(-1 : Int), -1, -1, -1, -1] := ⟨_, rfl⟩
      have hzl : Hid (zs.length = 5) := by rw [hzs]; rfl
      have HM : Hid (W3.ownsRow W2.heap.size 3 1 (.slice (some ⟨W2.heap.size, 0, none⟩) 5 5) 5 (zs.map (Value.int .i64))) := by rw [hzs]; exact HM3.out
      clear hzs HM3
      go_upto_region 18 with fail
      have HM5 := HM
      have hb5 := hb3
      have hz5 := hzl
      generalize W3 = W5 at HM5 hb5 ⊢
      generalize zs = zl at HM5 hz5
      have hr5 : RegAt W5 (w.heap.size + 1) r := K1'.out.th hb5
      have HK0 : Hid (RegAt W5 w.heap.size ⟨k0, k1, k2, k3⟩) := K0'.out.th hb5
      have HK1 := Lib.hid hr5
      have HI5 : Hid (InsAt W5 (.slice (some ⟨w.heap.size + 1 + 1, 0, none⟩) 6 6) l2) := HI.out.th hb5
      have HJ5 : Hid (IntsAt W5 (.slice (some ⟨W2.heap.size, 0, none⟩) 5 5) zl) := by
        have := HM5.out
        rw [← hz5.out] at this
        have := IntsAt.own this
        rw [hz5.out] at this
        exact this
      have hw5 : Below w.heap.size w W5 := hbA.trans (hb5.mono hbA.size)
      have hgz : w.heap.size + 1 < W5.heap.size := hr5.1
      have HLN : Hid (l2.length = 6) := hln
      have c0 : W5.cell? ⟨w.heap.size + 1, 0, none⟩ = some (.int .i64 r.a) := (hr5.2 0 (by omega)).1
      have c1 : W5.cell? ⟨w.heap.size + 1, 1, none⟩ = some (.int .i64 r.b) := (hr5.2 1 (by omega)).1
      have c2 : W5.cell? ⟨w.heap.size + 1, 2, none⟩ = some (.int .i64 r.c) := (hr5.2 2 (by omega)).1
      have c3 : W5.cell? ⟨w.heap.size + 1, 3, none⟩ = some (.int .i64 r.d) := (hr5.2 3 (by omega)).1
      clear hr5 hln
      go_wp2_with fail
      refine (next_any l2 _ _ zl _ r _ (by rw [HLN.out]; omega) HI5.out HJ5.out).mono ?_
      rintro e w6 ⟨rfl, hb6⟩
      generalize hX : nextF l2 zl 5 r = X
      have HX := Lib.hid hX
      clear hX
      obtain ⟨xa, ⟨ya, yb, yc, yd⟩, xo⟩ := X
      unfold outV
      dsimp only
      have hr6 : RegAt w6 (w.heap.size + 1) r := HK1.out.th hb6
      have hgz6 : w.heap.size + 1 < w6.heap.size := hr6.1
      clear c0 c1 c2 c3
      have c0 : w6.cell? ⟨w.heap.size + 1, 0, none⟩ = some (.int .i64 r.a) := (hr6.2 0 (by omega)).1
      have c1 : w6.cell? ⟨w.heap.size + 1, 1, none⟩ = some (.int .i64 r.b) := (hr6.2 1 (by omega)).1
      have c2 : w6.cell? ⟨w.heap.size + 1, 2, none⟩ = some (.int .i64 r.c) := (hr6.2 2 (by omega)).1
      have c3 : w6.cell? ⟨w.heap.size + 1, 3, none⟩ = some (.int .i64 r.d) := (hr6.2 3 (by omega)).1
      clear hr6
      go_wp2_with fail
      refine (rnext_any l2 _ _ zl _ r _ (by rw [HLN.out]; omega) ((HI5.out.th hb6).th (Bal (Bre _) _)) ((HJ5.out.th hb6).th (Bal (Bre _) _))).mono ?_
      rintro e w7 ⟨rfl, hb7⟩
      rw [HX.out]
      unfold outV
      dsimp only
      have hb67 : Below w6.heap.size w6 w7 := Bth (Bal (Bre _) _) hb7
      have R18 : Hid (RegAt w7 w6.heap.size ⟨ya, yb, yc, yd⟩) := (regNew w6 ⟨ya, yb, yc, yd⟩ 38).th hb7
      have hk7 : RegAt w7 w.heap.size ⟨k0, k1, k2, k3⟩ := (HK0.out.th hb6).th hb67
      have hgz7 : w.heap.size < w7.heap.size := hk7.1
      clear c0 c1 c2 c3
      have c0 : w7.cell? ⟨w.heap.size, 0, none⟩ = some (.int .i64 k0) := (hk7.2 0 (by omega)).1
      have c1 : w7.cell? ⟨w.heap.size, 1, none⟩ = some (.int .i64 k1) := (hk7.2 1 (by omega)).1
      have c2 : w7.cell? ⟨w.heap.size, 2, none⟩ = some (.int .i64 k2) := (hk7.2 2 (by omega)).1
      have c3 : w7.cell? ⟨w.heap.size, 3, none⟩ = some (.int .i64 k3) := (hk7.2 3 (by omega)).1
      clear hk7
      go_wp2_with fail
      refine (instr_any _ _ _ _ _ _ _).mono ?_
      rintro e w8 ⟨⟨jo2, ja2, jb2, jc2, jn2⟩, rfl, hb8⟩
      dsimp only
      have hb78 : Below w7.heap.size w7 w8 := Bth (Bal (Bre _) _) hb8
      have p18 : RegAt w8 w6.heap.size ⟨ya, yb, yc, yd⟩ := R18.out.th hb78
      have p21 : RegAt w8 w7.heap.size ⟨ya, yb, yc, yd⟩ := (regNew w7 ⟨ya, yb, yc, yd⟩ 38).th hb8
      have pr : RegAt w8 (w.heap.size + 1) r := ((HK1.out.th hb6).th hb67).th hb78
      have z18 : w6.heap.size < w8.heap.size := p18.1
      have z21 : w7.heap.size < w8.heap.size := p21.1
      have zr : w.heap.size + 1 < w8.heap.size := pr.1
      have z18' : w6.heap.size < w8.heap.size + 1 := by omega
      have z21' : w7.heap.size < w8.heap.size + 1 := by omega
      have zr' : w.heap.size + 1 < w8.heap.size + 1 := by omega
      clear c0 c1 c2 c3
      have p0 : w8.cell? ⟨w6.heap.size, 0, none⟩ = some (.int .i64 ya) := (p18.2 0 (by omega)).1
      have p1 : w8.cell? ⟨w6.heap.size, 1, none⟩ = some (.int .i64 yb) := (p18.2 1 (by omega)).1
      have p2 : w8.cell? ⟨w6.heap.size, 2, none⟩ = some (.int .i64 yc) := (p18.2 2 (by omega)).1
      have p3 : w8.cell? ⟨w6.heap.size, 3, none⟩ = some (.int .i64 yd) := (p18.2 3 (by omega)).1
      have q0 : w8.cell? ⟨w7.heap.size, 0, none⟩ = some (.int .i64 ya) := (p21.2 0 (by omega)).1
      have q1 : w8.cell? ⟨w7.heap.size, 1, none⟩ = some (.int .i64 yb) := (p21.2 1 (by omega)).1
      have q2 : w8.cell? ⟨w7.heap.size, 2, none⟩ = some (.int .i64 yc) := (p21.2 2 (by omega)).1
      have q3 : w8.cell? ⟨w7.heap.size, 3, none⟩ = some (.int .i64 yd) := (p21.2 3 (by omega)).1
      have s0 : w8.cell? ⟨w.heap.size + 1, 0, none⟩ = some (.int .i64 r.a) := (pr.2 0 (by omega)).1
      have s1 : w8.cell? ⟨w.heap.size + 1, 1, none⟩ = some (.int .i64 r.b) := (pr.2 1 (by omega)).1
      have s2 : w8.cell? ⟨w.heap.size + 1, 2, none⟩ = some (.int .i64 r.c) := (pr.2 2 (by omega)).1
      have s3 : w8.cell? ⟨w.heap.size + 1, 3, none⟩ = some (.int .i64 r.d) := (pr.2 3 (by omega)).1
      have hreq := fun w => regs_eq ⟨ya, yb, yc, yd⟩ w
      have heqg := eqg38
      dsimp only at hreq
      clear p18 p21 pr
      go_wp2_with fail
      refine wp_region_aft_lit (by kernel_rfl) (by kernel_rfl) ?_
      repeat (go_big_quiet_step (first
        | (go_at_call 10; exact Calls.aft_of _ (told_any _))
        | (go_at_call 20; exact Calls.aft_of _ (addr_any _ _ _ _ _ r _))
        | (go_at_call 21; exact Calls.aft_of _ (raddr_any _ _ _ _ _ r _))))
      refine wpQuiet_nil ?_
      rintro _ ⟨z, rfl⟩
      go_wp2_with fail
      go_ret
      exact ⟨rfl, Bth (Bal (Bth (Bal (Bth (Bal (Bth hw5 hb6) _) hb7) _) hb8) _) z.h⟩
set_option maxRecDepth 100000 in
set_option maxHeartbeats 6400000 in
theorem law_next_q6z0 (k0 k1 k2 k3 n at' mate : Int) (raw : Bool) (r : Rg) (w : World) (dq : wrap64 ((IntKind.u64.wrap at').tmod 8) = 6)  (dz : (IntKind.u64.wrap at').tmod 9 = 0)  :
    Calls Try.prog 8 #[.agg #[.int .i64 k0, .int .i64 k1, .int .i64 k2, .int .i64 k3], .int .i64 n, .bool raw, .int .i64 at', .int .i64 mate, .agg #[.int .i64 r.a, .int .i64 r.b, .int .i64 r.c, .int .i64 r.d]] w fun e w' => e = .returned (.bool true) ∧ Below w.heap.size w w' := by
  obtain ⟨i0, hi, hz00, hz1, hz2⟩ := info_parts info3
  have R0 : RegAt ((w.alloc (.cells #[.int .i64 k0, .int .i64 k1, .int .i64 k2, .int .i64 k3] 22)).alloc (.cells #[.int .i64 r.a, .int .i64 r.b, .int .i64 r.c, .int .i64 r.d] 38)) w.heap.size ⟨k0, k1, k2, k3⟩ := regBox w ⟨k0, k1, k2, k3⟩ 22 _
  have R1 : RegAt ((w.alloc (.cells #[.int .i64 k0, .int .i64 k1, .int .i64 k2, .int .i64 k3] 22)).alloc (.cells #[.int .i64 r.a, .int .i64 r.b, .int .i64 r.c, .int .i64 r.d] 38)) (w.heap.size + 1) r := regNew' _ _ (by simp) r 38
  have HR0 := Lib.hid R0
  have HR1 := Lib.hid R1
  clear R0 R1
  have hmk6 := fun w => make6 w
  go_enter Try.func8, Try.ntmps8
  go_wp2_with fail
  clear hmk6
  go_loopw [14] (fun i wr => ∃ (k : Nat) (l : List Ins), k ≤ 6 ∧ i = .int .i64 k ∧ Hid (l.length = 6) ∧ wr.ownsRow (w.heap.size + 1 + 1) 24 5 (.slice (some ⟨w.heap.size + 1 + 1, 0, none⟩) 6 6) 6 (insCells l) ∧ Below (w.heap.size + 1 + 1) ((w.alloc (.cells #[.int .i64 k0, .int .i64 k1, .int .i64 k2, .int .i64 k3] 22)).alloc (.cells #[.int .i64 r.a, .int .i64 r.b, .int .i64 r.c, .int .i64 r.d] 38)) wr) (fun i _ => 6 - (intOf i).toNat)
  case atStart =>
    refine ⟨0, List.replicate 6 ⟨0, 0, 0, 0, 0⟩, by omega, rfl, rfl, ?_, (Below.refl _ _).alloc (by simp) _⟩
    exact own_new _ _ (by simp) _ _ rfl (by unfold maxLen; simp)
  case round =>
    obtain ⟨k, l, hk, rfl, hl, hown, hbel⟩ := hrel
    have HP := Lib.hid hown
    clear hown
    by_cases hlt : k < 6
    · obtain ⟨p, hp⟩ : ∃ p, l[k]? = some p := ⟨_, List.getElem?_eq_getElem (by rw [hl.out]; exact hlt)⟩
      have c0 : wr.cell? ⟨w.heap.size + 1 + 1, k * 5, none⟩ = some (.int .i64 p.op) := by rw [HP.out.cellAt (k * 5) (by omega)]; exact insCells_get _ k _ hp 0 (by omega)
      have cf0 : wr.frozen? ⟨w.heap.size + 1 + 1, k * 5, none⟩ = false := HP.out.frozenAt _
      have c1 : wr.cell? ⟨w.heap.size + 1 + 1, k * 5 + 1, none⟩ = some (.int .i64 p.a) := by rw [HP.out.cellAt (k * 5 + 1) (by omega)]; exact insCells_get _ k _ hp 1 (by omega)
      have cf1 : wr.frozen? ⟨w.heap.size + 1 + 1, k * 5 + 1, none⟩ = false := HP.out.frozenAt _
      have c2 : wr.cell? ⟨w.heap.size + 1 + 1, k * 5 + 2, none⟩ = some (.int .i64 p.b) := by rw [HP.out.cellAt (k * 5 + 2) (by omega)]; exact insCells_get _ k _ hp 2 (by omega)
      have cf2 : wr.frozen? ⟨w.heap.size + 1 + 1, k * 5 + 2, none⟩ = false := HP.out.frozenAt _
      have c3 : wr.cell? ⟨w.heap.size + 1 + 1, k * 5 + 3, none⟩ = some (.int .i64 p.c) := by rw [HP.out.cellAt (k * 5 + 3) (by omega)]; exact insCells_get _ k _ hp 3 (by omega)
      have cf3 : wr.frozen? ⟨w.heap.size + 1 + 1, k * 5 + 3, none⟩ = false := HP.out.frozenAt _
      have c4 : wr.cell? ⟨w.heap.size + 1 + 1, k * 5 + 4, none⟩ = some (.int .i64 p.n) := by rw [HP.out.cellAt (k * 5 + 4) (by omega)]; exact insCells_get _ k _ hp 4 (by omega)
      have cf4 : wr.frozen? ⟨w.heap.size + 1 + 1, k * 5 + 4, none⟩ = false := HP.out.frozenAt _
      have HN := Lib.hid (own_ins HP.out k p hp 20 0 0 0 0)
      clear hp
      go_wp2_with fail
      exact ⟨⟨k + 1, l.set k ⟨20, 0, 0, 0, 0⟩, by omega, by go_num, by show _ = _; rw [List.length_set]; exact hl.out, HN.out, B5 hbel (Nat.le_refl _) _ _ _ _ _ _ _ _ _ _⟩, by (simp [intOf]) <;> omega⟩
    · have hbz := hbel.size
      simp only [World.size_alloc] at hbz
      have hb0 : Below w.heap.size w wr := (Bal (Bal (Bre w) _) _).trans (hbel.mono (by omega))
      have thR : ∀ g r', g < w.heap.size + 1 + 1 → RegAt ((w.alloc (.cells #[.int .i64 k0, .int .i64 k1, .int .i64 k2, .int .i64 k3] 22)).alloc (.cells #[.int .i64 r.a, .int .i64 r.b, .int .i64 r.c, .int .i64 r.d] 38)) g r' → RegAt wr g r' := fun g r' hg h => ⟨by omega, fun j hj => ⟨(hbel.cell (p := ⟨g, j, none⟩) hg).trans (h.2 j hj).1, (hbel.frozen (p := ⟨g, j, none⟩) hg).trans (h.2 j hj).2⟩⟩
      have K0 := Lib.hid (thR _ _ (by omega) HR0.out)
      have K1 := Lib.hid (thR _ _ (by omega) HR1.out)
      clear thR HR0 HR1 hbel hk
      have HN := HP
      have hln := hl
      have hbA := hb0
      have K0' := K0
      have K1' := K1
      clear K0 K1
      go_upto_region 9 with fail
      have HI : Hid (InsAt wr (.slice (some ⟨w.heap.size + 1 + 1, 0, none⟩) 6 6) l) := by
        have := HN.out
        rw [← hln.out] at this
        have := InsAt.own this
        rw [hln.out] at this
        exact this
      clear HN HP
      generalize wr = W2 at *
      generalize l = l2 at *
      go_upto_region 10 with fail
      have hm3 : (W2.alloc (.cells #[.int .i64 (-1), .int .i64 (-1), .int .i64 (-1), .int .i64 (-1), .int .i64 (-1)] 3)).ownsRow W2.heap.size 3 1 (.slice (some ⟨W2.heap.size, 0, none⟩) 5 5) 5 ([(-1 : Int), -1, -1, -1, -1].map (Value.int .i64)) := World.ownsRow_lit (base := W2.heap.size) (e := 3) W2 #[.int .i64 (-1), .int .i64 (-1), .int .i64 (-1), .int .i64 (-1), .int .i64 (-1)] 5 (Nat.le_refl _) (by unfold maxLen; omega) rfl
      have hb3 : Below W2.heap.size W2 (W2.alloc (.cells #[.int .i64 (-1), .int .i64 (-1), .int .i64 (-1), .int .i64 (-1), .int .i64 (-1)] 3)) := Bal (Bre _) _
      generalize W2.alloc (.cells #[.int .i64 (-1), .int .i64 (-1), .int .i64 (-1), .int .i64 (-1), .int .i64 (-1)] 3) = W3 at hm3 hb3 ⊢
      have HM3 := Lib.hid hm3
      have hs3 := hb3.size
      clear hm3
      obtain ⟨zs, hzs⟩ : ∃ zs : List Int, zs = [(-1 : Int), -1, -1, -1, -1] := ⟨_, rfl⟩
      have hzl : Hid (zs.length = 5) := by rw [hzs]; rfl
      have HM : Hid (W3.ownsRow W2.heap.size 3 1 (.slice (some ⟨W2.heap.size, 0, none⟩) 5 5) 5 (zs.map (Value.int .i64))) := by rw [hzs]; exact HM3.out
      clear hzs HM3
      go_upto_region 18 with fail
      have HM5 := HM
      have hb5 := hb3
      have hz5 := hzl
      generalize W3 = W5 at HM5 hb5 ⊢
      generalize zs = zl at HM5 hz5
      have hr5 : RegAt W5 (w.heap.size + 1) r := K1'.out.th hb5
      have HK0 : Hid (RegAt W5 w.heap.size ⟨k0, k1, k2, k3⟩) := K0'.out.th hb5
      have HK1 := Lib.hid hr5
      have HI5 : Hid (InsAt W5 (.slice (some ⟨w.heap.size + 1 + 1, 0, none⟩) 6 6) l2) := HI.out.th hb5
      have HJ5 : Hid (IntsAt W5 (.slice (some ⟨W2.heap.size, 0, none⟩) 5 5) zl) := by
        have := HM5.out
        rw [← hz5.out] at this
        have := IntsAt.own this
        rw [hz5.out] at this
        exact this
      have hw5 : Below w.heap.size w W5 := hbA.trans (hb5.mono hbA.size)
      have hgz : w.heap.size + 1 < W5.heap.size := hr5.1
      have HLN : Hid (l2.length = 6) := hln
      have c0 : W5.cell? ⟨w.heap.size + 1, 0, none⟩ = some (.int .i64 r.a) := (hr5.2 0 (by omega)).1
      have c1 : W5.cell? ⟨w.heap.size + 1, 1, none⟩ = some (.int .i64 r.b) := (hr5.2 1 (by omega)).1
      have c2 : W5.cell? ⟨w.heap.size + 1, 2, none⟩ = some (.int .i64 r.c) := (hr5.2 2 (by omega)).1
      have c3 : W5.cell? ⟨w.heap.size + 1, 3, none⟩ = some (.int .i64 r.d) := (hr5.2 3 (by omega)).1
      clear hr5 hln
      go_wp2_with fail
      refine (next_any l2 _ _ zl _ r _ (by rw [HLN.out]; omega) HI5.out HJ5.out).mono ?_
      rintro e w6 ⟨rfl, hb6⟩
      generalize hX : nextF l2 zl 6 r = X
      have HX := Lib.hid hX
      clear hX
      obtain ⟨xa, ⟨ya, yb, yc, yd⟩, xo⟩ := X
      unfold outV
      dsimp only
      have hr6 : RegAt w6 (w.heap.size + 1) r := HK1.out.th hb6
      have hgz6 : w.heap.size + 1 < w6.heap.size := hr6.1
      clear c0 c1 c2 c3
      have c0 : w6.cell? ⟨w.heap.size + 1, 0, none⟩ = some (.int .i64 r.a) := (hr6.2 0 (by omega)).1
      have c1 : w6.cell? ⟨w.heap.size + 1, 1, none⟩ = some (.int .i64 r.b) := (hr6.2 1 (by omega)).1
      have c2 : w6.cell? ⟨w.heap.size + 1, 2, none⟩ = some (.int .i64 r.c) := (hr6.2 2 (by omega)).1
      have c3 : w6.cell? ⟨w.heap.size + 1, 3, none⟩ = some (.int .i64 r.d) := (hr6.2 3 (by omega)).1
      clear hr6
      go_wp2_with fail
      refine (rnext_any l2 _ _ zl _ r _ (by rw [HLN.out]; omega) ((HI5.out.th hb6).th (Bal (Bre _) _)) ((HJ5.out.th hb6).th (Bal (Bre _) _))).mono ?_
      rintro e w7 ⟨rfl, hb7⟩
      rw [HX.out]
      unfold outV
      dsimp only
      have hb67 : Below w6.heap.size w6 w7 := Bth (Bal (Bre _) _) hb7
      have R18 : Hid (RegAt w7 w6.heap.size ⟨ya, yb, yc, yd⟩) := (regNew w6 ⟨ya, yb, yc, yd⟩ 38).th hb7
      have hk7 : RegAt w7 w.heap.size ⟨k0, k1, k2, k3⟩ := (HK0.out.th hb6).th hb67
      have hgz7 : w.heap.size < w7.heap.size := hk7.1
      clear c0 c1 c2 c3
      have c0 : w7.cell? ⟨w.heap.size, 0, none⟩ = some (.int .i64 k0) := (hk7.2 0 (by omega)).1
      have c1 : w7.cell? ⟨w.heap.size, 1, none⟩ = some (.int .i64 k1) := (hk7.2 1 (by omega)).1
      have c2 : w7.cell? ⟨w.heap.size, 2, none⟩ = some (.int .i64 k2) := (hk7.2 2 (by omega)).1
      have c3 : w7.cell? ⟨w.heap.size, 3, none⟩ = some (.int .i64 k3) := (hk7.2 3 (by omega)).1
      clear hk7
      go_wp2_with fail
      refine (instr_any _ _ _ _ _ _ _).mono ?_
      rintro e w8 ⟨⟨jo2, ja2, jb2, jc2, jn2⟩, rfl, hb8⟩
      dsimp only
      have hb78 : Below w7.heap.size w7 w8 := Bth (Bal (Bre _) _) hb8
      have p18 : RegAt w8 w6.heap.size ⟨ya, yb, yc, yd⟩ := R18.out.th hb78
      have p21 : RegAt w8 w7.heap.size ⟨ya, yb, yc, yd⟩ := (regNew w7 ⟨ya, yb, yc, yd⟩ 38).th hb8
      have pr : RegAt w8 (w.heap.size + 1) r := ((HK1.out.th hb6).th hb67).th hb78
      have z18 : w6.heap.size < w8.heap.size := p18.1
      have z21 : w7.heap.size < w8.heap.size := p21.1
      have zr : w.heap.size + 1 < w8.heap.size := pr.1
      have z18' : w6.heap.size < w8.heap.size + 1 := by omega
      have z21' : w7.heap.size < w8.heap.size + 1 := by omega
      have zr' : w.heap.size + 1 < w8.heap.size + 1 := by omega
      clear c0 c1 c2 c3
      have p0 : w8.cell? ⟨w6.heap.size, 0, none⟩ = some (.int .i64 ya) := (p18.2 0 (by omega)).1
      have p1 : w8.cell? ⟨w6.heap.size, 1, none⟩ = some (.int .i64 yb) := (p18.2 1 (by omega)).1
      have p2 : w8.cell? ⟨w6.heap.size, 2, none⟩ = some (.int .i64 yc) := (p18.2 2 (by omega)).1
      have p3 : w8.cell? ⟨w6.heap.size, 3, none⟩ = some (.int .i64 yd) := (p18.2 3 (by omega)).1
      have q0 : w8.cell? ⟨w7.heap.size, 0, none⟩ = some (.int .i64 ya) := (p21.2 0 (by omega)).1
      have q1 : w8.cell? ⟨w7.heap.size, 1, none⟩ = some (.int .i64 yb) := (p21.2 1 (by omega)).1
      have q2 : w8.cell? ⟨w7.heap.size, 2, none⟩ = some (.int .i64 yc) := (p21.2 2 (by omega)).1
      have q3 : w8.cell? ⟨w7.heap.size, 3, none⟩ = some (.int .i64 yd) := (p21.2 3 (by omega)).1
      have s0 : w8.cell? ⟨w.heap.size + 1, 0, none⟩ = some (.int .i64 r.a) := (pr.2 0 (by omega)).1
      have s1 : w8.cell? ⟨w.heap.size + 1, 1, none⟩ = some (.int .i64 r.b) := (pr.2 1 (by omega)).1
      have s2 : w8.cell? ⟨w.heap.size + 1, 2, none⟩ = some (.int .i64 r.c) := (pr.2 2 (by omega)).1
      have s3 : w8.cell? ⟨w.heap.size + 1, 3, none⟩ = some (.int .i64 r.d) := (pr.2 3 (by omega)).1
      have hreq := fun w => regs_eq ⟨ya, yb, yc, yd⟩ w
      have heqg := eqg38
      dsimp only at hreq
      clear p18 p21 pr
      go_wp2_with fail
      refine wp_region_aft_lit (by kernel_rfl) (by kernel_rfl) ?_
      repeat (go_big_quiet_step (first
        | (go_at_call 10; exact Calls.aft_of _ (told_any _))
        | (go_at_call 20; exact Calls.aft_of _ (addr_any _ _ _ _ _ r _))
        | (go_at_call 21; exact Calls.aft_of _ (raddr_any _ _ _ _ _ r _))))
      refine wpQuiet_nil ?_
      rintro _ ⟨z, rfl⟩
      go_wp2_with fail
      go_ret
      exact ⟨rfl, Bth (Bal (Bth (Bal (Bth (Bal (Bth hw5 hb6) _) hb7) _) hb8) _) z.h⟩
set_option maxRecDepth 100000 in
set_option maxHeartbeats 6400000 in
theorem law_next_q6z1 (k0 k1 k2 k3 n at' mate : Int) (raw : Bool) (r : Rg) (w : World) (dq : wrap64 ((IntKind.u64.wrap at').tmod 8) = 6)  (z : Int) (dz : (IntKind.u64.wrap at').tmod 9 = z) (hz0 : 0 < z)  :
    Calls Try.prog 8 #[.agg #[.int .i64 k0, .int .i64 k1, .int .i64 k2, .int .i64 k3], .int .i64 n, .bool raw, .int .i64 at', .int .i64 mate, .agg #[.int .i64 r.a, .int .i64 r.b, .int .i64 r.c, .int .i64 r.d]] w fun e w' => e = .returned (.bool true) ∧ Below w.heap.size w w' := by
  obtain ⟨i0, hi, hz00, hz1, hz2⟩ := info_parts info3
  have R0 : RegAt ((w.alloc (.cells #[.int .i64 k0, .int .i64 k1, .int .i64 k2, .int .i64 k3] 22)).alloc (.cells #[.int .i64 r.a, .int .i64 r.b, .int .i64 r.c, .int .i64 r.d] 38)) w.heap.size ⟨k0, k1, k2, k3⟩ := regBox w ⟨k0, k1, k2, k3⟩ 22 _
  have R1 : RegAt ((w.alloc (.cells #[.int .i64 k0, .int .i64 k1, .int .i64 k2, .int .i64 k3] 22)).alloc (.cells #[.int .i64 r.a, .int .i64 r.b, .int .i64 r.c, .int .i64 r.d] 38)) (w.heap.size + 1) r := regNew' _ _ (by simp) r 38
  have HR0 := Lib.hid R0
  have HR1 := Lib.hid R1
  clear R0 R1
  have hmk6 := fun w => make6 w
  go_enter Try.func8, Try.ntmps8
  go_wp2_with fail
  clear hmk6
  go_loopw [14] (fun i wr => ∃ (k : Nat) (l : List Ins), k ≤ 6 ∧ i = .int .i64 k ∧ Hid (l.length = 6) ∧ wr.ownsRow (w.heap.size + 1 + 1) 24 5 (.slice (some ⟨w.heap.size + 1 + 1, 0, none⟩) 6 6) 6 (insCells l) ∧ Below (w.heap.size + 1 + 1) ((w.alloc (.cells #[.int .i64 k0, .int .i64 k1, .int .i64 k2, .int .i64 k3] 22)).alloc (.cells #[.int .i64 r.a, .int .i64 r.b, .int .i64 r.c, .int .i64 r.d] 38)) wr) (fun i _ => 6 - (intOf i).toNat)
  case atStart =>
    refine ⟨0, List.replicate 6 ⟨0, 0, 0, 0, 0⟩, by omega, rfl, rfl, ?_, (Below.refl _ _).alloc (by simp) _⟩
    exact own_new _ _ (by simp) _ _ rfl (by unfold maxLen; simp)
  case round =>
    obtain ⟨k, l, hk, rfl, hl, hown, hbel⟩ := hrel
    have HP := Lib.hid hown
    clear hown
    by_cases hlt : k < 6
    · obtain ⟨p, hp⟩ : ∃ p, l[k]? = some p := ⟨_, List.getElem?_eq_getElem (by rw [hl.out]; exact hlt)⟩
      have c0 : wr.cell? ⟨w.heap.size + 1 + 1, k * 5, none⟩ = some (.int .i64 p.op) := by rw [HP.out.cellAt (k * 5) (by omega)]; exact insCells_get _ k _ hp 0 (by omega)
      have cf0 : wr.frozen? ⟨w.heap.size + 1 + 1, k * 5, none⟩ = false := HP.out.frozenAt _
      have c1 : wr.cell? ⟨w.heap.size + 1 + 1, k * 5 + 1, none⟩ = some (.int .i64 p.a) := by rw [HP.out.cellAt (k * 5 + 1) (by omega)]; exact insCells_get _ k _ hp 1 (by omega)
      have cf1 : wr.frozen? ⟨w.heap.size + 1 + 1, k * 5 + 1, none⟩ = false := HP.out.frozenAt _
      have c2 : wr.cell? ⟨w.heap.size + 1 + 1, k * 5 + 2, none⟩ = some (.int .i64 p.b) := by rw [HP.out.cellAt (k * 5 + 2) (by omega)]; exact insCells_get _ k _ hp 2 (by omega)
      have cf2 : wr.frozen? ⟨w.heap.size + 1 + 1, k * 5 + 2, none⟩ = false := HP.out.frozenAt _
      have c3 : wr.cell? ⟨w.heap.size + 1 + 1, k * 5 + 3, none⟩ = some (.int .i64 p.c) := by rw [HP.out.cellAt (k * 5 + 3) (by omega)]; exact insCells_get _ k _ hp 3 (by omega)
      have cf3 : wr.frozen? ⟨w.heap.size + 1 + 1, k * 5 + 3, none⟩ = false := HP.out.frozenAt _
      have c4 : wr.cell? ⟨w.heap.size + 1 + 1, k * 5 + 4, none⟩ = some (.int .i64 p.n) := by rw [HP.out.cellAt (k * 5 + 4) (by omega)]; exact insCells_get _ k _ hp 4 (by omega)
      have cf4 : wr.frozen? ⟨w.heap.size + 1 + 1, k * 5 + 4, none⟩ = false := HP.out.frozenAt _
      have HN := Lib.hid (own_ins HP.out k p hp 20 0 0 0 0)
      clear hp
      go_wp2_with fail
      exact ⟨⟨k + 1, l.set k ⟨20, 0, 0, 0, 0⟩, by omega, by go_num, by show _ = _; rw [List.length_set]; exact hl.out, HN.out, B5 hbel (Nat.le_refl _) _ _ _ _ _ _ _ _ _ _⟩, by (simp [intOf]) <;> omega⟩
    · have hbz := hbel.size
      simp only [World.size_alloc] at hbz
      have hb0 : Below w.heap.size w wr := (Bal (Bal (Bre w) _) _).trans (hbel.mono (by omega))
      have thR : ∀ g r', g < w.heap.size + 1 + 1 → RegAt ((w.alloc (.cells #[.int .i64 k0, .int .i64 k1, .int .i64 k2, .int .i64 k3] 22)).alloc (.cells #[.int .i64 r.a, .int .i64 r.b, .int .i64 r.c, .int .i64 r.d] 38)) g r' → RegAt wr g r' := fun g r' hg h => ⟨by omega, fun j hj => ⟨(hbel.cell (p := ⟨g, j, none⟩) hg).trans (h.2 j hj).1, (hbel.frozen (p := ⟨g, j, none⟩) hg).trans (h.2 j hj).2⟩⟩
      have K0 := Lib.hid (thR _ _ (by omega) HR0.out)
      have K1 := Lib.hid (thR _ _ (by omega) HR1.out)
      clear thR HR0 HR1 hbel hk
      have HN := HP
      have hln := hl
      have hbA := hb0
      have K0' := K0
      have K1' := K1
      clear K0 K1
      go_upto_region 9 with fail
      have HI : Hid (InsAt wr (.slice (some ⟨w.heap.size + 1 + 1, 0, none⟩) 6 6) l) := by
        have := HN.out
        rw [← hln.out] at this
        have := InsAt.own this
        rw [hln.out] at this
        exact this
      clear HN HP
      generalize wr = W2 at *
      generalize l = l2 at *
      go_upto_region 10 with fail
      have hm3 : (W2.alloc (.cells #[.int .i64 (-1), .int .i64 (-1), .int .i64 (-1), .int .i64 (-1), .int .i64 (-1)] 3)).ownsRow W2.heap.size 3 1 (.slice (some ⟨W2.heap.size, 0, none⟩) 5 5) 5 ([(-1 : Int), -1, -1, -1, -1].map (Value.int .i64)) := World.ownsRow_lit (base := W2.heap.size) (e := 3) W2 #[.int .i64 (-1), .int .i64 (-1), .int .i64 (-1), .int .i64 (-1), .int .i64 (-1)] 5 (Nat.le_refl _) (by unfold maxLen; omega) rfl
      have hb3 : Below W2.heap.size W2 (W2.alloc (.cells #[.int .i64 (-1), .int .i64 (-1), .int .i64 (-1), .int .i64 (-1), .int .i64 (-1)] 3)) := Bal (Bre _) _
      generalize W2.alloc (.cells #[.int .i64 (-1), .int .i64 (-1), .int .i64 (-1), .int .i64 (-1), .int .i64 (-1)] 3) = W3 at hm3 hb3 ⊢
      have HM3 := Lib.hid hm3
      have hs3 := hb3.size
      clear hm3
      go_upto_region 12 with (at_builtin; refine wpList_append_own _ rfl (.tmp 51) (.tmp 52) 31 rfl W2.heap.size 3 i0 _ 1 8 Try.underlying31 hi hz00 hz1 hz2 rfl (by omega) _ 5 _ rfl (HM3.out.alloc _) ⟨W3.heap.size, 0, none⟩ 1 1 [.int .i64 (-1)] rfl rfl (news1' W3 _ _) (by simp [Value.oneCell']) (by unfold maxLen; omega) (by omega) (by simp; omega) ?_; intro v' w4 hown' hgrow _)
      have hb4 : Below W2.heap.size W2 w4 := (Bal hb3 _).grown hgrow (Bal hb3 _).size (fun g hg => (HM3.out.lt g hg).1)
      obtain ⟨g2, c4, rfl⟩ : ∃ g2 c4, v' = .slice (some ⟨g2, 0, none⟩) 6 c4 := by
        rcases hown'.2 with ⟨_, h0⟩ | ⟨g, cap', cur, rfl, _⟩
        · omega
        · exact ⟨_, _, rfl⟩
      obtain ⟨zs, hzs⟩ : ∃ zs : List Int, zs = [(-1 : Int), -1, -1, -1, -1, -1] := ⟨_, rfl⟩
      have hzl : Hid (zs.length = 6) := by rw [hzs]; rfl
      have HM : Hid (w4.ownsRow W2.heap.size 3 1 (.slice (some ⟨g2, 0, none⟩) 6 c4) 6 (zs.map (Value.int .i64))) := by rw [hzs]; exact hown'
      clear hzs HM3 hown' hgrow
      go_upto_region 18 with fail
      have HM5 := HM
      have hb5 := hb4
      have hz5 := hzl
      generalize w4 = W5 at HM5 hb5 ⊢
      generalize zs = zl at HM5 hz5
      have hr5 : RegAt W5 (w.heap.size + 1) r := K1'.out.th hb5
      have HK0 : Hid (RegAt W5 w.heap.size ⟨k0, k1, k2, k3⟩) := K0'.out.th hb5
      have HK1 := Lib.hid hr5
      have HI5 : Hid (InsAt W5 (.slice (some ⟨w.heap.size + 1 + 1, 0, none⟩) 6 6) l2) := HI.out.th hb5
      have HJ5 : Hid (IntsAt W5 (.slice (some ⟨g2, 0, none⟩) 6 c4) zl) := by
        have := HM5.out
        rw [← hz5.out] at this
        have := IntsAt.own this
        rw [hz5.out] at this
        exact this
      have hw5 : Below w.heap.size w W5 := hbA.trans (hb5.mono hbA.size)
      have hgz : w.heap.size + 1 < W5.heap.size := hr5.1
      have HLN : Hid (l2.length = 6) := hln
      have c0 : W5.cell? ⟨w.heap.size + 1, 0, none⟩ = some (.int .i64 r.a) := (hr5.2 0 (by omega)).1
      have c1 : W5.cell? ⟨w.heap.size + 1, 1, none⟩ = some (.int .i64 r.b) := (hr5.2 1 (by omega)).1
      have c2 : W5.cell? ⟨w.heap.size + 1, 2, none⟩ = some (.int .i64 r.c) := (hr5.2 2 (by omega)).1
      have c3 : W5.cell? ⟨w.heap.size + 1, 3, none⟩ = some (.int .i64 r.d) := (hr5.2 3 (by omega)).1
      clear hr5 hln
      go_wp2_with fail
      refine (next_any l2 _ _ zl _ r _ (by rw [HLN.out]; omega) HI5.out HJ5.out).mono ?_
      rintro e w6 ⟨rfl, hb6⟩
      generalize hX : nextF l2 zl 6 r = X
      have HX := Lib.hid hX
      clear hX
      obtain ⟨xa, ⟨ya, yb, yc, yd⟩, xo⟩ := X
      unfold outV
      dsimp only
      have hr6 : RegAt w6 (w.heap.size + 1) r := HK1.out.th hb6
      have hgz6 : w.heap.size + 1 < w6.heap.size := hr6.1
      clear c0 c1 c2 c3
      have c0 : w6.cell? ⟨w.heap.size + 1, 0, none⟩ = some (.int .i64 r.a) := (hr6.2 0 (by omega)).1
      have c1 : w6.cell? ⟨w.heap.size + 1, 1, none⟩ = some (.int .i64 r.b) := (hr6.2 1 (by omega)).1
      have c2 : w6.cell? ⟨w.heap.size + 1, 2, none⟩ = some (.int .i64 r.c) := (hr6.2 2 (by omega)).1
      have c3 : w6.cell? ⟨w.heap.size + 1, 3, none⟩ = some (.int .i64 r.d) := (hr6.2 3 (by omega)).1
      clear hr6
      go_wp2_with fail
      refine (rnext_any l2 _ _ zl _ r _ (by rw [HLN.out]; omega) ((HI5.out.th hb6).th (Bal (Bre _) _)) ((HJ5.out.th hb6).th (Bal (Bre _) _))).mono ?_
      rintro e w7 ⟨rfl, hb7⟩
      rw [HX.out]
      unfold outV
      dsimp only
      have hb67 : Below w6.heap.size w6 w7 := Bth (Bal (Bre _) _) hb7
      have R18 : Hid (RegAt w7 w6.heap.size ⟨ya, yb, yc, yd⟩) := (regNew w6 ⟨ya, yb, yc, yd⟩ 38).th hb7
      have hk7 : RegAt w7 w.heap.size ⟨k0, k1, k2, k3⟩ := (HK0.out.th hb6).th hb67
      have hgz7 : w.heap.size < w7.heap.size := hk7.1
      clear c0 c1 c2 c3
      have c0 : w7.cell? ⟨w.heap.size, 0, none⟩ = some (.int .i64 k0) := (hk7.2 0 (by omega)).1
      have c1 : w7.cell? ⟨w.heap.size, 1, none⟩ = some (.int .i64 k1) := (hk7.2 1 (by omega)).1
      have c2 : w7.cell? ⟨w.heap.size, 2, none⟩ = some (.int .i64 k2) := (hk7.2 2 (by omega)).1
      have c3 : w7.cell? ⟨w.heap.size, 3, none⟩ = some (.int .i64 k3) := (hk7.2 3 (by omega)).1
      clear hk7
      go_wp2_with fail
      refine (instr_any _ _ _ _ _ _ _).mono ?_
      rintro e w8 ⟨⟨jo2, ja2, jb2, jc2, jn2⟩, rfl, hb8⟩
      dsimp only
      have hb78 : Below w7.heap.size w7 w8 := Bth (Bal (Bre _) _) hb8
      have p18 : RegAt w8 w6.heap.size ⟨ya, yb, yc, yd⟩ := R18.out.th hb78
      have p21 : RegAt w8 w7.heap.size ⟨ya, yb, yc, yd⟩ := (regNew w7 ⟨ya, yb, yc, yd⟩ 38).th hb8
      have pr : RegAt w8 (w.heap.size + 1) r := ((HK1.out.th hb6).th hb67).th hb78
      have z18 : w6.heap.size < w8.heap.size := p18.1
      have z21 : w7.heap.size < w8.heap.size := p21.1
      have zr : w.heap.size + 1 < w8.heap.size := pr.1
      have z18' : w6.heap.size < w8.heap.size + 1 := by omega
      have z21' : w7.heap.size < w8.heap.size + 1 := by omega
      have zr' : w.heap.size + 1 < w8.heap.size + 1 := by omega
      clear c0 c1 c2 c3
      have p0 : w8.cell? ⟨w6.heap.size, 0, none⟩ = some (.int .i64 ya) := (p18.2 0 (by omega)).1
      have p1 : w8.cell? ⟨w6.heap.size, 1, none⟩ = some (.int .i64 yb) := (p18.2 1 (by omega)).1
      have p2 : w8.cell? ⟨w6.heap.size, 2, none⟩ = some (.int .i64 yc) := (p18.2 2 (by omega)).1
      have p3 : w8.cell? ⟨w6.heap.size, 3, none⟩ = some (.int .i64 yd) := (p18.2 3 (by omega)).1
      have q0 : w8.cell? ⟨w7.heap.size, 0, none⟩ = some (.int .i64 ya) := (p21.2 0 (by omega)).1
      have q1 : w8.cell? ⟨w7.heap.size, 1, none⟩ = some (.int .i64 yb) := (p21.2 1 (by omega)).1
      have q2 : w8.cell? ⟨w7.heap.size, 2, none⟩ = some (.int .i64 yc) := (p21.2 2 (by omega)).1
      have q3 : w8.cell? ⟨w7.heap.size, 3, none⟩ = some (.int .i64 yd) := (p21.2 3 (by omega)).1
      have s0 : w8.cell? ⟨w.heap.size + 1, 0, none⟩ = some (.int .i64 r.a) := (pr.2 0 (by omega)).1
      have s1 : w8.cell? ⟨w.heap.size + 1, 1, none⟩ = some (.int .i64 r.b) := (pr.2 1 (by omega)).1
      have s2 : w8.cell? ⟨w.heap.size + 1, 2, none⟩ = some (.int .i64 r.c) := (pr.2 2 (by omega)).1
      have s3 : w8.cell? ⟨w.heap.size + 1, 3, none⟩ = some (.int .i64 r.d) := (pr.2 3 (by omega)).1
      have hreq := fun w => regs_eq ⟨ya, yb, yc, yd⟩ w
      have heqg := eqg38
      dsimp only at hreq
      clear p18 p21 pr
      go_wp2_with fail
      refine wp_region_aft_lit (by kernel_rfl) (by kernel_rfl) ?_
      repeat (go_big_quiet_step (first
        | (go_at_call 10; exact Calls.aft_of _ (told_any _))
        | (go_at_call 20; exact Calls.aft_of _ (addr_any _ _ _ _ _ r _))
        | (go_at_call 21; exact Calls.aft_of _ (raddr_any _ _ _ _ _ r _))))
      refine wpQuiet_nil ?_
      rintro _ ⟨z, rfl⟩
      go_wp2_with fail
      go_ret
      exact ⟨rfl, Bth (Bal (Bth (Bal (Bth (Bal (Bth hw5 hb6) _) hb7) _) hb8) _) z.h⟩
set_option maxRecDepth 100000 in
set_option maxHeartbeats 6400000 in
theorem law_next_q7z0 (k0 k1 k2 k3 n at' mate : Int) (raw : Bool) (r : Rg) (w : World) (dq : wrap64 ((IntKind.u64.wrap at').tmod 8) = 7)  (dz : (IntKind.u64.wrap at').tmod 9 = 0)  :
    Calls Try.prog 8 #[.agg #[.int .i64 k0, .int .i64 k1, .int .i64 k2, .int .i64 k3], .int .i64 n, .bool raw, .int .i64 at', .int .i64 mate, .agg #[.int .i64 r.a, .int .i64 r.b, .int .i64 r.c, .int .i64 r.d]] w fun e w' => e = .returned (.bool true) ∧ Below w.heap.size w w' := by
  obtain ⟨i0, hi, hz00, hz1, hz2⟩ := info_parts info3
  have R0 : RegAt ((w.alloc (.cells #[.int .i64 k0, .int .i64 k1, .int .i64 k2, .int .i64 k3] 22)).alloc (.cells #[.int .i64 r.a, .int .i64 r.b, .int .i64 r.c, .int .i64 r.d] 38)) w.heap.size ⟨k0, k1, k2, k3⟩ := regBox w ⟨k0, k1, k2, k3⟩ 22 _
  have R1 : RegAt ((w.alloc (.cells #[.int .i64 k0, .int .i64 k1, .int .i64 k2, .int .i64 k3] 22)).alloc (.cells #[.int .i64 r.a, .int .i64 r.b, .int .i64 r.c, .int .i64 r.d] 38)) (w.heap.size + 1) r := regNew' _ _ (by simp) r 38
  have HR0 := Lib.hid R0
  have HR1 := Lib.hid R1
  clear R0 R1
  have hmk6 := fun w => make6 w
  go_enter Try.func8, Try.ntmps8
  go_wp2_with fail
  clear hmk6
  go_loopw [14] (fun i wr => ∃ (k : Nat) (l : List Ins), k ≤ 6 ∧ i = .int .i64 k ∧ Hid (l.length = 6) ∧ wr.ownsRow (w.heap.size + 1 + 1) 24 5 (.slice (some ⟨w.heap.size + 1 + 1, 0, none⟩) 6 6) 6 (insCells l) ∧ Below (w.heap.size + 1 + 1) ((w.alloc (.cells #[.int .i64 k0, .int .i64 k1, .int .i64 k2, .int .i64 k3] 22)).alloc (.cells #[.int .i64 r.a, .int .i64 r.b, .int .i64 r.c, .int .i64 r.d] 38)) wr) (fun i _ => 6 - (intOf i).toNat)
  case atStart =>
    refine ⟨0, List.replicate 6 ⟨0, 0, 0, 0, 0⟩, by omega, rfl, rfl, ?_, (Below.refl _ _).alloc (by simp) _⟩
    exact own_new _ _ (by simp) _ _ rfl (by unfold maxLen; simp)
  case round =>
    obtain ⟨k, l, hk, rfl, hl, hown, hbel⟩ := hrel
    have HP := Lib.hid hown
    clear hown
    by_cases hlt : k < 6
    · obtain ⟨p, hp⟩ : ∃ p, l[k]? = some p := ⟨_, List.getElem?_eq_getElem (by rw [hl.out]; exact hlt)⟩
      have c0 : wr.cell? ⟨w.heap.size + 1 + 1, k * 5, none⟩ = some (.int .i64 p.op) := by rw [HP.out.cellAt (k * 5) (by omega)]; exact insCells_get _ k _ hp 0 (by omega)
      have cf0 : wr.frozen? ⟨w.heap.size + 1 + 1, k * 5, none⟩ = false := HP.out.frozenAt _
      have c1 : wr.cell? ⟨w.heap.size + 1 + 1, k * 5 + 1, none⟩ = some (.int .i64 p.a) := by rw [HP.out.cellAt (k * 5 + 1) (by omega)]; exact insCells_get _ k _ hp 1 (by omega)
      have cf1 : wr.frozen? ⟨w.heap.size + 1 + 1, k * 5 + 1, none⟩ = false := HP.out.frozenAt _
      have c2 : wr.cell? ⟨w.heap.size + 1 + 1, k * 5 + 2, none⟩ = some (.int .i64 p.b) := by rw [HP.out.cellAt (k * 5 + 2) (by omega)]; exact insCells_get _ k _ hp 2 (by omega)
      have cf2 : wr.frozen? ⟨w.heap.size + 1 + 1, k * 5 + 2, none⟩ = false := HP.out.frozenAt _
      have c3 : wr.cell? ⟨w.heap.size + 1 + 1, k * 5 + 3, none⟩ = some (.int .i64 p.c) := by rw [HP.out.cellAt (k * 5 + 3) (by omega)]; exact insCells_get _ k _ hp 3 (by omega)
      have cf3 : wr.frozen? ⟨w.heap.size + 1 + 1, k * 5 + 3, none⟩ = false := HP.out.frozenAt _
      have c4 : wr.cell? ⟨w.heap.size + 1 + 1, k * 5 + 4, none⟩ = some (.int .i64 p.n) := by rw [HP.out.cellAt (k * 5 + 4) (by omega)]; exact insCells_get _ k _ hp 4 (by omega)
      have cf4 : wr.frozen? ⟨w.heap.size + 1 + 1, k * 5 + 4, none⟩ = false := HP.out.frozenAt _
      have HN := Lib.hid (own_ins HP.out k p hp 20 0 0 0 0)
      clear hp
      go_wp2_with fail
      exact ⟨⟨k + 1, l.set k ⟨20, 0, 0, 0, 0⟩, by omega, by go_num, by show _ = _; rw [List.length_set]; exact hl.out, HN.out, B5 hbel (Nat.le_refl _) _ _ _ _ _ _ _ _ _ _⟩, by (simp [intOf]) <;> omega⟩
    · have hbz := hbel.size
      simp only [World.size_alloc] at hbz
      have hb0 : Below w.heap.size w wr := (Bal (Bal (Bre w) _) _).trans (hbel.mono (by omega))
      have thR : ∀ g r', g < w.heap.size + 1 + 1 → RegAt ((w.alloc (.cells #[.int .i64 k0, .int .i64 k1, .int .i64 k2, .int .i64 k3] 22)).alloc (.cells #[.int .i64 r.a, .int .i64 r.b, .int .i64 r.c, .int .i64 r.d] 38)) g r' → RegAt wr g r' := fun g r' hg h => ⟨by omega, fun j hj => ⟨(hbel.cell (p := ⟨g, j, none⟩) hg).trans (h.2 j hj).1, (hbel.frozen (p := ⟨g, j, none⟩) hg).trans (h.2 j hj).2⟩⟩
      have K0 := Lib.hid (thR _ _ (by omega) HR0.out)
      have K1 := Lib.hid (thR _ _ (by omega) HR1.out)
      clear thR HR0 HR1 hbel hk
      have HN := HP
      have hln := hl
      have hbA := hb0
      have K0' := K0
      have K1' := K1
      clear K0 K1
      go_upto_region 9 with fail
      have HI : Hid (InsAt wr (.slice (some ⟨w.heap.size + 1 + 1, 0, none⟩) 6 6) l) := by
        have := HN.out
        rw [← hln.out] at this
        have := InsAt.own this
        rw [hln.out] at this
        exact this
      clear HN HP
      generalize wr = W2 at *
      generalize l = l2 at *
      go_upto_region 10 with fail
      have hm3 : (W2.alloc (.cells #[.int .i64 (-1), .int .i64 (-1), .int .i64 (-1), .int .i64 (-1), .int .i64 (-1)] 3)).ownsRow W2.heap.size 3 1 (.slice (some ⟨W2.heap.size, 0, none⟩) 5 5) 5 ([(-1 : Int), -1, -1, -1, -1].map (Value.int .i64)) := World.ownsRow_lit (base := W2.heap.size) (e := 3) W2 #[.int .i64 (-1), .int .i64 (-1), .int .i64 (-1), .int .i64 (-1), .int .i64 (-1)] 5 (Nat.le_refl _) (by unfold maxLen; omega) rfl
      have hb3 : Below W2.heap.size W2 (W2.alloc (.cells #[.int .i64 (-1), .int .i64 (-1), .int .i64 (-1), .int .i64 (-1), .int .i64 (-1)] 3)) := Bal (Bre _) _
      generalize W2.alloc (.cells #[.int .i64 (-1), .int .i64 (-1), .int .i64 (-1), .int .i64 (-1), .int .i64 (-1)] 3) = W3 at hm3 hb3 ⊢
      have HM3 := Lib.hid hm3
      have hs3 := hb3.size
      clear hm3
      obtain ⟨zs, hzs⟩ : ∃ zs : List Int, zs = [(-1 : Int), -1, -1, -1, -1] := ⟨_, rfl⟩
      have hzl : Hid (zs.length = 5) := by rw [hzs]; rfl
      have HM : Hid (W3.ownsRow W2.heap.size 3 1 (.slice (some ⟨W2.heap.size, 0, none⟩) 5 5) 5 (zs.map (Value.int .i64))) := by rw [hzs]; exact HM3.out
      clear hzs HM3
      go_upto_region 18 with fail
      have HM5 := HM
      have hb5 := hb3
      have hz5 := hzl
      generalize W3 = W5 at HM5 hb5 ⊢
      generalize zs = zl at HM5 hz5
      have hr5 : RegAt W5 (w.heap.size + 1) r := K1'.out.th hb5
      have HK0 : Hid (RegAt W5 w.heap.size ⟨k0, k1, k2, k3⟩) := K0'.out.th hb5
      have HK1 := Lib.hid hr5
      have HI5 : Hid (InsAt W5 (.slice (some ⟨w.heap.size + 1 + 1, 0, none⟩) 6 6) l2) := HI.out.th hb5
      have HJ5 : Hid (IntsAt W5 (.slice (some ⟨W2.heap.size, 0, none⟩) 5 5) zl) := by
        have := HM5.out
        rw [← hz5.out] at this
        have := IntsAt.own this
        rw [hz5.out] at this
        exact this
      have hw5 : Below w.heap.size w W5 := hbA.trans (hb5.mono hbA.size)
      have hgz : w.heap.size + 1 < W5.heap.size := hr5.1
      have HLN : Hid (l2.length = 6) := hln
      have c0 : W5.cell? ⟨w.heap.size + 1, 0, none⟩ = some (.int .i64 r.a) := (hr5.2 0 (by omega)).1
      have c1 : W5.cell? ⟨w.heap.size + 1, 1, none⟩ = some (.int .i64 r.b) := (hr5.2 1 (by omega)).1
      have c2 : W5.cell? ⟨w.heap.size + 1, 2, none⟩ = some (.int .i64 r.c) := (hr5.2 2 (by omega)).1
      have c3 : W5.cell? ⟨w.heap.size + 1, 3, none⟩ = some (.int .i64 r.d) := (hr5.2 3 (by omega)).1
      clear hr5 hln
      go_wp2_with fail
      refine (next_any l2 _ _ zl _ r _ (by rw [HLN.out]; omega) HI5.out HJ5.out).mono ?_
      rintro e w6 ⟨rfl, hb6⟩
      generalize hX : nextF l2 zl at' r = X
      have HX := Lib.hid hX
      clear hX
      obtain ⟨xa, ⟨ya, yb, yc, yd⟩, xo⟩ := X
      unfold outV
      dsimp only
      have hr6 : RegAt w6 (w.heap.size + 1) r := HK1.out.th hb6
      have hgz6 : w.heap.size + 1 < w6.heap.size := hr6.1
      clear c0 c1 c2 c3
      have c0 : w6.cell? ⟨w.heap.size + 1, 0, none⟩ = some (.int .i64 r.a) := (hr6.2 0 (by omega)).1
      have c1 : w6.cell? ⟨w.heap.size + 1, 1, none⟩ = some (.int .i64 r.b) := (hr6.2 1 (by omega)).1
      have c2 : w6.cell? ⟨w.heap.size + 1, 2, none⟩ = some (.int .i64 r.c) := (hr6.2 2 (by omega)).1
      have c3 : w6.cell? ⟨w.heap.size + 1, 3, none⟩ = some (.int .i64 r.d) := (hr6.2 3 (by omega)).1
      clear hr6
      go_wp2_with fail
      refine (rnext_any l2 _ _ zl _ r _ (by rw [HLN.out]; omega) ((HI5.out.th hb6).th (Bal (Bre _) _)) ((HJ5.out.th hb6).th (Bal (Bre _) _))).mono ?_
      rintro e w7 ⟨rfl, hb7⟩
      rw [HX.out]
      unfold outV
      dsimp only
      have hb67 : Below w6.heap.size w6 w7 := Bth (Bal (Bre _) _) hb7
      have R18 : Hid (RegAt w7 w6.heap.size ⟨ya, yb, yc, yd⟩) := (regNew w6 ⟨ya, yb, yc, yd⟩ 38).th hb7
      have hk7 : RegAt w7 w.heap.size ⟨k0, k1, k2, k3⟩ := (HK0.out.th hb6).th hb67
      have hgz7 : w.heap.size < w7.heap.size := hk7.1
      clear c0 c1 c2 c3
      have c0 : w7.cell? ⟨w.heap.size, 0, none⟩ = some (.int .i64 k0) := (hk7.2 0 (by omega)).1
      have c1 : w7.cell? ⟨w.heap.size, 1, none⟩ = some (.int .i64 k1) := (hk7.2 1 (by omega)).1
      have c2 : w7.cell? ⟨w.heap.size, 2, none⟩ = some (.int .i64 k2) := (hk7.2 2 (by omega)).1
      have c3 : w7.cell? ⟨w.heap.size, 3, none⟩ = some (.int .i64 k3) := (hk7.2 3 (by omega)).1
      clear hk7
      go_wp2_with fail
      refine (instr_any _ _ _ _ _ _ _).mono ?_
      rintro e w8 ⟨⟨jo2, ja2, jb2, jc2, jn2⟩, rfl, hb8⟩
      dsimp only
      have hb78 : Below w7.heap.size w7 w8 := Bth (Bal (Bre _) _) hb8
      have p18 : RegAt w8 w6.heap.size ⟨ya, yb, yc, yd⟩ := R18.out.th hb78
      have p21 : RegAt w8 w7.heap.size ⟨ya, yb, yc, yd⟩ := (regNew w7 ⟨ya, yb, yc, yd⟩ 38).th hb8
      have pr : RegAt w8 (w.heap.size + 1) r := ((HK1.out.th hb6).th hb67).th hb78
      have z18 : w6.heap.size < w8.heap.size := p18.1
      have z21 : w7.heap.size < w8.heap.size := p21.1
      have zr : w.heap.size + 1 < w8.heap.size := pr.1
      have z18' : w6.heap.size < w8.heap.size + 1 := by omega
      have z21' : w7.heap.size < w8.heap.size + 1 := by omega
      have zr' : w.heap.size + 1 < w8.heap.size + 1 := by omega
      clear c0 c1 c2 c3
      have p0 : w8.cell? ⟨w6.heap.size, 0, none⟩ = some (.int .i64 ya) := (p18.2 0 (by omega)).1
      have p1 : w8.cell? ⟨w6.heap.size, 1, none⟩ = some (.int .i64 yb) := (p18.2 1 (by omega)).1
      have p2 : w8.cell? ⟨w6.heap.size, 2, none⟩ = some (.int .i64 yc) := (p18.2 2 (by omega)).1
      have p3 : w8.cell? ⟨w6.heap.size, 3, none⟩ = some (.int .i64 yd) := (p18.2 3 (by omega)).1
      have q0 : w8.cell? ⟨w7.heap.size, 0, none⟩ = some (.int .i64 ya) := (p21.2 0 (by omega)).1
      have q1 : w8.cell? ⟨w7.heap.size, 1, none⟩ = some (.int .i64 yb) := (p21.2 1 (by omega)).1
      have q2 : w8.cell? ⟨w7.heap.size, 2, none⟩ = some (.int .i64 yc) := (p21.2 2 (by omega)).1
      have q3 : w8.cell? ⟨w7.heap.size, 3, none⟩ = some (.int .i64 yd) := (p21.2 3 (by omega)).1
      have s0 : w8.cell? ⟨w.heap.size + 1, 0, none⟩ = some (.int .i64 r.a) := (pr.2 0 (by omega)).1
      have s1 : w8.cell? ⟨w.heap.size + 1, 1, none⟩ = some (.int .i64 r.b) := (pr.2 1 (by omega)).1
      have s2 : w8.cell? ⟨w.heap.size + 1, 2, none⟩ = some (.int .i64 r.c) := (pr.2 2 (by omega)).1
      have s3 : w8.cell? ⟨w.heap.size + 1, 3, none⟩ = some (.int .i64 r.d) := (pr.2 3 (by omega)).1
      have hreq := fun w => regs_eq ⟨ya, yb, yc, yd⟩ w
      have heqg := eqg38
      dsimp only at hreq
      clear p18 p21 pr
      go_wp2_with fail
      refine wp_region_aft_lit (by kernel_rfl) (by kernel_rfl) ?_
      repeat (go_big_quiet_step (first
        | (go_at_call 10; exact Calls.aft_of _ (told_any _))
        | (go_at_call 20; exact Calls.aft_of _ (addr_any _ _ _ _ _ r _))
        | (go_at_call 21; exact Calls.aft_of _ (raddr_any _ _ _ _ _ r _))))
      refine wpQuiet_nil ?_
      rintro _ ⟨z, rfl⟩
      go_wp2_with fail
      go_ret
      exact ⟨rfl, Bth (Bal (Bth (Bal (Bth (Bal (Bth hw5 hb6) _) hb7) _) hb8) _) z.h⟩
set_option maxRecDepth 100000 in
set_option maxHeartbeats 6400000 in
theorem law_next_q7z1 (k0 k1 k2 k3 n at' mate : Int) (raw : Bool) (r : Rg) (w : World) (dq : wrap64 ((IntKind.u64.wrap at').tmod 8) = 7)  (z : Int) (dz : (IntKind.u64.wrap at').tmod 9 = z) (hz0 : 0 < z)  :
    Calls Try.prog 8 #[.agg #[.int .i64 k0, .int .i64 k1, .int .i64 k2, .int .i64 k3], .int .i64 n, .bool raw, .int .i64 at', .int .i64 mate, .agg #[.int .i64 r.a, .int .i64 r.b, .int .i64 r.c, .int .i64 r.d]] w fun e w' => e = .returned (.bool true) ∧ Below w.heap.size w w' := by
  obtain ⟨i0, hi, hz00, hz1, hz2⟩ := info_parts info3
  have R0 : RegAt ((w.alloc (.cells #[.int .i64 k0, .int .i64 k1, .int .i64 k2, .int .i64 k3] 22)).alloc (.cells #[.int .i64 r.a, .int .i64 r.b, .int .i64 r.c, .int .i64 r.d] 38)) w.heap.size ⟨k0, k1, k2, k3⟩ := regBox w ⟨k0, k1, k2, k3⟩ 22 _
  have R1 : RegAt ((w.alloc (.cells #[.int .i64 k0, .int .i64 k1, .int .i64 k2, .int .i64 k3] 22)).alloc (.cells #[.int .i64 r.a, .int .i64 r.b, .int .i64 r.c, .int .i64 r.d] 38)) (w.heap.size + 1) r := regNew' _ _ (by simp) r 38
  have HR0 := Lib.hid R0
  have HR1 := Lib.hid R1
  clear R0 R1
  have hmk6 := fun w => make6 w
  go_enter Try.func8, Try.ntmps8
  go_wp2_with fail
  clear hmk6
  go_loopw [14] (fun i wr => ∃ (k : Nat) (l : List Ins), k ≤ 6 ∧ i = .int .i64 k ∧ Hid (l.length = 6) ∧ wr.ownsRow (w.heap.size + 1 + 1) 24 5 (.slice (some ⟨w.heap.size + 1 + 1, 0, none⟩) 6 6) 6 (insCells l) ∧ Below (w.heap.size + 1 + 1) ((w.alloc (.cells #[.int .i64 k0, .int .i64 k1, .int .i64 k2, .int .i64 k3] 22)).alloc (.cells #[.int .i64 r.a, .int .i64 r.b, .int .i64 r.c, .int .i64 r.d] 38)) wr) (fun i _ => 6 - (intOf i).toNat)
  case atStart =>
    refine ⟨0, List.replicate 6 ⟨0, 0, 0, 0, 0⟩, by omega, rfl, rfl, ?_, (Below.refl _ _).alloc (by simp) _⟩
    exact own_new _ _ (by simp) _ _ rfl (by unfold maxLen; simp)
  case round =>
    obtain ⟨k, l, hk, rfl, hl, hown, hbel⟩ := hrel
    have HP := Lib.hid hown
    clear hown
    by_cases hlt : k < 6
    · obtain ⟨p, hp⟩ : ∃ p, l[k]? = some p := ⟨_, List.getElem?_eq_getElem (by rw [hl.out]; exact hlt)⟩
      have c0 : wr.cell? ⟨w.heap.size + 1 + 1, k * 5, none⟩ = some (.int .i64 p.op) := by rw [HP.out.cellAt (k * 5) (by omega)]; exact insCells_get _ k _ hp 0 (by omega)
      have cf0 : wr.frozen? ⟨w.heap.size + 1 + 1, k * 5, none⟩ = false := HP.out.frozenAt _
      have c1 : wr.cell? ⟨w.heap.size + 1 + 1, k * 5 + 1, none⟩ = some (.int .i64 p.a) := by rw [HP.out.cellAt (k * 5 + 1) (by omega)]; exact insCells_get _ k _ hp 1 (by omega)
      have cf1 : wr.frozen? ⟨w.heap.size + 1 + 1, k * 5 + 1, none⟩ = false := HP.out.frozenAt _
      have c2 : wr.cell? ⟨w.heap.size + 1 + 1, k * 5 + 2, none⟩ = some (.int .i64 p.b) := by rw [HP.out.cellAt (k * 5 + 2) (by omega)]; exact insCells_get _ k _ hp 2 (by omega)
      have cf2 : wr.frozen? ⟨w.heap.size + 1 + 1, k * 5 + 2, none⟩ = false := HP.out.frozenAt _
      have c3 : wr.cell? ⟨w.heap.size + 1 + 1, k * 5 + 3, none⟩ = some (.int .i64 p.c) := by rw [HP.out.cellAt (k * 5 + 3) (by omega)]; exact insCells_get _ k _ hp 3 (by omega)
      have cf3 : wr.frozen? ⟨w.heap.size + 1 + 1, k * 5 + 3, none⟩ = false := HP.out.frozenAt _
      have c4 : wr.cell? ⟨w.heap.size + 1 + 1, k * 5 + 4, none⟩ = some (.int .i64 p.n) := by rw [HP.out.cellAt (k * 5 + 4) (by omega)]; exact insCells_get _ k _ hp 4 (by omega)
      have cf4 : wr.frozen? ⟨w.heap.size + 1 + 1, k * 5 + 4, none⟩ = false := HP.out.frozenAt _
      have HN := Lib.hid (own_ins HP.out k p hp 20 0 0 0 0)
      clear hp
      go_wp2_with fail
      exact ⟨⟨k + 1, l.set k ⟨20, 0, 0, 0, 0⟩, by omega, by go_num, by show _ = _; rw [List.length_set]; exact hl.out, HN.out, B5 hbel (Nat.le_refl _) _ _ _ _ _ _ _ _ _ _⟩, by (simp [intOf]) <;> omega⟩
    · have hbz := hbel.size
      simp only [World.size_alloc] at hbz
      have hb0 : Below w.heap.size w wr := (Bal (Bal (Bre w) _) _).trans (hbel.mono (by omega))
      have thR : ∀ g r', g < w.heap.size + 1 + 1 → RegAt ((w.alloc (.cells #[.int .i64 k0, .int .i64 k1, .int .i64 k2, .int .i64 k3] 22)).alloc (.cells #[.int .i64 r.a, .int .i64 r.b, .int .i64 r.c, .int .i64 r.d] 38)) g r' → RegAt wr g r' := fun g r' hg h => ⟨by omega, fun j hj => ⟨(hbel.cell (p := ⟨g, j, none⟩) hg).trans (h.2 j hj).1, (hbel.frozen (p := ⟨g, j, none⟩) hg).trans (h.2 j hj).2⟩⟩
      have K0 := Lib.hid (thR _ _ (by omega) HR0.out)
      have K1 := Lib.hid (thR _ _ (by omega) HR1.out)
      clear thR HR0 HR1 hbel hk
      have HN := HP
      have hln := hl
      have hbA := hb0
      have K0' := K0
      have K1' := K1
      clear K0 K1
      go_upto_region 9 with fail
      have HI : Hid (InsAt wr (.slice (some ⟨w.heap.size + 1 + 1, 0, none⟩) 6 6) l) := by
        have := HN.out
        rw [← hln.out] at this
        have := InsAt.own this
        rw [hln.out] at this
        exact this
      clear HN HP
      generalize wr = W2 at *
      generalize l = l2 at *
      go_upto_region 10 with fail
      have hm3 : (W2.alloc (.cells #[.int .i64 (-1), .int .i64 (-1), .int .i64 (-1), .int .i64 (-1), .int .i64 (-1)] 3)).ownsRow W2.heap.size 3 1 (.slice (some ⟨W2.heap.size, 0, none⟩) 5 5) 5 ([(-1 : Int), -1, -1, -1, -1].map (Value.int .i64)) := World.ownsRow_lit (base := W2.heap.size) (e := 3) W2 #[.int .i64 (-1), .int .i64 (-1), .int .i64 (-1), .int .i64 (-1), .int .i64 (-1)] 5 (Nat.le_refl _) (by unfold maxLen; omega) rfl
      have hb3 : Below W2.heap.size W2 (W2.alloc (.cells #[.int .i64 (-1), .int .i64 (-1), .int .i64 (-1), .int .i64 (-1), .int .i64 (-1)] 3)) := Bal (Bre _) _
      generalize W2.alloc (.cells #[.int .i64 (-1), .int .i64 (-1), .int .i64 (-1), .int .i64 (-1), .int .i64 (-1)] 3) = W3 at hm3 hb3 ⊢
      have HM3 := Lib.hid hm3
      have hs3 := hb3.size
      clear hm3
      go_upto_region 12 with (at_builtin; refine wpList_append_own _ rfl (.tmp 51) (.tmp 52) 31 rfl W2.heap.size 3 i0 _ 1 8 Try.underlying31 hi hz00 hz1 hz2 rfl (by omega) _ 5 _ rfl (HM3.out.alloc _) ⟨W3.heap.size, 0, none⟩ 1 1 [.int .i64 (-1)] rfl rfl (news1' W3 _ _) (by simp [Value.oneCell']) (by unfold maxLen; omega) (by omega) (by simp; omega) ?_; intro v' w4 hown' hgrow _)
      have hb4 : Below W2.heap.size W2 w4 := (Bal hb3 _).grown hgrow (Bal hb3 _).size (fun g hg => (HM3.out.lt g hg).1)
      obtain ⟨g2, c4, rfl⟩ : ∃ g2 c4, v' = .slice (some ⟨g2, 0, none⟩) 6 c4 := by
        rcases hown'.2 with ⟨_, h0⟩ | ⟨g, cap', cur, rfl, _⟩
        · omega
        · exact ⟨_, _, rfl⟩
      obtain ⟨zs, hzs⟩ : ∃ zs : List Int, zs = [(-1 : Int), -1, -1, -1, -1, -1] := ⟨_, rfl⟩
      have hzl : Hid (zs.length = 6) := by rw [hzs]; rfl
      have HM : Hid (w4.ownsRow W2.heap.size 3 1 (.slice (some ⟨g2, 0, none⟩) 6 c4) 6 (zs.map (Value.int .i64))) := by rw [hzs]; exact hown'
      clear hzs HM3 hown' hgrow
      go_upto_region 18 with fail
      have HM5 := HM
      have hb5 := hb4
      have hz5 := hzl
      generalize w4 = W5 at HM5 hb5 ⊢
      generalize zs = zl at HM5 hz5
      have hr5 : RegAt W5 (w.heap.size + 1) r := K1'.out.th hb5
      have HK0 : Hid (RegAt W5 w.heap.size ⟨k0, k1, k2, k3⟩) := K0'.out.th hb5
      have HK1 := Lib.hid hr5
      have HI5 : Hid (InsAt W5 (.slice (some ⟨w.heap.size + 1 + 1, 0, none⟩) 6 6) l2) := HI.out.th hb5
      have HJ5 : Hid (IntsAt W5 (.slice (some ⟨g2, 0, none⟩) 6 c4) zl) := by
        have := HM5.out
        rw [← hz5.out] at this
        have := IntsAt.own this
        rw [hz5.out] at this
        exact this
      have hw5 : Below w.heap.size w W5 := hbA.trans (hb5.mono hbA.size)
      have hgz : w.heap.size + 1 < W5.heap.size := hr5.1
      have HLN : Hid (l2.length = 6) := hln
      have c0 : W5.cell? ⟨w.heap.size + 1, 0, none⟩ = some (.int .i64 r.a) := (hr5.2 0 (by omega)).1
      have c1 : W5.cell? ⟨w.heap.size + 1, 1, none⟩ = some (.int .i64 r.b) := (hr5.2 1 (by omega)).1
      have c2 : W5.cell? ⟨w.heap.size + 1, 2, none⟩ = some (.int .i64 r.c) := (hr5.2 2 (by omega)).1
      have c3 : W5.cell? ⟨w.heap.size + 1, 3, none⟩ = some (.int .i64 r.d) := (hr5.2 3 (by omega)).1
      clear hr5 hln
      go_wp2_with fail
      refine (next_any l2 _ _ zl _ r _ (by rw [HLN.out]; omega) HI5.out HJ5.out).mono ?_
      rintro e w6 ⟨rfl, hb6⟩
      generalize hX : nextF l2 zl at' r = X
      have HX := Lib.hid hX
      clear hX
      obtain ⟨xa, ⟨ya, yb, yc, yd⟩, xo⟩ := X
      unfold outV
      dsimp only
      have hr6 : RegAt w6 (w.heap.size + 1) r := HK1.out.th hb6
      have hgz6 : w.heap.size + 1 < w6.heap.size := hr6.1
      clear c0 c1 c2 c3
      have c0 : w6.cell? ⟨w.heap.size + 1, 0, none⟩ = some (.int .i64 r.a) := (hr6.2 0 (by omega)).1
      have c1 : w6.cell? ⟨w.heap.size + 1, 1, none⟩ = some (.int .i64 r.b) := (hr6.2 1 (by omega)).1
      have c2 : w6.cell? ⟨w.heap.size + 1, 2, none⟩ = some (.int .i64 r.c) := (hr6.2 2 (by omega)).1
      have c3 : w6.cell? ⟨w.heap.size + 1, 3, none⟩ = some (.int .i64 r.d) := (hr6.2 3 (by omega)).1
      clear hr6
      go_wp2_with fail
      refine (rnext_any l2 _ _ zl _ r _ (by rw [HLN.out]; omega) ((HI5.out.th hb6).th (Bal (Bre _) _)) ((HJ5.out.th hb6).th (Bal (Bre _) _))).mono ?_
      rintro e w7 ⟨rfl, hb7⟩
      rw [HX.out]
      unfold outV
      dsimp only
      have hb67 : Below w6.heap.size w6 w7 := Bth (Bal (Bre _) _) hb7
      have R18 : Hid (RegAt w7 w6.heap.size ⟨ya, yb, yc, yd⟩) := (regNew w6 ⟨ya, yb, yc, yd⟩ 38).th hb7
      have hk7 : RegAt w7 w.heap.size ⟨k0, k1, k2, k3⟩ := (HK0.out.th hb6).th hb67
      have hgz7 : w.heap.size < w7.heap.size := hk7.1
      clear c0 c1 c2 c3
      have c0 : w7.cell? ⟨w.heap.size, 0, none⟩ = some (.int .i64 k0) := (hk7.2 0 (by omega)).1
      have c1 : w7.cell? ⟨w.heap.size, 1, none⟩ = some (.int .i64 k1) := (hk7.2 1 (by omega)).1
      have c2 : w7.cell? ⟨w.heap.size, 2, none⟩ = some (.int .i64 k2) := (hk7.2 2 (by omega)).1
      have c3 : w7.cell? ⟨w.heap.size, 3, none⟩ = some (.int .i64 k3) := (hk7.2 3 (by omega)).1
      clear hk7
      go_wp2_with fail
      refine (instr_any _ _ _ _ _ _ _).mono ?_
      rintro e w8 ⟨⟨jo2, ja2, jb2, jc2, jn2⟩, rfl, hb8⟩
      dsimp only
      have hb78 : Below w7.heap.size w7 w8 := Bth (Bal (Bre _) _) hb8
      have p18 : RegAt w8 w6.heap.size ⟨ya, yb, yc, yd⟩ := R18.out.th hb78
      have p21 : RegAt w8 w7.heap.size ⟨ya, yb, yc, yd⟩ := (regNew w7 ⟨ya, yb, yc, yd⟩ 38).th hb8
      have pr : RegAt w8 (w.heap.size + 1) r := ((HK1.out.th hb6).th hb67).th hb78
      have z18 : w6.heap.size < w8.heap.size := p18.1
      have z21 : w7.heap.size < w8.heap.size := p21.1
      have zr : w.heap.size + 1 < w8.heap.size := pr.1
      have z18' : w6.heap.size < w8.heap.size + 1 := by omega
      have z21' : w7.heap.size < w8.heap.size + 1 := by omega
      have zr' : w.heap.size + 1 < w8.heap.size + 1 := by omega
      clear c0 c1 c2 c3
      have p0 : w8.cell? ⟨w6.heap.size, 0, none⟩ = some (.int .i64 ya) := (p18.2 0 (by omega)).1
      have p1 : w8.cell? ⟨w6.heap.size, 1, none⟩ = some (.int .i64 yb) := (p18.2 1 (by omega)).1
      have p2 : w8.cell? ⟨w6.heap.size, 2, none⟩ = some (.int .i64 yc) := (p18.2 2 (by omega)).1
      have p3 : w8.cell? ⟨w6.heap.size, 3, none⟩ = some (.int .i64 yd) := (p18.2 3 (by omega)).1
      have q0 : w8.cell? ⟨w7.heap.size, 0, none⟩ = some (.int .i64 ya) := (p21.2 0 (by omega)).1
      have q1 : w8.cell? ⟨w7.heap.size, 1, none⟩ = some (.int .i64 yb) := (p21.2 1 (by omega)).1
      have q2 : w8.cell? ⟨w7.heap.size, 2, none⟩ = some (.int .i64 yc) := (p21.2 2 (by omega)).1
      have q3 : w8.cell? ⟨w7.heap.size, 3, none⟩ = some (.int .i64 yd) := (p21.2 3 (by omega)).1
      have s0 : w8.cell? ⟨w.heap.size + 1, 0, none⟩ = some (.int .i64 r.a) := (pr.2 0 (by omega)).1
      have s1 : w8.cell? ⟨w.heap.size + 1, 1, none⟩ = some (.int .i64 r.b) := (pr.2 1 (by omega)).1
      have s2 : w8.cell? ⟨w.heap.size + 1, 2, none⟩ = some (.int .i64 r.c) := (pr.2 2 (by omega)).1
      have s3 : w8.cell? ⟨w.heap.size + 1, 3, none⟩ = some (.int .i64 r.d) := (pr.2 3 (by omega)).1
      have hreq := fun w => regs_eq ⟨ya, yb, yc, yd⟩ w
      have heqg := eqg38
      dsimp only at hreq
      clear p18 p21 pr
      go_wp2_with fail
      refine wp_region_aft_lit (by kernel_rfl) (by kernel_rfl) ?_
      repeat (go_big_quiet_step (first
        | (go_at_call 10; exact Calls.aft_of _ (told_any _))
        | (go_at_call 20; exact Calls.aft_of _ (addr_any _ _ _ _ _ r _))
        | (go_at_call 21; exact Calls.aft_of _ (raddr_any _ _ _ _ _ r _))))
      refine wpQuiet_nil ?_
      rintro _ ⟨z, rfl⟩
      go_wp2_with fail
      go_ret
      exact ⟨rfl, Bth (Bal (Bth (Bal (Bth (Bal (Bth hw5 hb6) _) hb7) _) hb8) _) z.h⟩
theorem law_next (k0 k1 k2 k3 n at' mate : Int) (raw : Bool) (r : Rg) (w : World) :
    Calls Try.prog 8 #[.agg #[.int .i64 k0, .int .i64 k1, .int .i64 k2, .int .i64 k3], .int .i64 n, .bool raw, .int .i64 at', .int .i64 mate, .agg #[.int .i64 r.a, .int .i64 r.b, .int .i64 r.c, .int .i64 r.d]] w fun e w' => e = .returned (.bool true) ∧ Below w.heap.size w w' := by
  obtain ⟨q, q0, q8, dq, _⟩ := umod at' 8 (by omega) (by omega)
  obtain ⟨z, z0, z9, _, dz⟩ := umod at' 9 (by omega) (by omega)
  obtain ⟨y, y0, y4, _, dy⟩ := umod mate 4 (by omega) (by omega)
  by_cases hz : z = 0
  · subst hz
    by_cases hq : q < 5
    · obtain ⟨q, rfl⟩ := Int.eq_ofNat_of_zero_le q0
      by_cases hy : y = 0
      · subst hy; exact law_next_ltz0y0 k0 k1 k2 k3 n at' mate raw r w q dq (by omega) dz dy
      · exact law_next_ltz0y1 k0 k1 k2 k3 n at' mate raw r w q dq (by omega) dz y dy (by omega)
    · have : q = 5 ∨ q = 6 ∨ q = 7 := by omega
      rcases this with rfl | rfl | rfl
      · exact law_next_q5z0 k0 k1 k2 k3 n at' mate raw r w dq dz
      · exact law_next_q6z0 k0 k1 k2 k3 n at' mate raw r w dq dz
      · exact law_next_q7z0 k0 k1 k2 k3 n at' mate raw r w dq dz
  · by_cases hq : q < 6
    · obtain ⟨q, rfl⟩ := Int.eq_ofNat_of_zero_le q0
      by_cases hy : y = 0
      · subst hy; exact law_next_ltz1y0 k0 k1 k2 k3 n at' mate raw r w q dq (by omega) z dz (by omega) dy
      · exact law_next_ltz1y1 k0 k1 k2 k3 n at' mate raw r w q dq (by omega) z dz (by omega) y dy (by omega)
    · have : q = 6 ∨ q = 7 := by omega
      rcases this with rfl | rfl
      · exact law_next_q6z1 k0 k1 k2 k3 n at' mate raw r w dq z dz (by omega)
      · exact law_next_q7z1 k0 k1 k2 k3 n at' mate raw r w dq z dz (by omega)
end Go.Proofs.Ytipkaloldlplgaa
