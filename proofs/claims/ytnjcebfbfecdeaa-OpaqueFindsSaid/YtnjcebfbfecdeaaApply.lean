/-
  The words as an attempt has left them: the program's inner function (apply).
-/
import Derived.Test.YtnjcebfbfecdeaaMap
set_option linter.unusedVariables false
namespace Go.Proofs.Ytnjcebfbfecdeaa
open Go.RowKit Go.Maps
theorem put_step (f : Int → Int) (l : List Wd) (m : Nat) (x : Wd) (h : l[m]? = some x) : putS f (l.take (m + 1)) = upd (putS f (l.take m)) x.pl x.val := by
  rw [take_snoc l m x h]; simp [putS]
set_option maxRecDepth 100000 in
set_option maxHeartbeats 3200000 in
theorem apply_any (p : Att) (vr vw vs : Value) (b n : Nat) (f : Int → Int) (w0 w : World) (hA : AttV w0 p vr vw vs) (hB : Below w0.heap.size w0 w) (hbase : w0.heap.size ≤ b) (hm : MapIs w b n f) (hwf : ∀ x ∈ p.writes, wf64 x.pl ∧ wf64 x.val)
    (h2 : p.writes.length ≤ 1048576) (hn : n ≤ 1099511627776) :
    Calls Try.prog 22 #[.map (some b), .agg #[.int .i64 p.th, .int .i64 p.tr, .bool p.real, .int .i64 p.fr, .int .i64 p.un, .int .i64 p.en, .int .i64 p.st, .int .i64 p.sp, vr, vw, vs, .slice none 0 0]] w
      fun e w' => e = .returned (.tuple #[]) ∧ Below w0.heap.size w0 w' ∧ MapIs w' b (n + p.writes.length) (appS f p) := by
  obtain ⟨_, ⟨A2, c2, rfl, k2, hw⟩, _⟩ := hA
  have HW := Lib.hid hw
  have HF := Lib.hid hwf
  have HM := Lib.hid hm
  have HB := Lib.hid hB
  clear hw hwf hm hB
  by_cases hen : p.en = 6
  case neg =>
    have happ : Hid (appS f p = f) := by show appS f p = f; simp [appS, hen]
    have hne : (p.en == 6) = false := bne_of hen
    clear hen
    go_enter Try.func22, Try.ntmps22
    go_wp2_with fail
    refine bodyPost_ret (results_none rfl _ _ _) rfl ?_
    exact ⟨rfl, Bal HB.out _, by rw [happ.out]; exact (HM.out.th (Bal (Bre _) _)).mono (by omega)⟩
  have happ : Hid (appS f p = putS f p.writes) := by show appS f p = _; simp [appS, hen]
  have hne : (p.en == 6) = true := by simp [hen]
  clear hen
  go_enter Try.func22, Try.ntmps22
  go_wp2_with fail
  go_loopw [13] (fun i wr => ∃ k : Nat, k ≤ p.writes.length ∧ i = .int .i64 k ∧ Below w0.heap.size w0 wr ∧ Hid (MapIs wr b (n + k) (putS f (p.writes.take k)))) (fun i _ => p.writes.length - (intOf i).toNat)
  case atStart => exact ⟨0, by omega, rfl, Bal HB.out _, HM.out.th (Bal (Bre _) _)⟩
  case round =>
    obtain ⟨k, hk, rfl, hbel, hmap⟩ := hrel
    by_cases hlt : k < p.writes.length
    · obtain ⟨x, hx⟩ : ∃ x, p.writes[k]? = some x := ⟨_, List.getElem?_eq_getElem hlt⟩
      obtain ⟨b1, o1, rfl, hb1, x1, x2⟩ := HW.out k x hx
      have y1 := (hbel.cell (p := ⟨b1, o1 + k * 2, none⟩) hb1).trans x1
      have y2 := (hbel.cell (p := ⟨b1, o1 + k * 2 + 1, none⟩) hb1).trans x2
      have hwx : Hid (wf64 x.pl ∧ wf64 x.val) := HF.out x (List.mem_of_getElem? hx)
      have HT := Lib.hid (put_step f p.writes k x hx)
      have hb1' : b1 < wr.heap.size := Nat.lt_of_lt_of_le hb1 hbel.size
      clear x1 x2 hx
      go_wp2_with (at_mapUpdate; refine wpList_put_mapIs rfl _ _ _ rfl b (n + k) _ rfl x.pl x.val rfl rfl (hmap.out.th (Bal (Bre _) _)) (by unfold maxLen; omega) hwx.out.1 hwx.out.2 ?_; intro w1 hm1 hg1)
      exact ⟨⟨k + 1, by omega, by go_num, (Bal hbel _).grown hg1 (Bal hbel _).size (fun j hj => by cases hj; exact hbase), by
        show MapIs _ _ _ _
        rw [HT.out]; exact hm1⟩, by (simp [intOf]) <;> omega⟩
    · obtain rfl : k = p.writes.length := by omega
      go_wp2_with fail
      (try simp only [Exit.inBlock, Exit.then])
      refine bodyPost_ret (results_none rfl _ _ _) rfl ?_
      exact ⟨rfl, hbel, by rw [happ.out]; have := hmap.out; rwa [List.take_length] at this⟩
end Go.Proofs.Ytnjcebfbfecdeaa
