/-
  A word, by what was written last there: the reference's function (stands).
-/
import Derived.Test.YtnjcebfbfecdeaaMid
set_option linter.unusedVariables false
namespace Go.Proofs.Ytnjcebfbfecdeaa
open Go.RowKit Go.Maps
theorem putS_snoc_at (f : Int → Int) (l : List Wd) (k : Nat) (y : Wd) (x : Int) (h : l[k]? = some y) : putS f (l.take (k + 1)) x = if y.pl = x then y.val else putS f (l.take k) x := by
  rw [take_snoc l k y h, putS_snoc]
  unfold upd
  by_cases e : y.pl = x
  · rw [if_pos e.symm, if_pos e]
  · rw [if_neg (fun e' => e e'.symm), if_neg e]
theorem start_in {s : List Int} {q : Nat} {y : Int} (h : s[q]? = some y) : startS s q = y := by
  have hq : q < s.length := (List.getElem?_eq_some_iff.1 h).1
  unfold startS
  rw [if_pos ⟨by omega, by omega⟩]
  simp [List.getD, h]
theorem start_out {s : List Int} {x : Int} (h : ¬ (0 ≤ x ∧ x < s.length)) : startS s x = 0 := by unfold startS; rw [if_neg h]
set_option maxRecDepth 100000 in
set_option maxHeartbeats 3200000 in
theorem stands_any (us v : Value) (s : List Int) (log : List Wd) (x : Int) (w : World) (hs : IntsAt w us s) (hv : WdsAt w v log) (h1 : log.length ≤ 4398046511104) :
    Calls Try.prog 23 #[us, v, .int .i64 x] w fun e w' => e = .returned (.int .i64 (putS (startS s) log x)) ∧ w = w' := by
  obtain ⟨A, c, rfl, hc, hs⟩ := hs
  obtain ⟨B, c2, rfl, hc2, hv⟩ := hv
  have HS := Lib.hid hs
  have HV := Lib.hid hv
  clear hs hv
  go_enter Try.func23, Try.ntmps23
  go_wp2_with fail
  go_loopw [7] (fun i wr => ∃ k : Nat, k ≤ log.length ∧ i = .int .i64 ((k : Int) - 1) ∧ wr = w ∧ Hid (putS (startS s) log x = putS (startS s) (log.take k) x)) (fun i _ => (intOf i + 1).toNat)
  case atStart =>
    refine ⟨log.length, by omega, by go_num, rfl, by show _ = _; rw [List.take_length]⟩
  case round =>
    obtain ⟨k, hk, rfl, rfl, hok⟩ := hrel
    cases k with
    | zero =>
      have hz : putS (startS s) log x = startS s x := by rw [hok.out]; simp [putS]
      clear hok
      by_cases hx : 0 ≤ x
      · obtain ⟨q, rfl⟩ := Int.eq_ofNat_of_zero_le hx
        by_cases hq : q < s.length
        · obtain ⟨y, hy⟩ : ∃ y, s[q]? = some y := ⟨_, List.getElem?_eq_getElem hq⟩
          obtain ⟨b, off, rfl, hb, hcell⟩ := HS.out q y hy
          have hst := Lib.hid (hz.trans (start_in hy))
          have q1 : (q : Int) < (s.length : Int) := by omega
          clear hy hz
          go_wp2_with fail
          go_ret
          exact ⟨by rw [hst.out]; rfl, rfl⟩
        · have hst := Lib.hid (hz.trans (start_out (s := s) (x := (q : Int)) (by omega)))
          have q1 : ¬ ((q : Int) < (s.length : Int)) := by omega
          clear hz
          go_wp2_with fail
          go_ret
          exact ⟨by rw [hst.out]; rfl, rfl⟩
      · have hst := Lib.hid (hz.trans (start_out (s := s) (x := x) (by omega)))
        clear hz
        go_wp2_with fail
        go_ret
        exact ⟨by rw [hst.out]; rfl, rfl⟩
    | succ k =>
      obtain ⟨y, hy⟩ : ∃ y, log[k]? = some y := ⟨_, List.getElem?_eq_getElem (by omega)⟩
      obtain ⟨b, off, rfl, hb, c0, c1⟩ := HV.out k y hy
      have e : (((k + 1 : Nat) : Int) - 1) = (k : Int) := by omega
      rw [e]
      have hst := putS_snoc_at (startS s) log k y x hy
      have k0 : (0 : Int) ≤ (k : Int) := by omega
      have kn : (k : Int) < (log.length : Int) := by omega
      by_cases hyx : y.pl = x
      · rw [if_pos hyx] at hst
        have hfin : Hid (putS (startS s) log x = y.val) := by show _ = _; rw [hok.out, hst]
        clear hst hok hy e
        subst hyx
        go_wp2_with fail
        go_ret
        exact ⟨by rw [hfin.out]; rfl, rfl⟩
      · rw [if_neg hyx] at hst
        have hok' : Hid (putS (startS s) log x = putS (startS s) (log.take k) x) := by show _ = _; rw [hok.out, hst]
        have hne : (y.pl == x) = false := bne_of hyx
        clear hst hok hy e hyx
        go_wp2_with fail
        exact ⟨⟨k, by omega, by go_num, trivial, hok'⟩, by (simp [intOf]) <;> omega⟩
end Go.Proofs.Ytnjcebfbfecdeaa
