/-
  Round, how many picks are made, and the document's example.
-/
import Derived.Test.YtbfoeinjopgnpaaFair
set_option linter.unusedVariables false
namespace Go.Proofs.Ytbfoeinjopgnpaa
open Go.RowKit
def manyF (n : Int) : Int := min (max n 0) 1048576
theorem manyF_bd (n : Int) : 0 ≤ manyF n ∧ manyF n ≤ 1048576 := by unfold manyF; omega
theorem many_yes (T n : Int) (w : World) (h1 : 1 ≤ T) (h2 : T ≤ 4) : Calls Try.prog 19 #[.int .i64 T, .int .i64 n] w fun e w' => e = .returned (.int .i64 (manyF n)) ∧ w = w' := by
  by_cases a : n < 0
  · have : manyF n = 0 := by unfold manyF; omega
    rw [this]
    go_enter Try.func19, Try.ntmps19
    go_wp2_with fail
    go_ret
    exact ⟨rfl, rfl⟩
  · by_cases b : 1048576 < n
    · have : manyF n = 1048576 := by unfold manyF; omega
      rw [this]
      go_enter Try.func19, Try.ntmps19
      go_wp2_with fail
      go_ret
      exact ⟨rfl, rfl⟩
    · have : manyF n = n := by unfold manyF; omega
      rw [this]
      go_enter Try.func19, Try.ntmps19
      go_wp2_with fail
      go_ret
      exact ⟨rfl, rfl⟩
theorem many_no (T n : Int) (w : World) (h : T < 1 ∨ 4 < T) : Calls Try.prog 19 #[.int .i64 T, .int .i64 n] w fun e w' => e = .returned (.int .i64 0) ∧ w = w' := by
  rcases h with h | h
  · go_enter Try.func19, Try.ntmps19
    go_wp2_with fail
    go_ret
    exact ⟨rfl, rfl⟩
  · have h' : ¬ T < 1 := by omega
    go_enter Try.func19, Try.ntmps19
    go_wp2_with fail
    go_ret
    exact ⟨rfl, rfl⟩
def rl (T : Int) (m : Nat) : List Pk := (List.range m).map fun (i : Nat) => ⟨(i : Int) % T, false, 0⟩
theorem rl_succ (T : Int) (m : Nat) : rl T (m + 1) = rl T m ++ [⟨(m : Int) % T, false, 0⟩] := by simp [rl, List.range_succ]
theorem rl_len (T : Int) (m : Nat) : (rl T m).length = m := by simp [rl]
theorem rl_get (T : Int) (m i : Nat) (h : i < m) : (rl T m)[i]? = some ⟨(i : Int) % T, false, 0⟩ := by simp [rl, h]
theorem round_no (T n : Int) (w : World) (h : T < 1 ∨ 4 < T) : Calls Try.prog 12 #[.int .i64 T, .int .i64 n] w fun e w' => e = .returned (.slice none 0 0) ∧ w = w' := by
  have H := Lib.hid h
  clear h
  go_enter Try.func12, Try.ntmps12
  go_wp2_with fail
  go_loop [5, 6] (fun v i => v = .slice none 0 0 ∧ i = .int .i64 0) (fun _ _ => 0)
  case atStart => exact ⟨rfl, rfl⟩
  case round =>
    obtain ⟨rfl, rfl⟩ := hrel
    go_wp2_with (go_at_call 19; refine (many_no _ _ _ H.out).mono ?_; rintro e w' ⟨rfl, rfl⟩)
    go_ret
    exact ⟨rfl, rfl⟩
set_option maxHeartbeats 800000 in
theorem round_yes (T n : Int) (w : World) (h1 : 1 ≤ T) (h2 : T ≤ 4) :
    Calls Try.prog 12 #[.int .i64 T, .int .i64 n] w fun e w' => ∃ v, e = .returned v ∧ w'.ownsRow w.heap.size 29 3 v (manyF n).toNat (pkCells (rl T (manyF n).toNat)) ∧ Below w.heap.size w w' := by
  obtain ⟨M, hM⟩ : ∃ M : Nat, manyF n = M := Int.eq_ofNat_of_zero_le (manyF_bd n).1
  have hMb : M ≤ 1048576 := by have := (manyF_bd n).2; omega
  have HM := Lib.hid hM
  rw [hM]
  clear hM
  simp only [Int.toNat_natCast]
  obtain ⟨i0, hi, hz0, hz1, hz2⟩ := info_parts info29
  have hmany : ∀ W : World, Calls Try.prog 19 #[.int .i64 T, .int .i64 n] W fun e w' => e = .returned (.int .i64 M) ∧ W = w' := fun W => (many_yes T n W h1 h2).mono fun e w' h => ⟨by rw [h.1, HM.out], h.2⟩
  have HC := Lib.hid hmany
  clear hmany
  have hT0 : ¬ T = 0 := by omega
  go_enter Try.func12, Try.ntmps12
  go_wp2_with fail
  go_loopw [5, 6] (fun v i wr => ∃ k : Nat, k ≤ M ∧ i = .int .i64 k ∧ wr.ownsRow w.heap.size 29 3 v k (pkCells (rl T k)) ∧ Below w.heap.size w wr) (fun _ i _ => M - (intOf i).toNat)
  case atStart => exact ⟨0, Nat.zero_le _, rfl, World.ownsRow_nil _ _ _ _, Bre _⟩
  case round =>
    obtain ⟨k, hk, rfl, hown, hbel⟩ := hrel
    have HP := Lib.hid hown
    clear hown
    by_cases hlt : k < M
    · have hbs' : w.heap.size ≤ wr.heap.size + 1 := by have := hbel.size; omega
      have HS := Lib.hid (rl_succ T k)
      go_wp2_with (first
        | (go_at_call 19; refine (HC.out _).mono ?_; rintro e w' ⟨rfl, rfl⟩)
        | (at_builtin; refine wpList_append_own _ rfl (.tmp 14) (.tmp 19) 25 rfl w.heap.size 29 i0 _ 3 24 Try.underlying25 hi hz0 hz1 hz2 rfl (by omega) _ k (pkCells (rl T k)) rfl (HP.out.alloc _) ⟨wr.heap.size, 0, none⟩ 1 1 (Pk.cells ⟨(k : Int) % T, false, 0⟩) rfl rfl (news3 wr _) (one3 _) (by unfold maxLen; omega) (by omega) (by simpa using hbs') ?_; intro v' w1 hown' hgrow _))
      exact ⟨⟨k + 1, by omega, by go_num, by rw [HS.out, pkCells_snoc]; exact hown', ((Bal hbel _).grown hgrow (Bal hbel _).size (fun g hg => (HP.out.lt g hg).1))⟩, by (simp [intOf]) <;> omega⟩
    · have hkM : k = M := by omega
      subst hkM
      go_wp2_with (go_at_call 19; refine (HC.out _).mono ?_; rintro e w' ⟨rfl, rfl⟩)
      go_ret
      exact ⟨_, rfl, HP.out, hbel⟩
theorem told_round (w : World) : Calls Try.prog 12 #[.int .i64 2, .int .i64 3] w fun e w' => ∃ v, e = .returned v ∧ PkAt w' v [⟨0, false, 0⟩, ⟨1, false, 0⟩, ⟨0, false, 0⟩] ∧ Below w.heap.size w w' :=
  (round_yes 2 3 w (by omega) (by omega)).mono fun e w' ⟨v, he, hv, hb⟩ => ⟨v, he, PkAt.own (base := w.heap.size) (by exact hv), hb⟩
theorem told_fair : FairS [⟨0, false, 0⟩, ⟨1, false, 0⟩, ⟨0, false, 0⟩] 2 2 := by
  refine ⟨by omega, fun t ht i hi hk => ?_⟩
  simp only [List.length_cons, List.length_nil] at hi
  have h1 : t = 0 ∨ t = 1 := by omega
  have h2 : i = 1 ∨ i = 2 := by omega
  rcases h1 with rfl | rfl <;> rcases h2 with rfl | rfl <;> simp [lastF]
theorem told_any (w : World) : Calls Try.prog 8 #[] w fun e w' => e = .returned (.bool true) ∧ Below w.heap.size w w' := by
  go_enter Try.func8, Try.ntmps8
  go_wp2_with fail
  refine (told_round _).mono ?_
  rintro e w1 ⟨v, rfl, hv, hb⟩
  have HV := Lib.hid hv
  obtain ⟨A, c, rfl, hx⟩ := hv
  obtain ⟨b, o, rfl, hb0, x1, x2, x3⟩ := hx 0 _ rfl
  obtain ⟨b', o', he, _, y1, _, _⟩ := hx 1 _ rfl
  obtain ⟨b'', o'', he', _, z1, _, _⟩ := hx 2 _ rfl
  injection he with he
  injection he with e1 e2
  injection he' with he'
  injection he' with e3 e4
  subst e1 e2 e3 e4
  have hf := fairB_t told_fair
  have HF : ∀ W : World, PkAt W (.slice (some ⟨b, o, none⟩) 3 c) [⟨0, false, 0⟩, ⟨1, false, 0⟩, ⟨0, false, 0⟩] → Calls Try.prog 10 #[.slice (some ⟨b, o, none⟩) 3 c, .int .i64 2, .int .i64 2] W fun e w' => e = .returned (.bool true) ∧ Below W.heap.size W w' := fun W h =>
    (fair_yes _ _ 2 2 W (by simp) h (by omega) (by omega) (by omega) (by omega)).mono fun e w' h => ⟨by rw [h.1, hf], h.2⟩
  have HFH := Lib.hid HF
  clear hx HF hf x2 x3
  simp only [Nat.zero_mul, Nat.add_zero, Nat.one_mul, Nat.reduceMul] at x1 y1 z1
  go_wp2_with (go_at_call 10; refine (HFH.out _ HV.out).mono ?_; rintro e w2 ⟨rfl, hb2⟩)
  go_ret
  exact ⟨rfl, Bth hb hb2⟩
end Go.Proofs.Ytbfoeinjopgnpaa
