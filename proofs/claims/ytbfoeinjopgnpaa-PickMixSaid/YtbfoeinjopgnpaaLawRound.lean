/-
  The law PickRound as a walk.
-/
import Derived.Test.YtbfoeinjopgnpaaRound
set_option linter.unusedVariables false
namespace Go.Proofs.Ytbfoeinjopgnpaa
open Go.RowKit
theorem umod (x m : Int) (hm : 0 < m) (hm' : m ≤ 4611686018427387904) : ∃ k, 0 ≤ k ∧ k < m ∧ wrap64 ((IntKind.u64.wrap x).tmod m) = k ∧ (IntKind.u64.wrap x).tmod m = k := by
  have h0 : IntKind.u64.wrap x = x % 18446744073709551616 := by
    simp [IntKind.wrap, IntKind.bits, IntKind.signed]
  have h1 : 0 ≤ x % 18446744073709551616 := Int.emod_nonneg _ (by omega)
  have h2 : (IntKind.u64.wrap x).tmod m = (x % 18446744073709551616) % m := by rw [h0, Int.tmod_eq_emod_of_nonneg h1]
  have h3 := Int.emod_nonneg (x % 18446744073709551616) (show m ≠ 0 by omega)
  have h4 := Int.emod_lt_of_pos (x % 18446744073709551616) hm
  refine ⟨_, h3, h4, ?_, h2⟩
  rw [h2]
  generalize (x % 18446744073709551616) % m = y at h3 h4 ⊢
  unfold wrap64; omega
theorem lastF_ge (l : List Pk) (t : Int) (i j : Nat) (hj : j < i) (h : (l.getD j ⟨0, false, 0⟩).t = t) : (j : Int) ≤ lastF l t i := by
  induction i with
  | zero => omega
  | succ i ih =>
    unfold lastF
    split
    · omega
    · rename_i hne
      have : j ≠ i := by rintro rfl; exact hne h
      exact ih (by omega)
theorem rl_fair (T : Int) (M : Nat) (h1 : 1 ≤ T) (h4 : T ≤ 4) : FairS (rl T M) T T := by
  refine ⟨by omega, fun t ht i hi hk => ?_⟩
  rw [rl_len] at hi
  have key : ∃ j : Nat, j ≤ i ∧ (i : Int) - T + 1 ≤ j ∧ (j : Int) % T = t := by
    have : T = 1 ∨ T = 2 ∨ T = 3 ∨ T = 4 := by omega
    rcases this with rfl | rfl | rfl | rfl
    · exact ⟨i, by omega, by omega, by omega⟩
    · exact ⟨i - (i + 2 - t) % 2, by omega, by omega, by omega⟩
    · exact ⟨i - (i + 3 - t) % 3, by omega, by omega, by omega⟩
    · exact ⟨i - (i + 4 - t) % 4, by omega, by omega, by omega⟩
  obtain ⟨j, hj1, hj2, hj3⟩ := key
  have := lastF_ge (rl T M) t (i + 1) j (by omega) (by simp [List.getD, rl_get T M j (by omega), hj3])
  omega
set_option maxHeartbeats 400000 in
theorem law_round_rawC0 (T0 n : Int) (w : World) (h1 : 1 ≤ T0) (h4 : T0 ≤ 4) (hqq : wrap64 ((IntKind.u64.wrap n).tmod 302) = 0) (hMM : (manyF (-1)).toNat = 0) :
    Calls Try.prog 4 #[.int .i64 T0, .int .i64 n, .bool true] w fun e w' => e = .returned (.bool true) ∧ Below w.heap.size w w' := by
  have HMM := Lib.hid hMM
  clear hMM
  have hne := fun (k : Nat) (w : World) => pk_neq ⟨(k : Int) % T0, false, 0⟩ ⟨(k : Int) % T0, false, 0⟩ w
  have HNE := Lib.hid hne
  clear hne
  have hTz : ¬ T0 = 0 := by omega
  have hft := fairB_t (rl_fair T0 0 (by omega) (by omega))
  have hfair : ∀ (v : Value) (W : World), PkAt W v (rl T0 0) → Calls Try.prog 10 #[v, .int .i64 T0, .int .i64 T0] W fun e w' => e = .returned (.bool true) ∧ Below W.heap.size W w' := fun v W h =>
    (fair_yes _ _ T0 T0 W (by rw [rl_len]; omega) h (by omega) (by omega) (by omega) (by omega)).mono fun e w' h => ⟨by rw [h.1, hft], h.2⟩
  have HF := Lib.hid hfair
  clear hft hfair
  go_enter Try.func4, Try.ntmps4
  go_wp2_with fail
  refine (round_yes _ _ _ (by omega) (by omega)).mono ?_
  rintro e w1 ⟨v, rfl, hown, hb⟩
  rw [HMM.out] at hown
  have hv : PkAt w1 v (rl T0 0) := PkAt.own (base := w.heap.size) (by rw [rl_len]; exact hown)
  have HV := Lib.hid hv
  clear hown
  obtain ⟨A, c, hvv, hx⟩ := hv
  rw [rl_len] at hvv
  subst hvv
  have HX := Lib.hid hx
  clear hx
  have heq := eqg29
  go_wp2_with fail
  go_loopw [9] (fun i wr => ∃ k : Nat, k ≤ 0 ∧ i = .int .i64 k ∧ Below w1.heap.size w1 wr) (fun i _ => 0 - (intOf i).toNat)
  case atStart => exact ⟨0, by omega, rfl, Bre _⟩
  case round =>
    obtain ⟨k, hk, rfl, hbel⟩ := hrel
    by_cases hlt : k < 0
    · obtain ⟨b, off, rfl, hb', x1, x2, x3⟩ := HX.out k _ (rl_get _ 0 k hlt)
      have z1 := (hbel.cell hb').trans x1
      have z2 := (hbel.cell hb').trans x2
      have z3 := (hbel.cell hb').trans x3
      clear x1 x2 x3
      have hne := HNE.out k
      simp only [decide_true, Bool.not_true] at hne
      dsimp only at z1 z2 z3 hne
      first
        | (exfalso; omega)
        | (go_wp2_with fail
           go_quiet (fail)
           go_wp2_with fail
           exact ⟨⟨k + 1, by omega, by go_num, below_drewN hbel _⟩, by (simp [intOf]) <;> omega⟩)
    · have hkM : k = 0 := by omega
      have HK := Lib.hid hkM
      clear hkM
      go_wp2_with (first
        | (go_at_call 8; refine (told_any _).mono ?_; rintro e w2 ⟨rfl, hb2⟩)
        | (go_at_call 10; refine (HF.out _ _ (HV.out.th (Bth hbel hb2))).mono ?_; rintro e w3 ⟨rfl, hb3⟩))
      go_ret
      exact ⟨rfl, Bth (Bth (Bth hb hbel) hb2) hb3⟩
set_option maxHeartbeats 400000 in
theorem law_round_rawC1 (T0 n : Int) (M : Nat) (w : World) (h1 : 1 ≤ T0) (h4 : T0 ≤ 4) (hMb : M ≤ 300) (hqq : wrap64 ((IntKind.u64.wrap n).tmod 302) = ((M : Int) + 1)) (hMM : (manyF M).toNat = M) :
    Calls Try.prog 4 #[.int .i64 T0, .int .i64 n, .bool true] w fun e w' => e = .returned (.bool true) ∧ Below w.heap.size w w' := by
  have HMM := Lib.hid hMM
  clear hMM
  have hne := fun (k : Nat) (w : World) => pk_neq ⟨(k : Int) % T0, false, 0⟩ ⟨(k : Int) % T0, false, 0⟩ w
  have HNE := Lib.hid hne
  clear hne
  have hTz : ¬ T0 = 0 := by omega
  have hft := fairB_t (rl_fair T0 M (by omega) (by omega))
  have hfair : ∀ (v : Value) (W : World), PkAt W v (rl T0 M) → Calls Try.prog 10 #[v, .int .i64 T0, .int .i64 T0] W fun e w' => e = .returned (.bool true) ∧ Below W.heap.size W w' := fun v W h =>
    (fair_yes _ _ T0 T0 W (by rw [rl_len]; omega) h (by omega) (by omega) (by omega) (by omega)).mono fun e w' h => ⟨by rw [h.1, hft], h.2⟩
  have HF := Lib.hid hfair
  clear hft hfair
  go_enter Try.func4, Try.ntmps4
  go_wp2_with fail
  refine (round_yes _ _ _ (by omega) (by omega)).mono ?_
  rintro e w1 ⟨v, rfl, hown, hb⟩
  rw [HMM.out] at hown
  have hv : PkAt w1 v (rl T0 M) := PkAt.own (base := w.heap.size) (by rw [rl_len]; exact hown)
  have HV := Lib.hid hv
  clear hown
  obtain ⟨A, c, hvv, hx⟩ := hv
  rw [rl_len] at hvv
  subst hvv
  have HX := Lib.hid hx
  clear hx
  have heq := eqg29
  go_wp2_with fail
  go_loopw [9] (fun i wr => ∃ k : Nat, k ≤ M ∧ i = .int .i64 k ∧ Below w1.heap.size w1 wr) (fun i _ => M - (intOf i).toNat)
  case atStart => exact ⟨0, by omega, rfl, Bre _⟩
  case round =>
    obtain ⟨k, hk, rfl, hbel⟩ := hrel
    by_cases hlt : k < M
    · obtain ⟨b, off, rfl, hb', x1, x2, x3⟩ := HX.out k _ (rl_get _ M k hlt)
      have z1 := (hbel.cell hb').trans x1
      have z2 := (hbel.cell hb').trans x2
      have z3 := (hbel.cell hb').trans x3
      clear x1 x2 x3
      have hne := HNE.out k
      simp only [decide_true, Bool.not_true] at hne
      dsimp only at z1 z2 z3 hne
      first
        | (exfalso; omega)
        | (go_wp2_with fail
           go_quiet (fail)
           go_wp2_with fail
           exact ⟨⟨k + 1, by omega, by go_num, below_drewN hbel _⟩, by (simp [intOf]) <;> omega⟩)
    · have hkM : k = M := by omega
      have HK := Lib.hid hkM
      clear hkM
      go_wp2_with (first
        | (go_at_call 8; refine (told_any _).mono ?_; rintro e w2 ⟨rfl, hb2⟩)
        | (go_at_call 10; refine (HF.out _ _ (HV.out.th (Bth hbel hb2))).mono ?_; rintro e w3 ⟨rfl, hb3⟩))
      go_ret
      exact ⟨rfl, Bth (Bth (Bth hb hbel) hb2) hb3⟩
theorem law_round_raw (T0 n : Int) (w : World) (h1 : 1 ≤ T0) (h4 : T0 ≤ 4) :
    Calls Try.prog 4 #[.int .i64 T0, .int .i64 n, .bool true] w fun e w' => e = .returned (.bool true) ∧ Below w.heap.size w w' := by
  obtain ⟨q, hq0, hq1, hqq, _⟩ := umod n 302 (by omega) (by omega)
  by_cases h : q = 0
  · subst h
    exact law_round_rawC0 T0 n w h1 h4 hqq (by decide)
  · obtain ⟨M, hM⟩ : ∃ M : Nat, q = (M : Int) + 1 := ⟨(q - 1).toNat, by omega⟩
    subst hM
    exact law_round_rawC1 T0 n M w h1 h4 (by omega) hqq (by unfold manyF; omega)
set_option maxHeartbeats 400000 in
theorem law_round_nearC0 (T0 n : Int) (w : World) (hqq : wrap64 ((IntKind.u64.wrap n).tmod 302) = 0) (hMM : (manyF (-1)).toNat = 0) :
    Calls Try.prog 4 #[.int .i64 T0, .int .i64 n, .bool false] w fun e w' => e = .returned (.bool true) ∧ Below w.heap.size w w' := by
  obtain ⟨p, hp0, hp1, hpp, _⟩ := umod T0 4 (by omega) (by omega)
  have HMM := Lib.hid hMM
  clear hMM
  have hne := fun (k : Nat) (w : World) => pk_neq ⟨(k : Int) % (1 + p), false, 0⟩ ⟨(k : Int) % (1 + p), false, 0⟩ w
  have HNE := Lib.hid hne
  clear hne
  have hTz : ¬ (1 + p) = 0 := by omega
  have hft := fairB_t (rl_fair (1 + p) 0 (by omega) (by omega))
  have hfair : ∀ (v : Value) (W : World), PkAt W v (rl (1 + p) 0) → Calls Try.prog 10 #[v, .int .i64 (1 + p), .int .i64 (1 + p)] W fun e w' => e = .returned (.bool true) ∧ Below W.heap.size W w' := fun v W h =>
    (fair_yes _ _ (1 + p) (1 + p) W (by rw [rl_len]; omega) h (by omega) (by omega) (by omega) (by omega)).mono fun e w' h => ⟨by rw [h.1, hft], h.2⟩
  have HF := Lib.hid hfair
  clear hft hfair
  go_enter Try.func4, Try.ntmps4
  go_wp2_with fail
  refine (round_yes _ _ _ (by omega) (by omega)).mono ?_
  rintro e w1 ⟨v, rfl, hown, hb⟩
  rw [HMM.out] at hown
  have hv : PkAt w1 v (rl (1 + p) 0) := PkAt.own (base := w.heap.size) (by rw [rl_len]; exact hown)
  have HV := Lib.hid hv
  clear hown
  obtain ⟨A, c, hvv, hx⟩ := hv
  rw [rl_len] at hvv
  subst hvv
  have HX := Lib.hid hx
  clear hx
  have heq := eqg29
  go_wp2_with fail
  go_loopw [9] (fun i wr => ∃ k : Nat, k ≤ 0 ∧ i = .int .i64 k ∧ Below w1.heap.size w1 wr) (fun i _ => 0 - (intOf i).toNat)
  case atStart => exact ⟨0, by omega, rfl, Bre _⟩
  case round =>
    obtain ⟨k, hk, rfl, hbel⟩ := hrel
    by_cases hlt : k < 0
    · obtain ⟨b, off, rfl, hb', x1, x2, x3⟩ := HX.out k _ (rl_get _ 0 k hlt)
      have z1 := (hbel.cell hb').trans x1
      have z2 := (hbel.cell hb').trans x2
      have z3 := (hbel.cell hb').trans x3
      clear x1 x2 x3
      have hne := HNE.out k
      simp only [decide_true, Bool.not_true] at hne
      dsimp only at z1 z2 z3 hne
      first
        | (exfalso; omega)
        | (go_wp2_with fail
           go_quiet (fail)
           go_wp2_with fail
           exact ⟨⟨k + 1, by omega, by go_num, below_drewN hbel _⟩, by (simp [intOf]) <;> omega⟩)
    · have hkM : k = 0 := by omega
      have HK := Lib.hid hkM
      clear hkM
      go_wp2_with (first
        | (go_at_call 8; refine (told_any _).mono ?_; rintro e w2 ⟨rfl, hb2⟩)
        | (go_at_call 10; refine (HF.out _ _ (HV.out.th (Bth hbel hb2))).mono ?_; rintro e w3 ⟨rfl, hb3⟩))
      go_ret
      exact ⟨rfl, Bth (Bth (Bth hb hbel) hb2) hb3⟩
set_option maxHeartbeats 400000 in
theorem law_round_nearC1 (T0 n : Int) (M : Nat) (w : World) (hMb : M ≤ 300) (hqq : wrap64 ((IntKind.u64.wrap n).tmod 302) = ((M : Int) + 1)) (hMM : (manyF M).toNat = M) :
    Calls Try.prog 4 #[.int .i64 T0, .int .i64 n, .bool false] w fun e w' => e = .returned (.bool true) ∧ Below w.heap.size w w' := by
  obtain ⟨p, hp0, hp1, hpp, _⟩ := umod T0 4 (by omega) (by omega)
  have HMM := Lib.hid hMM
  clear hMM
  have hne := fun (k : Nat) (w : World) => pk_neq ⟨(k : Int) % (1 + p), false, 0⟩ ⟨(k : Int) % (1 + p), false, 0⟩ w
  have HNE := Lib.hid hne
  clear hne
  have hTz : ¬ (1 + p) = 0 := by omega
  have hft := fairB_t (rl_fair (1 + p) M (by omega) (by omega))
  have hfair : ∀ (v : Value) (W : World), PkAt W v (rl (1 + p) M) → Calls Try.prog 10 #[v, .int .i64 (1 + p), .int .i64 (1 + p)] W fun e w' => e = .returned (.bool true) ∧ Below W.heap.size W w' := fun v W h =>
    (fair_yes _ _ (1 + p) (1 + p) W (by rw [rl_len]; omega) h (by omega) (by omega) (by omega) (by omega)).mono fun e w' h => ⟨by rw [h.1, hft], h.2⟩
  have HF := Lib.hid hfair
  clear hft hfair
  go_enter Try.func4, Try.ntmps4
  go_wp2_with fail
  refine (round_yes _ _ _ (by omega) (by omega)).mono ?_
  rintro e w1 ⟨v, rfl, hown, hb⟩
  rw [HMM.out] at hown
  have hv : PkAt w1 v (rl (1 + p) M) := PkAt.own (base := w.heap.size) (by rw [rl_len]; exact hown)
  have HV := Lib.hid hv
  clear hown
  obtain ⟨A, c, hvv, hx⟩ := hv
  rw [rl_len] at hvv
  subst hvv
  have HX := Lib.hid hx
  clear hx
  have heq := eqg29
  go_wp2_with fail
  go_loopw [9] (fun i wr => ∃ k : Nat, k ≤ M ∧ i = .int .i64 k ∧ Below w1.heap.size w1 wr) (fun i _ => M - (intOf i).toNat)
  case atStart => exact ⟨0, by omega, rfl, Bre _⟩
  case round =>
    obtain ⟨k, hk, rfl, hbel⟩ := hrel
    by_cases hlt : k < M
    · obtain ⟨b, off, rfl, hb', x1, x2, x3⟩ := HX.out k _ (rl_get _ M k hlt)
      have z1 := (hbel.cell hb').trans x1
      have z2 := (hbel.cell hb').trans x2
      have z3 := (hbel.cell hb').trans x3
      clear x1 x2 x3
      have hne := HNE.out k
      simp only [decide_true, Bool.not_true] at hne
      dsimp only at z1 z2 z3 hne
      first
        | (exfalso; omega)
        | (go_wp2_with fail
           go_quiet (fail)
           go_wp2_with fail
           exact ⟨⟨k + 1, by omega, by go_num, below_drewN hbel _⟩, by (simp [intOf]) <;> omega⟩)
    · have hkM : k = M := by omega
      have HK := Lib.hid hkM
      clear hkM
      go_wp2_with (first
        | (go_at_call 8; refine (told_any _).mono ?_; rintro e w2 ⟨rfl, hb2⟩)
        | (go_at_call 10; refine (HF.out _ _ (HV.out.th (Bth hbel hb2))).mono ?_; rintro e w3 ⟨rfl, hb3⟩))
      go_ret
      exact ⟨rfl, Bth (Bth (Bth hb hbel) hb2) hb3⟩
theorem law_round_near (T0 n : Int) (w : World) :
    Calls Try.prog 4 #[.int .i64 T0, .int .i64 n, .bool false] w fun e w' => e = .returned (.bool true) ∧ Below w.heap.size w w' := by
  obtain ⟨q, hq0, hq1, hqq, _⟩ := umod n 302 (by omega) (by omega)
  by_cases h : q = 0
  · subst h
    exact law_round_nearC0 T0 n w hqq (by decide)
  · obtain ⟨M, hM⟩ : ∃ M : Nat, q = (M : Int) + 1 := ⟨(q - 1).toNat, by omega⟩
    subst hM
    exact law_round_nearC1 T0 n M w (by omega) hqq (by unfold manyF; omega)
theorem law_round_out (T0 n : Int) (w : World) (h : T0 < 1 ∨ 4 < T0) :
    Calls Try.prog 4 #[.int .i64 T0, .int .i64 n, .bool true] w fun e w' => e = .returned (.bool true) ∧ Below w.heap.size w w' := by
  have hr := fun (m : Int) (W : World) => round_no T0 m W h
  have HR := Lib.hid hr
  clear hr
  rcases h with h | h
  · go_enter Try.func4, Try.ntmps4
    go_wp2_with (first
      | (go_at_call 12; refine (HR.out _ _).mono ?_; rintro e w' ⟨rfl, rfl⟩)
      | (go_at_call 8; refine (told_any _).mono ?_; rintro e w2 ⟨rfl, hb2⟩))
    go_ret
    exact ⟨rfl, hb2⟩
  · have h' : ¬ T0 < 1 := by omega
    go_enter Try.func4, Try.ntmps4
    go_wp2_with (first
      | (go_at_call 12; refine (HR.out _ _).mono ?_; rintro e w' ⟨rfl, rfl⟩)
      | (go_at_call 8; refine (told_any _).mono ?_; rintro e w2 ⟨rfl, hb2⟩))
    go_ret
    exact ⟨rfl, hb2⟩
theorem law_round (T0 n : Int) (raw : Bool) (w : World) : Calls Try.prog 4 #[.int .i64 T0, .int .i64 n, .bool raw] w fun e w' => e = .returned (.bool true) ∧ Below w.heap.size w w' := by
  cases raw
  · exact law_round_near T0 n w
  · by_cases h : 1 ≤ T0 ∧ T0 ≤ 4
    · exact law_round_raw T0 n w h.1 h.2
    · exact law_round_out T0 n w (by omega)
end Go.Proofs.Ytbfoeinjopgnpaa
