/-
  The law PickMix as a walk.
-/
import Derived.Test.YtbfoeinjopgnpaaRMix
set_option linter.unusedVariables false
namespace Go.Proofs.Ytbfoeinjopgnpaa
open Go.RowKit
theorem mixL_get (s T : Int) (M r j : Nat) (hj : j < T.toNat) (hm : r * T.toNat + j < M) : (mixL s T M).getD (r * T.toNat + j) ⟨0, false, 0⟩ = mixE s T r j := by
  have h1 : (r * T.toNat + j) / T.toNat = r := by rw [Nat.add_comm, Nat.mul_comm, Nat.add_mul_div_left _ _ (by omega), Nat.div_eq_of_lt hj]; omega
  have h2 : (r * T.toNat + j) % T.toNat = j := by rw [Nat.add_comm, Nat.add_mul_mod_self_right, Nat.mod_eq_of_lt hj]
  simp [mixL, List.getD, hm, h1, h2]
theorem pos_all (T f : Int) (b : Bool) (t : Nat) (h1 : 1 ≤ T) (h4 : T ≤ 4) (ht : (t : Int) < T) : ∃ j : Nat, j < T.toNat ∧ posF T f b j = t := by
  have : T = 1 ∨ T = 2 ∨ T = 3 ∨ T = 4 := by omega
  cases b <;> simp only [posF, Bool.false_eq_true, if_false, if_true]
  · refine ⟨((t - f) % T).toNat, ?_⟩
    rcases this with rfl | rfl | rfl | rfl <;> exact ⟨by omega, by omega⟩
  · refine ⟨((f - t) % T).toNat, ?_⟩
    rcases this with rfl | rfl | rfl | rfl <;> exact ⟨by omega, by omega⟩
theorem mix_fair (s T : Int) (M : Nat) (h1 : 1 ≤ T) (h4 : T ≤ 4) : FairS (mixL s T M) T (2 * T - 1) := by
  refine ⟨by omega, fun t ht i hi hk => ?_⟩
  rw [mixL_len] at hi
  have key : ∃ r : Nat, r * T.toNat + T.toNat ≤ i + 1 ∧ i + 2 ≤ r * T.toNat + 2 * T.toNat := by
    have : T = 1 ∨ T = 2 ∨ T = 3 ∨ T = 4 := by omega
    rcases this with rfl | rfl | rfl | rfl
    · exact ⟨i, by simp, by simp⟩
    · exact ⟨(i + 1) / 2 - 1, by simp; omega, by simp; omega⟩
    · exact ⟨(i + 1) / 3 - 1, by simp; omega, by simp; omega⟩
    · exact ⟨(i + 1) / 4 - 1, by simp; omega, by simp; omega⟩
  obtain ⟨r, k1, k2⟩ := key
  obtain ⟨j, hj, hpos⟩ := pos_all T (sX s (r + 1) / 8589934592 % T) (dirX (sX s (r + 1))) t h1 h4 ht
  have hg := mixL_get s T M r j hj (by omega)
  have := lastF_ge (mixL s T M) t (i + 1) (r * T.toNat + j) (by omega) (by rw [hg]; exact hpos)
  generalize r * T.toNat = q at this k1 k2
  omega
set_option maxHeartbeats 800000 in
theorem law_mix_rawC0 (T0 n s : Int) (w : World) (h1 : 1 ≤ T0) (h4 : T0 ≤ 4) (hqq : wrap64 ((IntKind.u64.wrap n).tmod 302) = 0) (hMM : (manyF (-1)).toNat = 0) :
    Calls Try.prog 5 #[.int .u64 s, .int .i64 T0, .int .i64 n, .bool true] w fun e w' => e = .returned (.bool true) ∧ Below w.heap.size w w' := by
  have HMM := Lib.hid hMM
  clear hMM
  have hft := fairB_t (mix_fair s T0 0 (by omega) (by omega))
  have hfair : ∀ (v : Value) (W : World), PkAt W v (mixL s T0 0) → Calls Try.prog 10 #[v, .int .i64 T0, .int .i64 (2 * T0 - 1)] W fun e w' => e = .returned (.bool true) ∧ Below W.heap.size W w' := fun v W h =>
    (fair_yes _ _ T0 (2 * T0 - 1) W (by rw [mixL_len]; omega) h (by omega) (by omega) (by omega) (by omega)).mono fun e w' h => ⟨by rw [h.1, hft], h.2⟩
  have HF := Lib.hid hfair
  clear hft hfair
  have g1 : decide (1 ≤ T0) = true := by simp; omega
  have g2 : decide (T0 ≤ 4) = true := by simp; omega
  go_enter Try.func5, Try.ntmps5
  go_wp2_with fail
  refine (mix_yes _ _ _ _ (by omega) (by omega)).mono ?_
  rintro e w1 ⟨v, rfl, hown, hb⟩
  rw [HMM.out] at hown
  have hv : PkAt w1 v (mixL s T0 0) := PkAt.own (base := w.heap.size) (by rw [mixL_len]; exact hown)
  have HV := Lib.hid hv
  clear hown
  obtain ⟨A, c, hvv, hx⟩ := hv
  rw [mixL_len] at hvv
  subst hvv
  clear hx
  go_wp2_with fail
  refine (rmix_yes _ _ _ _ (by omega) (by omega)).mono ?_
  rintro e w2 ⟨v, rfl, hown, hb2⟩
  rw [HMM.out] at hown
  have hv2 : PkAt w2 v (mixL s T0 0) := PkAt.own (base := w1.heap.size) (by rw [mixL_len]; exact hown)
  have HV2 := Lib.hid hv2
  have HS : Hid (∀ W, Below w2.heap.size w2 W → Calls Try.prog 14 #[.slice A 0 c, v] W fun e w' => e = .returned (.bool true) ∧ Below W.heap.size W w') := fun W hW =>
    (same_any _ _ _ _ W (by rw [mixL_len]; omega) (by rw [mixL_len]; omega) ((HV.out.th hb2).th hW) (HV2.out.th hW)).mono fun e w' h => ⟨by rw [h.1]; simp, h.2⟩
  clear hv2 hown
  go_wp2_with (first
    | (go_at_call 14; refine (HS.out _ (Bre _)).mono ?_; rintro e w3 ⟨rfl, hb3⟩)
    | (go_at_call 8; refine (told_any _).mono ?_; rintro e w4 ⟨rfl, hb4⟩)
    | (go_at_call 10; refine (HF.out _ _ (((HV.out.th hb2).th hb3).th hb4)).mono ?_; rintro e w5 ⟨rfl, hb5⟩))
  go_ret
  exact ⟨rfl, Bth (Bth (Bth (Bth hb hb2) hb3) hb4) hb5⟩
set_option maxHeartbeats 800000 in
theorem law_mix_rawC1 (T0 n s : Int) (M : Nat) (w : World) (h1 : 1 ≤ T0) (h4 : T0 ≤ 4) (hMb : M ≤ 300) (hqq : wrap64 ((IntKind.u64.wrap n).tmod 302) = ((M : Int) + 1)) (hMM : (manyF M).toNat = M) :
    Calls Try.prog 5 #[.int .u64 s, .int .i64 T0, .int .i64 n, .bool true] w fun e w' => e = .returned (.bool true) ∧ Below w.heap.size w w' := by
  have HMM := Lib.hid hMM
  clear hMM
  have hft := fairB_t (mix_fair s T0 M (by omega) (by omega))
  have hfair : ∀ (v : Value) (W : World), PkAt W v (mixL s T0 M) → Calls Try.prog 10 #[v, .int .i64 T0, .int .i64 (2 * T0 - 1)] W fun e w' => e = .returned (.bool true) ∧ Below W.heap.size W w' := fun v W h =>
    (fair_yes _ _ T0 (2 * T0 - 1) W (by rw [mixL_len]; omega) h (by omega) (by omega) (by omega) (by omega)).mono fun e w' h => ⟨by rw [h.1, hft], h.2⟩
  have HF := Lib.hid hfair
  clear hft hfair
  have g1 : decide (1 ≤ T0) = true := by simp; omega
  have g2 : decide (T0 ≤ 4) = true := by simp; omega
  go_enter Try.func5, Try.ntmps5
  go_wp2_with fail
  refine (mix_yes _ _ _ _ (by omega) (by omega)).mono ?_
  rintro e w1 ⟨v, rfl, hown, hb⟩
  rw [HMM.out] at hown
  have hv : PkAt w1 v (mixL s T0 M) := PkAt.own (base := w.heap.size) (by rw [mixL_len]; exact hown)
  have HV := Lib.hid hv
  clear hown
  obtain ⟨A, c, hvv, hx⟩ := hv
  rw [mixL_len] at hvv
  subst hvv
  clear hx
  go_wp2_with fail
  refine (rmix_yes _ _ _ _ (by omega) (by omega)).mono ?_
  rintro e w2 ⟨v, rfl, hown, hb2⟩
  rw [HMM.out] at hown
  have hv2 : PkAt w2 v (mixL s T0 M) := PkAt.own (base := w1.heap.size) (by rw [mixL_len]; exact hown)
  have HV2 := Lib.hid hv2
  have HS : Hid (∀ W, Below w2.heap.size w2 W → Calls Try.prog 14 #[.slice A M c, v] W fun e w' => e = .returned (.bool true) ∧ Below W.heap.size W w') := fun W hW =>
    (same_any _ _ _ _ W (by rw [mixL_len]; omega) (by rw [mixL_len]; omega) ((HV.out.th hb2).th hW) (HV2.out.th hW)).mono fun e w' h => ⟨by rw [h.1]; simp, h.2⟩
  clear hv2 hown
  go_wp2_with (first
    | (go_at_call 14; refine (HS.out _ (Bre _)).mono ?_; rintro e w3 ⟨rfl, hb3⟩)
    | (go_at_call 8; refine (told_any _).mono ?_; rintro e w4 ⟨rfl, hb4⟩)
    | (go_at_call 10; refine (HF.out _ _ (((HV.out.th hb2).th hb3).th hb4)).mono ?_; rintro e w5 ⟨rfl, hb5⟩))
  go_ret
  exact ⟨rfl, Bth (Bth (Bth (Bth hb hb2) hb3) hb4) hb5⟩
set_option maxHeartbeats 800000 in
theorem law_mix_nearC0 (T0 n s : Int) (w : World) (hqq : wrap64 ((IntKind.u64.wrap n).tmod 302) = 0) (hMM : (manyF (-1)).toNat = 0) :
    Calls Try.prog 5 #[.int .u64 s, .int .i64 T0, .int .i64 n, .bool false] w fun e w' => e = .returned (.bool true) ∧ Below w.heap.size w w' := by
  obtain ⟨p, hp0, hp1, hpp, _⟩ := umod T0 4 (by omega) (by omega)
  have HMM := Lib.hid hMM
  clear hMM
  have hft := fairB_t (mix_fair s (1 + p) 0 (by omega) (by omega))
  have hfair : ∀ (v : Value) (W : World), PkAt W v (mixL s (1 + p) 0) → Calls Try.prog 10 #[v, .int .i64 (1 + p), .int .i64 (2 * (1 + p) - 1)] W fun e w' => e = .returned (.bool true) ∧ Below W.heap.size W w' := fun v W h =>
    (fair_yes _ _ (1 + p) (2 * (1 + p) - 1) W (by rw [mixL_len]; omega) h (by omega) (by omega) (by omega) (by omega)).mono fun e w' h => ⟨by rw [h.1, hft], h.2⟩
  have HF := Lib.hid hfair
  clear hft hfair
  have g1 : decide (1 ≤ (1 + p)) = true := by simp; omega
  have g2 : decide ((1 + p) ≤ 4) = true := by simp; omega
  go_enter Try.func5, Try.ntmps5
  go_wp2_with fail
  refine (mix_yes _ _ _ _ (by omega) (by omega)).mono ?_
  rintro e w1 ⟨v, rfl, hown, hb⟩
  rw [HMM.out] at hown
  have hv : PkAt w1 v (mixL s (1 + p) 0) := PkAt.own (base := w.heap.size) (by rw [mixL_len]; exact hown)
  have HV := Lib.hid hv
  clear hown
  obtain ⟨A, c, hvv, hx⟩ := hv
  rw [mixL_len] at hvv
  subst hvv
  clear hx
  go_wp2_with fail
  refine (rmix_yes _ _ _ _ (by omega) (by omega)).mono ?_
  rintro e w2 ⟨v, rfl, hown, hb2⟩
  rw [HMM.out] at hown
  have hv2 : PkAt w2 v (mixL s (1 + p) 0) := PkAt.own (base := w1.heap.size) (by rw [mixL_len]; exact hown)
  have HV2 := Lib.hid hv2
  have HS : Hid (∀ W, Below w2.heap.size w2 W → Calls Try.prog 14 #[.slice A 0 c, v] W fun e w' => e = .returned (.bool true) ∧ Below W.heap.size W w') := fun W hW =>
    (same_any _ _ _ _ W (by rw [mixL_len]; omega) (by rw [mixL_len]; omega) ((HV.out.th hb2).th hW) (HV2.out.th hW)).mono fun e w' h => ⟨by rw [h.1]; simp, h.2⟩
  clear hv2 hown
  go_wp2_with (first
    | (go_at_call 14; refine (HS.out _ (Bre _)).mono ?_; rintro e w3 ⟨rfl, hb3⟩)
    | (go_at_call 8; refine (told_any _).mono ?_; rintro e w4 ⟨rfl, hb4⟩)
    | (go_at_call 10; refine (HF.out _ _ (((HV.out.th hb2).th hb3).th hb4)).mono ?_; rintro e w5 ⟨rfl, hb5⟩))
  go_ret
  exact ⟨rfl, Bth (Bth (Bth (Bth hb hb2) hb3) hb4) hb5⟩
set_option maxHeartbeats 800000 in
theorem law_mix_nearC1 (T0 n s : Int) (M : Nat) (w : World) (hMb : M ≤ 300) (hqq : wrap64 ((IntKind.u64.wrap n).tmod 302) = ((M : Int) + 1)) (hMM : (manyF M).toNat = M) :
    Calls Try.prog 5 #[.int .u64 s, .int .i64 T0, .int .i64 n, .bool false] w fun e w' => e = .returned (.bool true) ∧ Below w.heap.size w w' := by
  obtain ⟨p, hp0, hp1, hpp, _⟩ := umod T0 4 (by omega) (by omega)
  have HMM := Lib.hid hMM
  clear hMM
  have hft := fairB_t (mix_fair s (1 + p) M (by omega) (by omega))
  have hfair : ∀ (v : Value) (W : World), PkAt W v (mixL s (1 + p) M) → Calls Try.prog 10 #[v, .int .i64 (1 + p), .int .i64 (2 * (1 + p) - 1)] W fun e w' => e = .returned (.bool true) ∧ Below W.heap.size W w' := fun v W h =>
    (fair_yes _ _ (1 + p) (2 * (1 + p) - 1) W (by rw [mixL_len]; omega) h (by omega) (by omega) (by omega) (by omega)).mono fun e w' h => ⟨by rw [h.1, hft], h.2⟩
  have HF := Lib.hid hfair
  clear hft hfair
  have g1 : decide (1 ≤ (1 + p)) = true := by simp; omega
  have g2 : decide ((1 + p) ≤ 4) = true := by simp; omega
  go_enter Try.func5, Try.ntmps5
  go_wp2_with fail
  refine (mix_yes _ _ _ _ (by omega) (by omega)).mono ?_
  rintro e w1 ⟨v, rfl, hown, hb⟩
  rw [HMM.out] at hown
  have hv : PkAt w1 v (mixL s (1 + p) M) := PkAt.own (base := w.heap.size) (by rw [mixL_len]; exact hown)
  have HV := Lib.hid hv
  clear hown
  obtain ⟨A, c, hvv, hx⟩ := hv
  rw [mixL_len] at hvv
  subst hvv
  clear hx
  go_wp2_with fail
  refine (rmix_yes _ _ _ _ (by omega) (by omega)).mono ?_
  rintro e w2 ⟨v, rfl, hown, hb2⟩
  rw [HMM.out] at hown
  have hv2 : PkAt w2 v (mixL s (1 + p) M) := PkAt.own (base := w1.heap.size) (by rw [mixL_len]; exact hown)
  have HV2 := Lib.hid hv2
  have HS : Hid (∀ W, Below w2.heap.size w2 W → Calls Try.prog 14 #[.slice A M c, v] W fun e w' => e = .returned (.bool true) ∧ Below W.heap.size W w') := fun W hW =>
    (same_any _ _ _ _ W (by rw [mixL_len]; omega) (by rw [mixL_len]; omega) ((HV.out.th hb2).th hW) (HV2.out.th hW)).mono fun e w' h => ⟨by rw [h.1]; simp, h.2⟩
  clear hv2 hown
  go_wp2_with (first
    | (go_at_call 14; refine (HS.out _ (Bre _)).mono ?_; rintro e w3 ⟨rfl, hb3⟩)
    | (go_at_call 8; refine (told_any _).mono ?_; rintro e w4 ⟨rfl, hb4⟩)
    | (go_at_call 10; refine (HF.out _ _ (((HV.out.th hb2).th hb3).th hb4)).mono ?_; rintro e w5 ⟨rfl, hb5⟩))
  go_ret
  exact ⟨rfl, Bth (Bth (Bth (Bth hb hb2) hb3) hb4) hb5⟩
theorem law_mix_out (T0 n s : Int) (w : World) (h : T0 < 1 ∨ 4 < T0) :
    Calls Try.prog 5 #[.int .u64 s, .int .i64 T0, .int .i64 n, .bool true] w fun e w' => e = .returned (.bool true) ∧ Below w.heap.size w w' := by
  have hr := fun (m : Int) (W : World) => mix_no T0 m s W h
  have HR := Lib.hid hr
  have hr2 := fun (m : Int) (W : World) => rmix_no T0 m s W h
  have HR2 := Lib.hid hr2
  have hs : ∀ W : World, Calls Try.prog 14 #[.slice none 0 0, .slice none 0 0] W fun e w' => e = .returned (.bool true) ∧ Below W.heap.size W w' := fun W =>
    (same_any _ _ [] [] W (by simp) (by simp) ⟨none, 0, rfl, fun i p h => by simp at h⟩ ⟨none, 0, rfl, fun i p h => by simp at h⟩).mono fun e w' h => ⟨by rw [h.1]; simp, h.2⟩
  have HS := Lib.hid hs
  clear hr hr2 hs
  rcases h with h | h
  · go_enter Try.func5, Try.ntmps5
    go_wp2_with (first
      | (go_at_call 13; refine (HR.out _ _).mono ?_; rintro e w' ⟨rfl, rfl⟩)
      | (go_at_call 15; refine (HR2.out _ _).mono ?_; rintro e w' ⟨rfl, rfl⟩)
      | (go_at_call 14; refine (HS.out _).mono ?_; rintro e w1 ⟨rfl, hb1⟩)
      | (go_at_call 8; refine (told_any _).mono ?_; rintro e w2 ⟨rfl, hb2⟩))
    go_ret
    exact ⟨rfl, Bth hb1 hb2⟩
  · have h' : ¬ T0 < 1 := by omega
    go_enter Try.func5, Try.ntmps5
    go_wp2_with (first
      | (go_at_call 13; refine (HR.out _ _).mono ?_; rintro e w' ⟨rfl, rfl⟩)
      | (go_at_call 15; refine (HR2.out _ _).mono ?_; rintro e w' ⟨rfl, rfl⟩)
      | (go_at_call 14; refine (HS.out _).mono ?_; rintro e w1 ⟨rfl, hb1⟩)
      | (go_at_call 8; refine (told_any _).mono ?_; rintro e w2 ⟨rfl, hb2⟩))
    go_ret
    exact ⟨rfl, Bth hb1 hb2⟩
theorem law_mix (T0 n s : Int) (raw : Bool) (w : World) : Calls Try.prog 5 #[.int .u64 s, .int .i64 T0, .int .i64 n, .bool raw] w fun e w' => e = .returned (.bool true) ∧ Below w.heap.size w w' := by
  obtain ⟨q, hq0, hq1, hqq, _⟩ := umod n 302 (by omega) (by omega)
  cases raw
  · by_cases h : q = 0
    · subst h
      exact law_mix_nearC0 T0 n s w hqq (by decide)
    · obtain ⟨M, hM⟩ : ∃ M : Nat, q = (M : Int) + 1 := ⟨(q - 1).toNat, by omega⟩
      subst hM
      exact law_mix_nearC1 T0 n s M w (by omega) hqq (by unfold manyF; omega)
  · by_cases h : 1 ≤ T0 ∧ T0 ≤ 4
    · by_cases h0 : q = 0
      · subst h0
        exact law_mix_rawC0 T0 n s w h.1 h.2 hqq (by decide)
      · obtain ⟨M, hM⟩ : ∃ M : Nat, q = (M : Int) + 1 := ⟨(q - 1).toNat, by omega⟩
        subst hM
        exact law_mix_rawC1 T0 n s M w h.1 h.2 (by omega) hqq (by unfold manyF; omega)
    · exact law_mix_out T0 n s w (by omega)
end Go.Proofs.Ytbfoeinjopgnpaa
