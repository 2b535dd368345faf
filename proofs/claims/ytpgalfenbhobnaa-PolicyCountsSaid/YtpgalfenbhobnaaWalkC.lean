/-
  policy.Delay, the reference's Delay, told, and the law PolicyDelay as a walk.
-/
import Derived.Test.YtpgalfenbhobnaaWalkA
set_option linter.unusedVariables false
namespace Go.Proofs.Ytpgalfenbhobnaa
open Go.RowKit
set_option maxHeartbeats 400000
/-- The units of a wait behind so many tries. -/
def unitF (t : Int) : Int := if t ≤ 0 then 1 else if t = 1 then 2 else if t = 2 then 4 else if t = 3 then 8 else 16
def delayF (t d : Int) : Int := if t ≤ 0 ∨ d < 0 then 0 else d % unitF t
theorem delay_any (t d : Int) (w : World) (h1 : -9223372036854775808 ≤ t) (h2 : t ≤ 9223372036854775807) (h3 : -9223372036854775808 ≤ d) (h4 : d ≤ 9223372036854775807) :
    Calls Try.prog 7 #[.int .i64 t, .int .i64 d] w fun e w' => e = .returned (.int .i64 (delayF t d)) ∧ w = w' := by
  by_cases ht : t ≤ 0
  · go_enter Try.func7, Try.ntmps7
    go_wp2
    go_ret
    exact ⟨by simp [delayF, ht], rfl⟩
  · by_cases hd : d < 0
    · go_enter Try.func7, Try.ntmps7
      go_wp2
      go_ret
      exact ⟨by simp [delayF, hd], rfl⟩
    · by_cases h : t < 4
      · have h' : t = 1 ∨ t = 2 ∨ t = 3 := by omega
        rcases h' with rfl | rfl | rfl
        all_goals
          go_enter Try.func7, Try.ntmps7
          go_wp2
          go_ret
          refine ⟨by simp [delayF, unitF]; omega, rfl⟩
      · have e : wrap64 16 = 16 := by unfold wrap64; decide
        by_cases h4' : t = 4
        · subst h4'
          go_enter Try.func7, Try.ntmps7
          go_wp2
          go_ret
          exact ⟨by simp [delayF, unitF]; omega, rfl⟩
        · have h5 : 4 < t := by omega
          have e1 : unitF t = 16 := by unfold unitF; repeat (rw [if_neg (by omega)])
          have E1 := Lib.hid e1
          clear e1 h4'
          go_enter Try.func7, Try.ntmps7
          go_wp2
          go_ret
          refine ⟨by rw [delayF, if_neg (by omega), E1.out]; rfl, rfl⟩
theorem ref_delay (t d : Int) (w : World) (h1 : -9223372036854775808 ≤ t) (h2 : t ≤ 9223372036854775807) (h3 : -9223372036854775808 ≤ d) (h4 : d ≤ 9223372036854775807) :
    Calls Try.prog 11 #[.int .i64 t, .int .i64 d] w fun e w' => e = .returned (.int .i64 (delayF t d)) ∧ w = w' := by
  go_enter Try.func11, Try.ntmps11
  go_wp2
  go_loop [5, 6] (fun n i => ∃ k : Nat, (k : Int) ≤ 4 ∧ ((k : Int) ≤ t ∨ k = 0) ∧ i = .int .i64 k ∧ n = .int .i64 (unitF k)) (fun _ i => 4 - (intOf i).toNat)
  case atStart => exact ⟨0, by omega, by omega, rfl, rfl⟩
  case round =>
    obtain ⟨k, hk, hkt, rfl, rfl⟩ := hrel
    have hb : 1 ≤ unitF k ∧ unitF k ≤ 16 := by unfold unitF; repeat (first | omega | split)
    by_cases hlt : (k : Int) < 4 ∧ (k : Int) < t
    · obtain ⟨ha, hb'⟩ := hlt
      have HS : Hid (unitF (k + 1 : Nat) = unitF k * 2) := by
        have : k = 0 ∨ k = 1 ∨ k = 2 ∨ k = 3 := by omega
        rcases this with rfl | rfl | rfl | rfl <;> rfl
      go_wp2
      go_round
      case rel => exact ⟨k + 1, by omega, by omega, by go_num, by rw [HS.out]⟩
      case measure => simp [intOf]; omega
    · have he : unitF t = unitF k := by
        by_cases h0 : t ≤ 0
        · have : k = 0 := by omega
          subst this; unfold unitF; rw [if_pos h0, if_pos (by omega)]
        · by_cases h4 : t < 4
          · have : t = k := by omega
            rw [this]
          · have : k = 4 := by omega
            subst this; unfold unitF; repeat (rw [if_neg (by omega)])
      have HE := Lib.hid he
      clear he
      have hz : ¬ unitF k = 0 := by omega
      by_cases hd : d < 0
      · by_cases ha : (k : Int) < 4
        all_goals
          go_wp2
          go_ret
          exact ⟨by simp [delayF, hd], rfl⟩
      · have hf : delayF t d = d % unitF k := by
          unfold delayF
          by_cases h0 : t ≤ 0
          · have e1 : unitF t = 1 := by unfold unitF; rw [if_pos h0]
            rw [if_pos (by omega), ← HE.out, e1]; omega
          · rw [if_neg (by omega), HE.out]
        have HF := Lib.hid hf
        clear hf
        by_cases ha : (k : Int) < 4
        all_goals
          go_wp2
          go_ret
          exact ⟨by rw [HF.out]; rfl, rfl⟩
theorem told_1 (w : World) : Calls Try.prog 9 #[.agg #[.int .i64 0, .int .i64 0, .int .i64 0, .int .i64 0, .int .i64 0, .int .i64 0, .int .i64 0, .int .i64 0, .int .i64 0, .int .i64 0], .int .i64 4, .int .i64 5] w fun e w' =>
    e = .returned (.tuple #[.agg #[.int .i64 1, .int .i64 0, .int .i64 0, .int .i64 0, .int .i64 0, .int .i64 1, .int .i64 0, .int .i64 0, .int .i64 0, .int .i64 0], .bool true]) ∧ Below w.heap.size w w' :=
  (after_any 0 0 0 0 0 0 0 0 0 0 4 5 w (by omega) (by omega) (by omega) (by omega) (by omega) (by omega) (by omega)).mono fun e w' h => ⟨by rw [h.1]; simp [moreF, up], h.2⟩
theorem told_2 (w : World) : Calls Try.prog 9 #[.agg #[.int .i64 1, .int .i64 0, .int .i64 0, .int .i64 0, .int .i64 0, .int .i64 1, .int .i64 0, .int .i64 0, .int .i64 0, .int .i64 0], .int .i64 2, .int .i64 5] w fun e w' =>
    e = .returned (.tuple #[.agg #[.int .i64 2, .int .i64 0, .int .i64 0, .int .i64 1, .int .i64 0, .int .i64 1, .int .i64 0, .int .i64 0, .int .i64 0, .int .i64 0], .bool false]) ∧ Below w.heap.size w w' :=
  (after_any 1 0 0 0 0 1 0 0 0 0 2 5 w (by omega) (by omega) (by omega) (by omega) (by omega) (by omega) (by omega)).mono fun e w' h => ⟨by rw [h.1]; simp [moreF, up], h.2⟩
theorem told_3 (w : World) : Calls Try.prog 7 #[.int .i64 2, .int .i64 7] w fun e w' => e = .returned (.int .i64 3) ∧ w = w' :=
  (delay_any 2 7 w (by omega) (by omega) (by omega) (by omega)).mono fun e w' h => ⟨by rw [h.1]; simp [delayF, unitF], h.2⟩
theorem told_any (w : World) : Calls Try.prog 8 #[] w fun e w' => e = .returned (.bool true) ∧ Below w.heap.size w w' := by
  go_enter Try.func8, Try.ntmps8
  go_wp2_with fail
  refine (told_1 _).mono ?_
  rintro e w1 ⟨rfl, hb⟩
  go_wp2_with fail
  refine (told_2 _).mono ?_
  rintro e w2 ⟨rfl, hb2⟩
  obtain ⟨hc, hf⟩ := bcell hb2
  have hz : w1.heap.size < w2.heap.size := by have := hb2.size; simp at this; omega
  go_wp2_with (go_at_call 7; refine (told_3 _).mono ?_; rintro e w' ⟨rfl, rfl⟩)
  go_ret
  exact ⟨rfl, Bal (Bth (Bal hb _) hb2) _⟩
/-- 'uint(x) % m' as a number. -/
theorem umod (x m : Int) (hm : 0 < m) (hm' : m ≤ 4611686018427387904) : ∃ k, 0 ≤ k ∧ k < m ∧ wrap64 ((IntKind.u64.wrap x).tmod m) = k ∧ (IntKind.u64.wrap x).tmod m = k := by
  have h0 : IntKind.u64.wrap x = x % 18446744073709551616 := by
    simp [IntKind.wrap, IntKind.bits, IntKind.signed]
  have h1 : 0 ≤ x % 18446744073709551616 := Int.emod_nonneg _ (by omega)
  have h2 : (IntKind.u64.wrap x).tmod m = (x % 18446744073709551616) % m := by rw [h0, Int.tmod_eq_emod_of_nonneg h1]
  have h3 := Int.emod_nonneg (x % 18446744073709551616) (show m ≠ 0 by omega)
  have h4 := Int.emod_lt_of_pos (x % 18446744073709551616) hm
  refine ⟨_, h3, h4, ?_, h2⟩
  rw [h2]
  generalize (x % 18446744073709551616) % m = y at h3 h4 ⊢
  unfold wrap64; omega
theorem delay_lo (k u n : Int) (hu : unitF k = u) (h0 : 0 ≤ n) (h1 : n < u) (hk : 0 ≤ k) : delayF k n = n := by
  unfold delayF
  by_cases h : k ≤ 0
  · have : u = 1 := by rw [← hu]; unfold unitF; rw [if_pos h]
    rw [if_pos (by omega)]; omega
  · rw [if_neg (by omega), hu]; exact Int.emod_eq_of_lt h0 h1
theorem delay_hi (k u n q : Int) (hu : unitF k = u) (h0 : 0 ≤ n) (h1 : n < u) (hq : 0 ≤ q) (hk : 0 ≤ k) : delayF k (n + u * q) = n := by
  unfold delayF
  by_cases h : k ≤ 0
  · have : u = 1 := by rw [← hu]; unfold unitF; rw [if_pos h]
    rw [if_pos (by omega)]; omega
  · rw [if_neg (by have := Int.mul_nonneg (show 0 ≤ u by omega) hq; omega), hu, Int.add_mul_emod_self_left]; exact Int.emod_eq_of_lt h0 h1
theorem delay_bd (k u d : Int) (hu : unitF k = u) (h : 0 < u) : 0 ≤ delayF k d ∧ delayF k d ≤ u - 1 := by
  unfold delayF
  split
  · omega
  · rw [hu]; have := Int.emod_nonneg d (show u ≠ 0 by omega); have := Int.emod_lt_of_pos d h; omega
theorem law_delay0 (tries draw : Int) (w : World) (h1 : -9223372036854775808 ≤ tries) (h2 : tries ≤ 9223372036854775807) (h3 : -9223372036854775808 ≤ draw) (h4 : draw ≤ 9223372036854775807)
    (hkk : wrap64 ((IntKind.u64.wrap tries).tmod 8) = 0) :
    Calls Try.prog 3 #[.int .i64 tries, .int .i64 draw] w fun e w' => e = .returned (.bool true) ∧ Below w.heap.size w w' := by
  obtain ⟨q, hq0, hq1, hqq, _⟩ := umod draw 1000 (by omega) (by omega)
  have hu : unitF 0 = 1 := by decide
  have hbd := delay_bd 0 1 draw hu (by omega)
  have hz0 : (delayF 0 draw == 0) = true := by simp [delayF]
  have hz1 : (delayF (-1) draw == 0) = true := by simp [delayF]
  have HU := Lib.hid hu
  clear hu
  go_enter Try.func3, Try.ntmps3
  go_wp2_with (go_at_call 7; refine (delay_any _ _ _ (by omega) (by omega) (by omega) (by omega)).mono ?_; rintro e w' ⟨rfl, rfl⟩)
  go_loop [8] (fun i => ∃ n : Int, 0 ≤ n ∧ n ≤ 1 ∧ i = .int .i64 n) (fun i => 20 - (intOf i).toNat)
  case atStart => exact ⟨0, by omega, by omega, rfl⟩
  case round =>
    obtain ⟨n, hn0, hn1, rfl⟩ := hrel
    by_cases hlt : n < 1
    · have b1 : (delayF 0 n != n) = false := by simp [delay_lo 0 _ n HU.out hn0 hlt]
      have b2 : (delayF 0 (n + q) != n) = false := by have := delay_hi 0 _ n q HU.out hn0 hlt hq0; simp at this; simp [this]
      go_wp2_with (go_at_call 7; refine (delay_any _ _ _ (by omega) (by omega) (by omega) (by omega)).mono ?_; rintro e w' ⟨rfl, rfl⟩)
      go_round
      case rel => exact ⟨n + 1, by omega, by omega, rfl⟩
      case measure => simp [intOf]; omega
    · go_wp2_with (first
        | (go_at_call 7; refine (delay_any _ _ _ (by omega) (by omega) (by omega) (by omega)).mono ?_; rintro e w' ⟨rfl, rfl⟩)
        | (go_at_call 8; refine (told_any _).mono ?_; rintro e w2 ⟨rfl, hb⟩))
      go_ret
      exact ⟨rfl, Bth (Bal (Below.refl _ _) _) hb⟩
theorem law_delay1 (tries draw : Int) (w : World) (h1 : -9223372036854775808 ≤ tries) (h2 : tries ≤ 9223372036854775807) (h3 : -9223372036854775808 ≤ draw) (h4 : draw ≤ 9223372036854775807)
    (hkk : wrap64 ((IntKind.u64.wrap tries).tmod 8) = 1) :
    Calls Try.prog 3 #[.int .i64 tries, .int .i64 draw] w fun e w' => e = .returned (.bool true) ∧ Below w.heap.size w w' := by
  obtain ⟨q, hq0, hq1, hqq, _⟩ := umod draw 1000 (by omega) (by omega)
  have hu : unitF 1 = 2 := by decide
  have hbd := delay_bd 1 2 draw hu (by omega)
  have hz0 : (delayF 0 draw == 0) = true := by simp [delayF]
  have hz1 : (delayF (-1) draw == 0) = true := by simp [delayF]
  have HU := Lib.hid hu
  clear hu
  go_enter Try.func3, Try.ntmps3
  go_wp2_with (go_at_call 7; refine (delay_any _ _ _ (by omega) (by omega) (by omega) (by omega)).mono ?_; rintro e w' ⟨rfl, rfl⟩)
  go_loop [8] (fun i => ∃ n : Int, 0 ≤ n ∧ n ≤ 2 ∧ i = .int .i64 n) (fun i => 20 - (intOf i).toNat)
  case atStart => exact ⟨0, by omega, by omega, rfl⟩
  case round =>
    obtain ⟨n, hn0, hn1, rfl⟩ := hrel
    by_cases hlt : n < 2
    · have b1 : (delayF 1 n != n) = false := by simp [delay_lo 1 _ n HU.out hn0 hlt]
      have b2 : (delayF 1 (n + 2 * q) != n) = false := by have := delay_hi 1 _ n q HU.out hn0 hlt hq0; simp at this; simp [this]
      go_wp2_with (go_at_call 7; refine (delay_any _ _ _ (by omega) (by omega) (by omega) (by omega)).mono ?_; rintro e w' ⟨rfl, rfl⟩)
      go_round
      case rel => exact ⟨n + 1, by omega, by omega, rfl⟩
      case measure => simp [intOf]; omega
    · go_wp2_with (first
        | (go_at_call 7; refine (delay_any _ _ _ (by omega) (by omega) (by omega) (by omega)).mono ?_; rintro e w' ⟨rfl, rfl⟩)
        | (go_at_call 8; refine (told_any _).mono ?_; rintro e w2 ⟨rfl, hb⟩))
      go_ret
      exact ⟨rfl, Bth (Bal (Below.refl _ _) _) hb⟩
theorem law_delay2 (tries draw : Int) (w : World) (h1 : -9223372036854775808 ≤ tries) (h2 : tries ≤ 9223372036854775807) (h3 : -9223372036854775808 ≤ draw) (h4 : draw ≤ 9223372036854775807)
    (hkk : wrap64 ((IntKind.u64.wrap tries).tmod 8) = 2) :
    Calls Try.prog 3 #[.int .i64 tries, .int .i64 draw] w fun e w' => e = .returned (.bool true) ∧ Below w.heap.size w w' := by
  obtain ⟨q, hq0, hq1, hqq, _⟩ := umod draw 1000 (by omega) (by omega)
  have hu : unitF 2 = 4 := by decide
  have hbd := delay_bd 2 4 draw hu (by omega)
  have hz0 : (delayF 0 draw == 0) = true := by simp [delayF]
  have hz1 : (delayF (-1) draw == 0) = true := by simp [delayF]
  have HU := Lib.hid hu
  clear hu
  go_enter Try.func3, Try.ntmps3
  go_wp2_with (go_at_call 7; refine (delay_any _ _ _ (by omega) (by omega) (by omega) (by omega)).mono ?_; rintro e w' ⟨rfl, rfl⟩)
  go_loop [8] (fun i => ∃ n : Int, 0 ≤ n ∧ n ≤ 4 ∧ i = .int .i64 n) (fun i => 20 - (intOf i).toNat)
  case atStart => exact ⟨0, by omega, by omega, rfl⟩
  case round =>
    obtain ⟨n, hn0, hn1, rfl⟩ := hrel
    by_cases hlt : n < 4
    · have b1 : (delayF 2 n != n) = false := by simp [delay_lo 2 _ n HU.out hn0 hlt]
      have b2 : (delayF 2 (n + 4 * q) != n) = false := by have := delay_hi 2 _ n q HU.out hn0 hlt hq0; simp at this; simp [this]
      go_wp2_with (go_at_call 7; refine (delay_any _ _ _ (by omega) (by omega) (by omega) (by omega)).mono ?_; rintro e w' ⟨rfl, rfl⟩)
      go_round
      case rel => exact ⟨n + 1, by omega, by omega, rfl⟩
      case measure => simp [intOf]; omega
    · go_wp2_with (first
        | (go_at_call 7; refine (delay_any _ _ _ (by omega) (by omega) (by omega) (by omega)).mono ?_; rintro e w' ⟨rfl, rfl⟩)
        | (go_at_call 8; refine (told_any _).mono ?_; rintro e w2 ⟨rfl, hb⟩))
      go_ret
      exact ⟨rfl, Bth (Bal (Below.refl _ _) _) hb⟩
theorem law_delay3 (tries draw : Int) (w : World) (h1 : -9223372036854775808 ≤ tries) (h2 : tries ≤ 9223372036854775807) (h3 : -9223372036854775808 ≤ draw) (h4 : draw ≤ 9223372036854775807)
    (hkk : wrap64 ((IntKind.u64.wrap tries).tmod 8) = 3) :
    Calls Try.prog 3 #[.int .i64 tries, .int .i64 draw] w fun e w' => e = .returned (.bool true) ∧ Below w.heap.size w w' := by
  obtain ⟨q, hq0, hq1, hqq, _⟩ := umod draw 1000 (by omega) (by omega)
  have hu : unitF 3 = 8 := by decide
  have hbd := delay_bd 3 8 draw hu (by omega)
  have hz0 : (delayF 0 draw == 0) = true := by simp [delayF]
  have hz1 : (delayF (-1) draw == 0) = true := by simp [delayF]
  have HU := Lib.hid hu
  clear hu
  go_enter Try.func3, Try.ntmps3
  go_wp2_with (go_at_call 7; refine (delay_any _ _ _ (by omega) (by omega) (by omega) (by omega)).mono ?_; rintro e w' ⟨rfl, rfl⟩)
  go_loop [8] (fun i => ∃ n : Int, 0 ≤ n ∧ n ≤ 8 ∧ i = .int .i64 n) (fun i => 20 - (intOf i).toNat)
  case atStart => exact ⟨0, by omega, by omega, rfl⟩
  case round =>
    obtain ⟨n, hn0, hn1, rfl⟩ := hrel
    by_cases hlt : n < 8
    · have b1 : (delayF 3 n != n) = false := by simp [delay_lo 3 _ n HU.out hn0 hlt]
      have b2 : (delayF 3 (n + 8 * q) != n) = false := by have := delay_hi 3 _ n q HU.out hn0 hlt hq0; simp at this; simp [this]
      go_wp2_with (go_at_call 7; refine (delay_any _ _ _ (by omega) (by omega) (by omega) (by omega)).mono ?_; rintro e w' ⟨rfl, rfl⟩)
      go_round
      case rel => exact ⟨n + 1, by omega, by omega, rfl⟩
      case measure => simp [intOf]; omega
    · go_wp2_with (first
        | (go_at_call 7; refine (delay_any _ _ _ (by omega) (by omega) (by omega) (by omega)).mono ?_; rintro e w' ⟨rfl, rfl⟩)
        | (go_at_call 8; refine (told_any _).mono ?_; rintro e w2 ⟨rfl, hb⟩))
      go_ret
      exact ⟨rfl, Bth (Bal (Below.refl _ _) _) hb⟩
theorem law_delay4 (tries draw : Int) (w : World) (h1 : -9223372036854775808 ≤ tries) (h2 : tries ≤ 9223372036854775807) (h3 : -9223372036854775808 ≤ draw) (h4 : draw ≤ 9223372036854775807)
    (hkk : wrap64 ((IntKind.u64.wrap tries).tmod 8) = 4) :
    Calls Try.prog 3 #[.int .i64 tries, .int .i64 draw] w fun e w' => e = .returned (.bool true) ∧ Below w.heap.size w w' := by
  obtain ⟨q, hq0, hq1, hqq, _⟩ := umod draw 1000 (by omega) (by omega)
  have hu : unitF 4 = 16 := by decide
  have hbd := delay_bd 4 16 draw hu (by omega)
  have hz0 : (delayF 0 draw == 0) = true := by simp [delayF]
  have hz1 : (delayF (-1) draw == 0) = true := by simp [delayF]
  have HU := Lib.hid hu
  clear hu
  go_enter Try.func3, Try.ntmps3
  go_wp2_with (go_at_call 7; refine (delay_any _ _ _ (by omega) (by omega) (by omega) (by omega)).mono ?_; rintro e w' ⟨rfl, rfl⟩)
  go_loop [8] (fun i => ∃ n : Int, 0 ≤ n ∧ n ≤ 16 ∧ i = .int .i64 n) (fun i => 20 - (intOf i).toNat)
  case atStart => exact ⟨0, by omega, by omega, rfl⟩
  case round =>
    obtain ⟨n, hn0, hn1, rfl⟩ := hrel
    by_cases hlt : n < 16
    · have b1 : (delayF 4 n != n) = false := by simp [delay_lo 4 _ n HU.out hn0 hlt]
      have b2 : (delayF 4 (n + 16 * q) != n) = false := by have := delay_hi 4 _ n q HU.out hn0 hlt hq0; simp at this; simp [this]
      go_wp2_with (go_at_call 7; refine (delay_any _ _ _ (by omega) (by omega) (by omega) (by omega)).mono ?_; rintro e w' ⟨rfl, rfl⟩)
      go_round
      case rel => exact ⟨n + 1, by omega, by omega, rfl⟩
      case measure => simp [intOf]; omega
    · go_wp2_with (first
        | (go_at_call 7; refine (delay_any _ _ _ (by omega) (by omega) (by omega) (by omega)).mono ?_; rintro e w' ⟨rfl, rfl⟩)
        | (go_at_call 8; refine (told_any _).mono ?_; rintro e w2 ⟨rfl, hb⟩))
      go_ret
      exact ⟨rfl, Bth (Bal (Below.refl _ _) _) hb⟩
theorem law_delay5 (tries draw : Int) (w : World) (h1 : -9223372036854775808 ≤ tries) (h2 : tries ≤ 9223372036854775807) (h3 : -9223372036854775808 ≤ draw) (h4 : draw ≤ 9223372036854775807)
    (hkk : wrap64 ((IntKind.u64.wrap tries).tmod 8) = 5) :
    Calls Try.prog 3 #[.int .i64 tries, .int .i64 draw] w fun e w' => e = .returned (.bool true) ∧ Below w.heap.size w w' := by
  obtain ⟨q, hq0, hq1, hqq, _⟩ := umod draw 1000 (by omega) (by omega)
  have hu : unitF 5 = 16 := by decide
  have hbd := delay_bd 5 16 draw hu (by omega)
  have hz0 : (delayF 0 draw == 0) = true := by simp [delayF]
  have hz1 : (delayF (-1) draw == 0) = true := by simp [delayF]
  have HU := Lib.hid hu
  clear hu
  go_enter Try.func3, Try.ntmps3
  go_wp2_with (go_at_call 7; refine (delay_any _ _ _ (by omega) (by omega) (by omega) (by omega)).mono ?_; rintro e w' ⟨rfl, rfl⟩)
  go_loop [8] (fun i => ∃ n : Int, 0 ≤ n ∧ n ≤ 16 ∧ i = .int .i64 n) (fun i => 20 - (intOf i).toNat)
  case atStart => exact ⟨0, by omega, by omega, rfl⟩
  case round =>
    obtain ⟨n, hn0, hn1, rfl⟩ := hrel
    by_cases hlt : n < 16
    · have b1 : (delayF 5 n != n) = false := by simp [delay_lo 5 _ n HU.out hn0 hlt]
      have b2 : (delayF 5 (n + 16 * q) != n) = false := by have := delay_hi 5 _ n q HU.out hn0 hlt hq0; simp at this; simp [this]
      go_wp2_with (go_at_call 7; refine (delay_any _ _ _ (by omega) (by omega) (by omega) (by omega)).mono ?_; rintro e w' ⟨rfl, rfl⟩)
      go_round
      case rel => exact ⟨n + 1, by omega, by omega, rfl⟩
      case measure => simp [intOf]; omega
    · go_wp2_with (first
        | (go_at_call 7; refine (delay_any _ _ _ (by omega) (by omega) (by omega) (by omega)).mono ?_; rintro e w' ⟨rfl, rfl⟩)
        | (go_at_call 8; refine (told_any _).mono ?_; rintro e w2 ⟨rfl, hb⟩))
      go_ret
      exact ⟨rfl, Bth (Bal (Below.refl _ _) _) hb⟩
theorem law_delay6 (tries draw : Int) (w : World) (h1 : -9223372036854775808 ≤ tries) (h2 : tries ≤ 9223372036854775807) (h3 : -9223372036854775808 ≤ draw) (h4 : draw ≤ 9223372036854775807)
    (hkk : wrap64 ((IntKind.u64.wrap tries).tmod 8) = 6) :
    Calls Try.prog 3 #[.int .i64 tries, .int .i64 draw] w fun e w' => e = .returned (.bool true) ∧ Below w.heap.size w w' := by
  obtain ⟨q, hq0, hq1, hqq, _⟩ := umod draw 1000 (by omega) (by omega)
  have hu : unitF 6 = 16 := by decide
  have hbd := delay_bd 6 16 draw hu (by omega)
  have hz0 : (delayF 0 draw == 0) = true := by simp [delayF]
  have hz1 : (delayF (-1) draw == 0) = true := by simp [delayF]
  have HU := Lib.hid hu
  clear hu
  go_enter Try.func3, Try.ntmps3
  go_wp2_with (go_at_call 7; refine (delay_any _ _ _ (by omega) (by omega) (by omega) (by omega)).mono ?_; rintro e w' ⟨rfl, rfl⟩)
  go_loop [8] (fun i => ∃ n : Int, 0 ≤ n ∧ n ≤ 16 ∧ i = .int .i64 n) (fun i => 20 - (intOf i).toNat)
  case atStart => exact ⟨0, by omega, by omega, rfl⟩
  case round =>
    obtain ⟨n, hn0, hn1, rfl⟩ := hrel
    by_cases hlt : n < 16
    · have b1 : (delayF 6 n != n) = false := by simp [delay_lo 6 _ n HU.out hn0 hlt]
      have b2 : (delayF 6 (n + 16 * q) != n) = false := by have := delay_hi 6 _ n q HU.out hn0 hlt hq0; simp at this; simp [this]
      go_wp2_with (go_at_call 7; refine (delay_any _ _ _ (by omega) (by omega) (by omega) (by omega)).mono ?_; rintro e w' ⟨rfl, rfl⟩)
      go_round
      case rel => exact ⟨n + 1, by omega, by omega, rfl⟩
      case measure => simp [intOf]; omega
    · go_wp2_with (first
        | (go_at_call 7; refine (delay_any _ _ _ (by omega) (by omega) (by omega) (by omega)).mono ?_; rintro e w' ⟨rfl, rfl⟩)
        | (go_at_call 8; refine (told_any _).mono ?_; rintro e w2 ⟨rfl, hb⟩))
      go_ret
      exact ⟨rfl, Bth (Bal (Below.refl _ _) _) hb⟩
theorem law_delay7 (tries draw : Int) (w : World) (h1 : -9223372036854775808 ≤ tries) (h2 : tries ≤ 9223372036854775807) (h3 : -9223372036854775808 ≤ draw) (h4 : draw ≤ 9223372036854775807)
    (hkk : wrap64 ((IntKind.u64.wrap tries).tmod 8) = 7) :
    Calls Try.prog 3 #[.int .i64 tries, .int .i64 draw] w fun e w' => e = .returned (.bool true) ∧ Below w.heap.size w w' := by
  obtain ⟨q, hq0, hq1, hqq, _⟩ := umod draw 1000 (by omega) (by omega)
  have hu : unitF 7 = 16 := by decide
  have hbd := delay_bd 7 16 draw hu (by omega)
  have hz0 : (delayF 0 draw == 0) = true := by simp [delayF]
  have hz1 : (delayF (-1) draw == 0) = true := by simp [delayF]
  have HU := Lib.hid hu
  clear hu
  go_enter Try.func3, Try.ntmps3
  go_wp2_with (go_at_call 7; refine (delay_any _ _ _ (by omega) (by omega) (by omega) (by omega)).mono ?_; rintro e w' ⟨rfl, rfl⟩)
  go_loop [8] (fun i => ∃ n : Int, 0 ≤ n ∧ n ≤ 16 ∧ i = .int .i64 n) (fun i => 20 - (intOf i).toNat)
  case atStart => exact ⟨0, by omega, by omega, rfl⟩
  case round =>
    obtain ⟨n, hn0, hn1, rfl⟩ := hrel
    by_cases hlt : n < 16
    · have b1 : (delayF 7 n != n) = false := by simp [delay_lo 7 _ n HU.out hn0 hlt]
      have b2 : (delayF 7 (n + 16 * q) != n) = false := by have := delay_hi 7 _ n q HU.out hn0 hlt hq0; simp at this; simp [this]
      go_wp2_with (go_at_call 7; refine (delay_any _ _ _ (by omega) (by omega) (by omega) (by omega)).mono ?_; rintro e w' ⟨rfl, rfl⟩)
      go_round
      case rel => exact ⟨n + 1, by omega, by omega, rfl⟩
      case measure => simp [intOf]; omega
    · go_wp2_with (first
        | (go_at_call 7; refine (delay_any _ _ _ (by omega) (by omega) (by omega) (by omega)).mono ?_; rintro e w' ⟨rfl, rfl⟩)
        | (go_at_call 8; refine (told_any _).mono ?_; rintro e w2 ⟨rfl, hb⟩))
      go_ret
      exact ⟨rfl, Bth (Bal (Below.refl _ _) _) hb⟩
theorem law_delay (tries draw : Int) (w : World) (h1 : -9223372036854775808 ≤ tries) (h2 : tries ≤ 9223372036854775807) (h3 : -9223372036854775808 ≤ draw) (h4 : draw ≤ 9223372036854775807) :
    Calls Try.prog 3 #[.int .i64 tries, .int .i64 draw] w fun e w' => e = .returned (.bool true) ∧ Below w.heap.size w w' := by
  obtain ⟨k, hk0, hk1, hkk, _⟩ := umod tries 8 (by omega) (by omega)
  have hcs : k = 0 ∨ k = 1 ∨ k = 2 ∨ k = 3 ∨ k = 4 ∨ k = 5 ∨ k = 6 ∨ k = 7 := by omega
  rcases hcs with rfl | rfl | rfl | rfl | rfl | rfl | rfl | rfl
  · exact law_delay0 tries draw w h1 h2 h3 h4 hkk
  · exact law_delay1 tries draw w h1 h2 h3 h4 hkk
  · exact law_delay2 tries draw w h1 h2 h3 h4 hkk
  · exact law_delay3 tries draw w h1 h2 h3 h4 hkk
  · exact law_delay4 tries draw w h1 h2 h3 h4 hkk
  · exact law_delay5 tries draw w h1 h2 h3 h4 hkk
  · exact law_delay6 tries draw w h1 h2 h3 h4 hkk
  · exact law_delay7 tries draw w h1 h2 h3 h4 hkk
end Go.Proofs.Ytpgalfenbhobnaa
