/-
  Mix, the reference's.
-/
import Derived.Test.YtbfoeinjopgnpaaMix
set_option linter.unusedVariables false
namespace Go.Proofs.Ytbfoeinjopgnpaa
open Go.RowKit
theorem rpos_up (T f : Int) (j : Nat) (h1 : 1 ≤ T) (h2 : T ≤ 4) (f0 : 0 ≤ f) (f1 : f < T) (hj : (j : Int) < T) : (f + j) % T = posF T f false j := by
  simp [posF]
theorem rpos_down (T f : Int) (j : Nat) (h1 : 1 ≤ T) (h2 : T ≤ 4) (f0 : 0 ≤ f) (f1 : f < T) (hj : (j : Int) < T) : (f - j + T) % T = posF T f true j := by
  have : T = 1 ∨ T = 2 ∨ T = 3 ∨ T = 4 := by omega
  simp only [posF, if_true]
  rcases this with rfl | rfl | rfl | rfl <;> omega
theorem rmany (n : Int) (w : World) : Calls Try.prog 20 #[.int .i64 n] w fun e w' => e = .returned (.int .i64 (manyF n)) ∧ w = w' := by
  by_cases a : n < 0
  · have : manyF n = 0 := by unfold manyF; omega
    rw [this]
    go_enter Try.func20, Try.ntmps20
    go_wp2_with fail
    go_ret
    exact ⟨rfl, rfl⟩
  · by_cases b : 1048576 < n
    · have : manyF n = 1048576 := by unfold manyF; omega
      rw [this]
      go_enter Try.func20, Try.ntmps20
      go_wp2_with fail
      go_ret
      exact ⟨rfl, rfl⟩
    · have : manyF n = n := by unfold manyF; omega
      rw [this]
      go_enter Try.func20, Try.ntmps20
      go_wp2_with fail
      all_goals
        go_ret
        exact ⟨by first | rfl | (rw [show n = 0 by omega]; rfl), rfl⟩
theorem mix_no (T n s : Int) (w : World) (h : T < 1 ∨ 4 < T) : Calls Try.prog 13 #[.int .u64 s, .int .i64 T, .int .i64 n] w fun e w' => e = .returned (.slice none 0 0) ∧ w = w' := by
  have H := Lib.hid h
  clear h
  go_enter Try.func13, Try.ntmps13
  go_wp2_with (go_at_call 19; refine (many_no _ _ _ H.out).mono ?_; rintro e w' ⟨rfl, rfl⟩)
  go_loop [7] (fun v => v = .slice none 0 0) (fun _ => 0)
  case atStart => rfl
  case round =>
    obtain rfl := hrel
    go_wp2_with fail
    go_ret
    exact ⟨rfl, rfl⟩
theorem rmix_no (T n s : Int) (w : World) (h : T < 1 ∨ 4 < T) : Calls Try.prog 15 #[.int .u64 s, .int .i64 T, .int .i64 n] w fun e w' => e = .returned (.slice none 0 0) ∧ w = w' := by
  rcases h with h | h
  · go_enter Try.func15, Try.ntmps15
    go_wp2_with fail
    go_ret
    exact ⟨rfl, rfl⟩
  · have h' : ¬ T < 1 := by omega
    go_enter Try.func15, Try.ntmps15
    go_wp2_with fail
    go_ret
    exact ⟨rfl, rfl⟩
set_option maxHeartbeats 1600000 in
theorem rmix_yes (T n s : Int) (w : World) (h1 : 1 ≤ T) (h2 : T ≤ 4) :
    Calls Try.prog 15 #[.int .u64 s, .int .i64 T, .int .i64 n] w fun e w' => ∃ v, e = .returned v ∧ w'.ownsRow w.heap.size 29 3 v (manyF n).toNat (pkCells (mixL s T (manyF n).toNat)) ∧ Below w.heap.size w w' := by
  obtain ⟨M, hM⟩ : ∃ M : Nat, manyF n = M := Int.eq_ofNat_of_zero_le (manyF_bd n).1
  have hMb : M ≤ 1048576 := by have := (manyF_bd n).2; omega
  have HM := Lib.hid hM
  rw [hM]
  clear hM
  simp only [Int.toNat_natCast]
  obtain ⟨i0, hi, hz0, hz1, hz2⟩ := info_parts info29
  have hmany : ∀ W : World, Calls Try.prog 20 #[.int .i64 n] W fun e w' => e = .returned (.int .i64 M) ∧ W = w' := fun W => (rmany n W).mono fun e w' h => ⟨by rw [h.1, HM.out], h.2⟩
  have HC := Lib.hid hmany
  clear hmany
  have hT0 : ¬ T = 0 := by omega
  go_enter Try.func15, Try.ntmps15
  go_wp2_with fail
  go_loopw [7, 8] (fun v x wr => ∃ (r m : Nat) (A : Option Addr) (c : Nat), m ≤ M ∧ (m = M ∨ m = r * T.toNat) ∧ v = .slice A m c ∧ x = .int .u64 (sX s r) ∧ wr.ownsRow w.heap.size 29 3 (.slice A m c) m (pkCells (mixL s T m)) ∧ Below w.heap.size w wr) (fun v _ _ => M - sliceLen v)
  case atStart => exact ⟨0, 0, none, 0, by omega, Or.inr (by omega), rfl, rfl, World.ownsRow_nil _ _ _ _, Bre _⟩
  case round =>
    obtain ⟨r, m0, A, c, hm, hmr, rfl, rfl, hown, hbel⟩ := hrel
    have HP := Lib.hid hown
    clear hown
    by_cases hlt : m0 < M
    · have hm0 : m0 = r * T.toNat := by omega
      have HM0 := Lib.hid hm0
      clear hm0 hmr
      obtain ⟨z, hz⟩ : ∃ z, sX s (r + 1) = z := ⟨_, rfl⟩
      have HZ := Lib.hid hz
      have hzb : 0 ≤ z ∧ z ≤ 18446744073709551615 := by rw [← hz]; exact nxX_bd _
      have hz : IntKind.u64.wrap (IntKind.u64.wrap (sX s r * 6364136223846793005) + 1442695040888963407) = z := hz
      obtain ⟨zb0, zb1⟩ := hzb
      obtain ⟨y, hy⟩ : ∃ y, sX s r = y := ⟨_, rfl⟩
      rw [hy] at hz ⊢
      clear hy
      obtain ⟨f, hf⟩ : ∃ f, z / 8589934592 % T = f := ⟨_, rfl⟩
      have f0 : 0 ≤ f := by rw [← hf]; exact Int.emod_nonneg _ hT0
      have f1 : f < T := by rw [← hf]; exact Int.emod_lt_of_pos _ (by omega)
      have HF := Lib.hid hf
      cases hdir : dirX z
      case true =>
        have hbit : (bits BinOp.and IntKind.u64 (z / 1152921504606846976) 1 == 1) = true := hdir
        have HD := Lib.hid hdir
        have HB := Lib.hid hbit
        clear hdir hbit
        go_wp2_with (go_at_call 20; refine (HC.out _).mono ?_; rintro e w' ⟨rfl, rfl⟩)
        clear hf
        go_loopw [7, 10, 11] (fun v i t wr => ∃ (j m : Nat) (A : Option Addr) (c : Nat), (j : Int) ≤ T ∧ m = m0 + j ∧ m ≤ M ∧ i = .int .i64 j ∧ v = .slice A m c ∧ wr.ownsRow w.heap.size 29 3 (.slice A m c) m (pkCells (mixL s T m)) ∧ Below w.heap.size w wr) (fun _ i _ _ => 4 - (intOf i).toNat)
        case atStart => exact ⟨0, m0, A, c, by omega, rfl, by omega, rfl, rfl, HP.out, hbel⟩
        case round =>
          obtain ⟨j, m, A, c, hjT, hmj, hmM, rfl, rfl, hown, hbel⟩ := hrel
          have HMJ := Lib.hid hmj
          have HP := Lib.hid hown
          clear hmj hown
          by_cases hlt : (j : Int) < T
          · by_cases hltM : m < M
            · have hj4 : j < 4 := by omega
              have hnx := rpos_down T f j h1 h2 f0 f1 hlt
              obtain ⟨p0, p1⟩ := posF_bd T f true j h1
              obtain ⟨a, ha⟩ : ∃ a, posF T f true j = a := ⟨_, rfl⟩
              rw [ha] at p0 p1 hnx
              have HA := Lib.hid ha
              have hbit := HB.out
              clear ha
              have HE : Hid (mixE s T r j = ⟨a, bits BinOp.and IntKind.u64 (z / 2 ^ (36 + 4 * j)) 15 == 0, wrap64 (bits BinOp.and IntKind.u64 (z / 2 ^ (8 + 4 * j)) 15)⟩) := by
                show _ = _
                unfold mixE
                rw [HZ.out, HF.out, HD.out, HA.out]
              have HS : Hid (mixL s T (m + 1) = mixL s T m ++ [⟨a, bits BinOp.and IntKind.u64 (z / 2 ^ (36 + 4 * j)) 15 == 0, wrap64 (bits BinOp.and IntKind.u64 (z / 2 ^ (8 + 4 * j)) 15)⟩]) := by
                show _ = _
                rw [← HE.out]
                exact mixL_succ s T r j m (by rw [HMJ.out, HM0.out]) (by omega)
              have hbs := hbel.size
              go_wp2_with (first
                | (go_at_call 20; refine (HC.out _).mono ?_; rintro e w' ⟨rfl, rfl⟩)
                | (at_builtin; refine wpList_append_own _ rfl (.tmp 61) (.tmp 80) 25 rfl w.heap.size 29 i0 _ 3 24 Try.underlying25 hi hz0 hz1 hz2 rfl (by omega) _ m (pkCells (mixL s T m)) rfl (HP.out.alloc _) ⟨wr.heap.size, 0, none⟩ 1 1 (Pk.cells ⟨a, bits BinOp.and IntKind.u64 (z / 2 ^ (36 + 4 * j)) 15 == 0, wrap64 (bits BinOp.and IntKind.u64 (z / 2 ^ (8 + 4 * j)) 15)⟩) rfl rfl (news3 wr _) (one3 _) (by unfold maxLen; omega) (by omega) (by simp; omega) ?_; intro v' w1 hown' hgrow _))
              have hb1 : Below w.heap.size w w1 := (Bal hbel _).grown hgrow (Bal hbel _).size (fun g hg => (HP.out.lt g hg).1)
              obtain ⟨A1, c1, rfl⟩ := own_form hown'
              exact ⟨⟨j + 1, m + 1, A1, c1, by omega, by rw [HMJ.out]; omega, by omega, by go_num, rfl, by rw [HS.out, pkCells_snoc]; exact hown', hb1⟩, by (simp [intOf]) <;> omega⟩
            · have hgo : m > m0 := by omega
              have hMe : m = M := by omega
              have HME := Lib.hid hMe
              clear hMe
              go_wp2_with (go_at_call 20; refine (HC.out _).mono ?_; rintro e w' ⟨rfl, rfl⟩)
              exact ⟨⟨r + 1, m, A, c, hmM, Or.inl HME.out, rfl, by rw [HZ.out], HP.out, hbel⟩, by show M - m < M - m0; omega⟩
          · have hgo : m > m0 := by rw [HMJ.out]; omega
            have HME : Hid (m = (r + 1) * T.toNat) := by
              show _ = _
              rw [HMJ.out, HM0.out, Nat.succ_mul]; omega
            go_wp2_with (go_at_call 20; refine (HC.out _).mono ?_; rintro e w' ⟨rfl, rfl⟩)
            exact ⟨⟨r + 1, m, A, c, hmM, Or.inr HME.out, rfl, by rw [HZ.out], HP.out, hbel⟩, by show M - m < M - m0; omega⟩
      case false =>
        have hbit : (bits BinOp.and IntKind.u64 (z / 1152921504606846976) 1 == 1) = false := hdir
        have HD := Lib.hid hdir
        have HB := Lib.hid hbit
        clear hdir hbit
        go_wp2_with (go_at_call 20; refine (HC.out _).mono ?_; rintro e w' ⟨rfl, rfl⟩)
        clear hf
        go_loopw [7, 10, 11] (fun v i t wr => ∃ (j m : Nat) (A : Option Addr) (c : Nat), (j : Int) ≤ T ∧ m = m0 + j ∧ m ≤ M ∧ i = .int .i64 j ∧ v = .slice A m c ∧ wr.ownsRow w.heap.size 29 3 (.slice A m c) m (pkCells (mixL s T m)) ∧ Below w.heap.size w wr) (fun _ i _ _ => 4 - (intOf i).toNat)
        case atStart => exact ⟨0, m0, A, c, by omega, rfl, by omega, rfl, rfl, HP.out, hbel⟩
        case round =>
          obtain ⟨j, m, A, c, hjT, hmj, hmM, rfl, rfl, hown, hbel⟩ := hrel
          have HMJ := Lib.hid hmj
          have HP := Lib.hid hown
          clear hmj hown
          by_cases hlt : (j : Int) < T
          · by_cases hltM : m < M
            · have hj4 : j < 4 := by omega
              have hnx := rpos_up T f j h1 h2 f0 f1 hlt
              obtain ⟨p0, p1⟩ := posF_bd T f false j h1
              obtain ⟨a, ha⟩ : ∃ a, posF T f false j = a := ⟨_, rfl⟩
              rw [ha] at p0 p1 hnx
              have HA := Lib.hid ha
              have hbit := HB.out
              clear ha
              have HE : Hid (mixE s T r j = ⟨a, bits BinOp.and IntKind.u64 (z / 2 ^ (36 + 4 * j)) 15 == 0, wrap64 (bits BinOp.and IntKind.u64 (z / 2 ^ (8 + 4 * j)) 15)⟩) := by
                show _ = _
                unfold mixE
                rw [HZ.out, HF.out, HD.out, HA.out]
              have HS : Hid (mixL s T (m + 1) = mixL s T m ++ [⟨a, bits BinOp.and IntKind.u64 (z / 2 ^ (36 + 4 * j)) 15 == 0, wrap64 (bits BinOp.and IntKind.u64 (z / 2 ^ (8 + 4 * j)) 15)⟩]) := by
                show _ = _
                rw [← HE.out]
                exact mixL_succ s T r j m (by rw [HMJ.out, HM0.out]) (by omega)
              have hbs := hbel.size
              go_wp2_with (first
                | (go_at_call 20; refine (HC.out _).mono ?_; rintro e w' ⟨rfl, rfl⟩)
                | (at_builtin; refine wpList_append_own _ rfl (.tmp 61) (.tmp 80) 25 rfl w.heap.size 29 i0 _ 3 24 Try.underlying25 hi hz0 hz1 hz2 rfl (by omega) _ m (pkCells (mixL s T m)) rfl (HP.out.alloc _) ⟨wr.heap.size, 0, none⟩ 1 1 (Pk.cells ⟨a, bits BinOp.and IntKind.u64 (z / 2 ^ (36 + 4 * j)) 15 == 0, wrap64 (bits BinOp.and IntKind.u64 (z / 2 ^ (8 + 4 * j)) 15)⟩) rfl rfl (news3 wr _) (one3 _) (by unfold maxLen; omega) (by omega) (by simp; omega) ?_; intro v' w1 hown' hgrow _))
              have hb1 : Below w.heap.size w w1 := (Bal hbel _).grown hgrow (Bal hbel _).size (fun g hg => (HP.out.lt g hg).1)
              obtain ⟨A1, c1, rfl⟩ := own_form hown'
              exact ⟨⟨j + 1, m + 1, A1, c1, by omega, by rw [HMJ.out]; omega, by omega, by go_num, rfl, by rw [HS.out, pkCells_snoc]; exact hown', hb1⟩, by (simp [intOf]) <;> omega⟩
            · have hgo : m > m0 := by omega
              have hMe : m = M := by omega
              have HME := Lib.hid hMe
              clear hMe
              go_wp2_with (go_at_call 20; refine (HC.out _).mono ?_; rintro e w' ⟨rfl, rfl⟩)
              exact ⟨⟨r + 1, m, A, c, hmM, Or.inl HME.out, rfl, by rw [HZ.out], HP.out, hbel⟩, by show M - m < M - m0; omega⟩
          · have hgo : m > m0 := by rw [HMJ.out]; omega
            have HME : Hid (m = (r + 1) * T.toNat) := by
              show _ = _
              rw [HMJ.out, HM0.out, Nat.succ_mul]; omega
            go_wp2_with (go_at_call 20; refine (HC.out _).mono ?_; rintro e w' ⟨rfl, rfl⟩)
            exact ⟨⟨r + 1, m, A, c, hmM, Or.inr HME.out, rfl, by rw [HZ.out], HP.out, hbel⟩, by show M - m < M - m0; omega⟩
    · have hkM : m0 = M := by omega
      have HP' : Hid (wr.ownsRow w.heap.size 29 3 (.slice A M c) M (pkCells (mixL s T M))) := by rw [← hkM]; exact HP.out
      subst hkM
      go_wp2_with (go_at_call 20; refine (HC.out _).mono ?_; rintro e w' ⟨rfl, rfl⟩)
      go_ret
      exact ⟨_, rfl, HP'.out, hbel⟩
end Go.Proofs.Ytbfoeinjopgnpaa
