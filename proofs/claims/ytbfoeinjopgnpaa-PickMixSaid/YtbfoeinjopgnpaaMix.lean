/-
  Mix, the program's.
-/
import Derived.Test.YtbfoeinjopgnpaaLawRound
import Derived.Deep.RegionHeld3
import Derived.Deep.AppendLies
import Derived.IntWalk
set_option linter.unusedVariables false
namespace Go.Proofs.Ytbfoeinjopgnpaa
open Go.RowKit
def nxX (y : Int) : Int := IntKind.u64.wrap (IntKind.u64.wrap (y * 6364136223846793005) + 1442695040888963407)
def sX (s : Int) : Nat → Int
  | 0 => s
  | r + 1 => nxX (sX s r)
def dirX (z : Int) : Bool := bits BinOp.and IntKind.u64 (z / 1152921504606846976) 1 == 1
def posF (T f : Int) (b : Bool) (j : Nat) : Int := if b then (f - j) % T else (f + j) % T
def mixE (s T : Int) (r j : Nat) : Pk :=
  ⟨posF T (sX s (r + 1) / 8589934592 % T) (dirX (sX s (r + 1))) j, bits BinOp.and IntKind.u64 (sX s (r + 1) / 2 ^ (36 + 4 * j)) 15 == 0, wrap64 (bits BinOp.and IntKind.u64 (sX s (r + 1) / 2 ^ (8 + 4 * j)) 15)⟩
def mixL (s T : Int) (m : Nat) : List Pk := (List.range m).map fun q => mixE s T (q / T.toNat) (q % T.toNat)
theorem mixL_len (s T : Int) (m : Nat) : (mixL s T m).length = m := by simp [mixL]
theorem mixL_succ (s T : Int) (r j m : Nat) (hm : m = r * T.toNat + j) (hj : j < T.toNat) : mixL s T (m + 1) = mixL s T m ++ [mixE s T r j] := by
  have h1 : m / T.toNat = r := by rw [hm, Nat.add_comm, Nat.mul_comm, Nat.add_mul_div_left _ _ (by omega), Nat.div_eq_of_lt hj]; omega
  have h2 : m % T.toNat = j := by rw [hm, Nat.add_comm, Nat.add_mul_mod_self_right, Nat.mod_eq_of_lt hj]
  simp [mixL, List.range_succ, h1, h2]
theorem nxX_bd (y : Int) : 0 ≤ nxX y ∧ nxX y ≤ 18446744073709551615 := by
  unfold nxX
  generalize IntKind.u64.wrap (y * 6364136223846793005) + 1442695040888963407 = q
  simp only [IntKind.wrap, IntKind.bits, IntKind.signed]
  have h1 := Int.emod_nonneg q (show (18446744073709551616 : Int) ≠ 0 by omega)
  have h2 := Int.emod_lt_of_pos q (show (0 : Int) < 18446744073709551616 by omega)
  simp only [Bool.false_and, Bool.false_eq_true, if_false]
  exact ⟨h1, Int.le_of_lt_add_one h2⟩
theorem posF_bd (T f : Int) (b : Bool) (j : Nat) (h : 1 ≤ T) : 0 ≤ posF T f b j ∧ posF T f b j < T := by
  unfold posF
  split
  · exact ⟨Int.emod_nonneg _ (by omega), Int.emod_lt_of_pos _ (by omega)⟩
  · exact ⟨Int.emod_nonneg _ (by omega), Int.emod_lt_of_pos _ (by omega)⟩
theorem pos_up (T f : Int) (j : Nat) (h1 : 1 ≤ T) (h2 : T ≤ 4) : (posF T f false j + 1) % T = posF T f false (j + 1) := by
  have : T = 1 ∨ T = 2 ∨ T = 3 ∨ T = 4 := by omega
  simp only [posF, Bool.false_eq_true, if_false]
  rcases this with rfl | rfl | rfl | rfl <;> omega
theorem pos_down (T f : Int) (j : Nat) (h1 : 1 ≤ T) (h2 : T ≤ 4) : (posF T f true j + (T - 1)) % T = posF T f true (j + 1) := by
  have : T = 1 ∨ T = 2 ∨ T = 3 ∨ T = 4 := by omega
  simp only [posF, if_true]
  rcases this with rfl | rfl | rfl | rfl <;> omega
def sliceLen : Value → Nat
  | .slice _ n _ => n
  | _ => 0
theorem wrap64_kind (x : Int) : wrap64 x = IntKind.i64.wrap x := (IntWalk.i64_left x).symm
theorem own_th {w w' : World} {base e sz n : Nat} {v : Value} {xs : List Value} (h : w.ownsRow base e sz v n xs) (hb : Below w.heap.size w w') : w'.ownsRow base e sz v n xs :=
  ⟨h.1, h.2.imp id (fun ⟨g, cap, cur, h1, h2, h3, h4⟩ => ⟨g, cap, cur, h1, h2, (hb.block g (Array.getElem?_eq_some_iff.1 h3).1).trans h3, h4⟩)⟩
theorem own_form {w : World} {base e sz n : Nat} {v : Value} {xs : List Value} (h : w.ownsRow base e sz v n xs) : ∃ A c, v = .slice A n c := by
  rcases h.2 with ⟨rfl, rfl⟩ | ⟨g, cap, cur, rfl, _⟩
  · exact ⟨_, _, rfl⟩
  · exact ⟨_, _, rfl⟩
set_option maxHeartbeats 1600000 in
theorem mix_yes (T n s : Int) (w : World) (h1 : 1 ≤ T) (h2 : T ≤ 4) :
    Calls Try.prog 13 #[.int .u64 s, .int .i64 T, .int .i64 n] w fun e w' => ∃ v, e = .returned v ∧ w'.ownsRow w.heap.size 29 3 v (manyF n).toNat (pkCells (mixL s T (manyF n).toNat)) ∧ Below w.heap.size w w' := by
  obtain ⟨M, hM⟩ : ∃ M : Nat, manyF n = M := Int.eq_ofNat_of_zero_le (manyF_bd n).1
  have hMb : M ≤ 1048576 := by have := (manyF_bd n).2; omega
  have HM := Lib.hid hM
  rw [hM]
  clear hM
  simp only [Int.toNat_natCast]
  obtain ⟨i0, hi, hz0, hz1, hz2⟩ := info_parts info29
  have hmany : ∀ W : World, Calls Try.prog 19 #[.int .i64 T, .int .i64 n] W fun e w' => e = .returned (.int .i64 M) ∧ W = w' := fun W => (many_yes T n W h1 h2).mono fun e w' h => ⟨by rw [h.1, HM.out], h.2⟩
  have HC := Lib.hid hmany
  clear hmany
  have hT0 : ¬ T = 0 := by omega
  go_enter Try.func13, Try.ntmps13
  go_wp2_with (go_at_call 19; refine (HC.out _).mono ?_; rintro e w' ⟨rfl, rfl⟩)
  go_loopw [7, 8] (fun v x wr => ∃ (r m : Nat) (A : Option Addr) (c : Nat), m ≤ M ∧ (m = M ∨ m = r * T.toNat) ∧ v = .slice A m c ∧ x = .int .u64 (sX s r) ∧ wr.ownsRow w.heap.size 29 3 (.slice A m c) m (pkCells (mixL s T m)) ∧ Below w.heap.size w wr) (fun v _ _ => M - sliceLen v)
  case atStart => exact ⟨0, 0, none, 0, by omega, Or.inr (by omega), rfl, rfl, World.ownsRow_nil _ _ _ _, Bre _⟩
  case round =>
    obtain ⟨r, m0, A, c, hm, hmr, rfl, rfl, hown, hbel⟩ := hrel
    have HP := Lib.hid hown
    clear hown
    by_cases hlt : m0 < M
    · have hm0 : m0 = r * T.toNat := by omega
      have HM0 := Lib.hid hm0
      clear hm0 hmr
      obtain ⟨z, hz⟩ : ∃ z, sX s (r + 1) = z := ⟨_, rfl⟩
      have HZ := Lib.hid hz
      have hzb : 0 ≤ z ∧ z ≤ 18446744073709551615 := by rw [← hz]; exact nxX_bd _
      have hz : IntKind.u64.wrap (IntKind.u64.wrap (sX s r * 6364136223846793005) + 1442695040888963407) = z := hz
      obtain ⟨zb0, zb1⟩ := hzb
      obtain ⟨y, hy⟩ : ∃ y, sX s r = y := ⟨_, rfl⟩
      rw [hy] at hz ⊢
      clear hy
      obtain ⟨f, hf⟩ : ∃ f, z / 8589934592 % T = f := ⟨_, rfl⟩
      have f0 : 0 ≤ f := by rw [← hf]; exact Int.emod_nonneg _ hT0
      have f1 : f < T := by rw [← hf]; exact Int.emod_lt_of_pos _ (by omega)
      have HF := Lib.hid hf
      have HP0 : ∀ b, Hid (posF T f b 0 = f) := fun b => by
        show _ = _
        have : T = 1 ∨ T = 2 ∨ T = 3 ∨ T = 4 := by omega
        cases b <;> simp only [posF, Bool.false_eq_true, if_false, if_true] <;> rcases this with rfl | rfl | rfl | rfl <;> omega
      cases hdir : dirX z
      case true =>
        replace HP0 := HP0 true
        have hbit : (bits BinOp.and IntKind.u64 (z / 1152921504606846976) 1 == 1) = true := hdir
        have HD := Lib.hid hdir
        clear hdir
        go_wp2_with fail
        clear hf
        go_loopw [7, 9, 11] (fun v at' i wr => ∃ (j m : Nat) (A : Option Addr) (c : Nat), (j : Int) ≤ T ∧ m = m0 + j ∧ m ≤ M ∧ i = .int .i64 j ∧ at' = .int .i64 (posF T f true j) ∧ v = .slice A m c ∧ wr.ownsRow w.heap.size 29 3 (.slice A m c) m (pkCells (mixL s T m)) ∧ Below w.heap.size w wr) (fun _ _ i _ => 4 - (intOf i).toNat)
        case atStart => exact ⟨0, m0, A, c, by omega, rfl, by omega, rfl, by rw [HP0.out], rfl, HP.out, hbel⟩
        case round =>
          obtain ⟨j, m, A, c, hjT, hmj, hmM, rfl, rfl, rfl, hown, hbel⟩ := hrel
          have HMJ := Lib.hid hmj
          have HP := Lib.hid hown
          clear hmj hown
          obtain ⟨p0, p1⟩ := posF_bd T f true j h1
          obtain ⟨a, ha⟩ : ∃ a, posF T f true j = a := ⟨_, rfl⟩
          have hnx := pos_down T f j h1 h2
          rw [ha] at p0 p1 hnx ⊢
          have HA := Lib.hid ha
          clear ha
          obtain ⟨a', ha'⟩ : ∃ a', posF T f true (j + 1) = a' := ⟨_, rfl⟩
          rw [ha'] at hnx
          have HA' := Lib.hid ha'
          clear ha'
          by_cases hlt : (j : Int) < T
          · by_cases hltM : m < M
            · have hj4 : j < 4 := by omega
              go_wp2_with fail
              obtain ⟨bb, hbb⟩ : ∃ bb, (bits BinOp.and IntKind.u64 (z / 2 ^ (36 + 4 * j)) 15 == 0) = bb := ⟨_, rfl⟩
              obtain ⟨dd, hdd⟩ : ∃ dd, IntKind.i64.wrap (bits BinOp.and IntKind.u64 (z / 2 ^ (8 + 4 * j)) 15) = dd := ⟨_, rfl⟩
              have HE : Hid (mixE s T r j = ⟨a, bb, dd⟩) := by
                show _ = _
                unfold mixE
                rw [HZ.out, HF.out, HD.out, HA.out, ← hbb, ← hdd, wrap64_kind]
              have HS : Hid (mixL s T (m + 1) = mixL s T m ++ [⟨a, bb, dd⟩]) := by
                show _ = _
                rw [← HE.out]
                exact mixL_succ s T r j m (by rw [HMJ.out, HM0.out]) (by omega)
              have hbs := hbel.size
              have hj0 : (0 : Int) ≤ (j : Int) := by omega
              have hw1 : IntKind.i64.wrap (4 * (j : Int)) = 4 * j := IntWalk.i64_in _ (by omega)
              have hw2 : IntKind.i64.wrap (36 + 4 * (j : Int)) = 36 + 4 * j := IntWalk.i64_in _ (by omega)
              have hw3 : IntKind.i64.wrap (8 + 4 * (j : Int)) = 8 + 4 * j := IntWalk.i64_in _ (by omega)
              have hn2 : (0 : Int) ≤ 36 + 4 * j := by omega
              have hn3 : (0 : Int) ≤ 8 + 4 * j := by omega
              have ht2 : (36 + 4 * (j : Int)).toNat = 36 + 4 * j := by omega
              have ht3 : (8 + 4 * (j : Int)).toNat = 8 + 4 * j := by omega
              go_region_held3 (fun w' => True) (trivial)
                ((refine step_append_lies _ (by rfl) _ _ _ (by rfl) w.heap.size 29 i0 _ 3 24 Try.underlying25 hi hz0 hz1 hz2 rfl (by omega) (.slice A m c) m (pkCells (mixL s T m)) (by rfl) ((HP.out.alloc _).drew) ⟨wr.heap.size, 0, none⟩ 1 1 (Pk.cells ⟨a, bb, dd⟩) (by rfl) (by rfl) (World.news_of_block (cs := #[.int .i64 a, .bool bb, .int .i64 dd]) (t := 29) (fr := (0, 0)) (heap_alloc_new wr _)) (one3 _) (by omega) (by unfold maxLen; omega) (by omega) (by simp; omega) (wr.heap.size + 1) (by simp) ?_; intro gg cap w1 hown' hgrow hat hlt))
              clear hw1 hw2 hw3 ht2 ht3 hbb hdd
              go_wp2_with fail
              have hb1 : Below w.heap.size w w1 := (Bdrew (Bal hbel _)).grown hgrow (Bdrew (Bal hbel _)).size (fun g hg => (HP.out.lt g hg).1)
              exact ⟨⟨j + 1, m + 1, _, _, by omega, by rw [HMJ.out]; omega, by omega, by go_num, by rw [HA'.out, hnx], rfl, by rw [HS.out, pkCells_snoc]; exact hown', hb1⟩, by (simp [intOf]) <;> omega⟩
            · have hgo : m > m0 := by omega
              have hMe : m = M := by omega
              have HME := Lib.hid hMe
              clear hMe
              go_wp2_with fail
              exact ⟨⟨r + 1, m, A, c, hmM, Or.inl HME.out, rfl, by rw [HZ.out], HP.out, hbel⟩, by show M - m < M - m0; omega⟩
          · have hgo : m > m0 := by rw [HMJ.out]; omega
            have HME : Hid (m = (r + 1) * T.toNat) := by
              show _ = _
              rw [HMJ.out, HM0.out, Nat.succ_mul]; omega
            go_wp2_with fail
            exact ⟨⟨r + 1, m, A, c, hmM, Or.inr HME.out, rfl, by rw [HZ.out], HP.out, hbel⟩, by show M - m < M - m0; omega⟩
      case false =>
        replace HP0 := HP0 false
        have hbit : (bits BinOp.and IntKind.u64 (z / 1152921504606846976) 1 == 1) = false := hdir
        have HD := Lib.hid hdir
        clear hdir
        go_wp2_with fail
        clear hf
        go_loopw [7, 9, 11] (fun v at' i wr => ∃ (j m : Nat) (A : Option Addr) (c : Nat), (j : Int) ≤ T ∧ m = m0 + j ∧ m ≤ M ∧ i = .int .i64 j ∧ at' = .int .i64 (posF T f false j) ∧ v = .slice A m c ∧ wr.ownsRow w.heap.size 29 3 (.slice A m c) m (pkCells (mixL s T m)) ∧ Below w.heap.size w wr) (fun _ _ i _ => 4 - (intOf i).toNat)
        case atStart => exact ⟨0, m0, A, c, by omega, rfl, by omega, rfl, by rw [HP0.out], rfl, HP.out, hbel⟩
        case round =>
          obtain ⟨j, m, A, c, hjT, hmj, hmM, rfl, rfl, rfl, hown, hbel⟩ := hrel
          have HMJ := Lib.hid hmj
          have HP := Lib.hid hown
          clear hmj hown
          obtain ⟨p0, p1⟩ := posF_bd T f false j h1
          obtain ⟨a, ha⟩ : ∃ a, posF T f false j = a := ⟨_, rfl⟩
          have hnx := pos_up T f j h1 h2
          rw [ha] at p0 p1 hnx ⊢
          have HA := Lib.hid ha
          clear ha
          obtain ⟨a', ha'⟩ : ∃ a', posF T f false (j + 1) = a' := ⟨_, rfl⟩
          rw [ha'] at hnx
          have HA' := Lib.hid ha'
          clear ha'
          by_cases hlt : (j : Int) < T
          · by_cases hltM : m < M
            · have hj4 : j < 4 := by omega
              go_wp2_with fail
              obtain ⟨bb, hbb⟩ : ∃ bb, (bits BinOp.and IntKind.u64 (z / 2 ^ (36 + 4 * j)) 15 == 0) = bb := ⟨_, rfl⟩
              obtain ⟨dd, hdd⟩ : ∃ dd, IntKind.i64.wrap (bits BinOp.and IntKind.u64 (z / 2 ^ (8 + 4 * j)) 15) = dd := ⟨_, rfl⟩
              have HE : Hid (mixE s T r j = ⟨a, bb, dd⟩) := by
                show _ = _
                unfold mixE
                rw [HZ.out, HF.out, HD.out, HA.out, ← hbb, ← hdd, wrap64_kind]
              have HS : Hid (mixL s T (m + 1) = mixL s T m ++ [⟨a, bb, dd⟩]) := by
                show _ = _
                rw [← HE.out]
                exact mixL_succ s T r j m (by rw [HMJ.out, HM0.out]) (by omega)
              have hbs := hbel.size
              have hj0 : (0 : Int) ≤ (j : Int) := by omega
              have hw1 : IntKind.i64.wrap (4 * (j : Int)) = 4 * j := IntWalk.i64_in _ (by omega)
              have hw2 : IntKind.i64.wrap (36 + 4 * (j : Int)) = 36 + 4 * j := IntWalk.i64_in _ (by omega)
              have hw3 : IntKind.i64.wrap (8 + 4 * (j : Int)) = 8 + 4 * j := IntWalk.i64_in _ (by omega)
              have hn2 : (0 : Int) ≤ 36 + 4 * j := by omega
              have hn3 : (0 : Int) ≤ 8 + 4 * j := by omega
              have ht2 : (36 + 4 * (j : Int)).toNat = 36 + 4 * j := by omega
              have ht3 : (8 + 4 * (j : Int)).toNat = 8 + 4 * j := by omega
              go_region_held3 (fun w' => True) (trivial)
                ((refine step_append_lies _ (by rfl) _ _ _ (by rfl) w.heap.size 29 i0 _ 3 24 Try.underlying25 hi hz0 hz1 hz2 rfl (by omega) (.slice A m c) m (pkCells (mixL s T m)) (by rfl) ((HP.out.alloc _).drew) ⟨wr.heap.size, 0, none⟩ 1 1 (Pk.cells ⟨a, bb, dd⟩) (by rfl) (by rfl) (World.news_of_block (cs := #[.int .i64 a, .bool bb, .int .i64 dd]) (t := 29) (fr := (0, 0)) (heap_alloc_new wr _)) (one3 _) (by omega) (by unfold maxLen; omega) (by omega) (by simp; omega) (wr.heap.size + 1) (by simp) ?_; intro gg cap w1 hown' hgrow hat hlt))
              clear hw1 hw2 hw3 ht2 ht3 hbb hdd
              go_wp2_with fail
              have hb1 : Below w.heap.size w w1 := (Bdrew (Bal hbel _)).grown hgrow (Bdrew (Bal hbel _)).size (fun g hg => (HP.out.lt g hg).1)
              exact ⟨⟨j + 1, m + 1, _, _, by omega, by rw [HMJ.out]; omega, by omega, by go_num, by rw [HA'.out, hnx], rfl, by rw [HS.out, pkCells_snoc]; exact hown', hb1⟩, by (simp [intOf]) <;> omega⟩
            · have hgo : m > m0 := by omega
              have hMe : m = M := by omega
              have HME := Lib.hid hMe
              clear hMe
              go_wp2_with fail
              exact ⟨⟨r + 1, m, A, c, hmM, Or.inl HME.out, rfl, by rw [HZ.out], HP.out, hbel⟩, by show M - m < M - m0; omega⟩
          · have hgo : m > m0 := by rw [HMJ.out]; omega
            have HME : Hid (m = (r + 1) * T.toNat) := by
              show _ = _
              rw [HMJ.out, HM0.out, Nat.succ_mul]; omega
            go_wp2_with fail
            exact ⟨⟨r + 1, m, A, c, hmM, Or.inr HME.out, rfl, by rw [HZ.out], HP.out, hbel⟩, by show M - m < M - m0; omega⟩
    · have hkM : m0 = M := by omega
      have HP' : Hid (wr.ownsRow w.heap.size 29 3 (.slice A M c) M (pkCells (mixL s T M))) := by rw [← hkM]; exact HP.out
      subst hkM
      go_wp2_with fail
      go_ret
      exact ⟨_, rfl, HP'.out, hbel⟩
end Go.Proofs.Ytbfoeinjopgnpaa
