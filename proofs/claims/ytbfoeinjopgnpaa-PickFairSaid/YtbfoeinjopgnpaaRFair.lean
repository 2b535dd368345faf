/-
  The reference's Fair: the same as the program's.
-/
import Derived.Test.YtbfoeinjopgnpaaFair
set_option linter.unusedVariables false
namespace Go.Proofs.Ytbfoeinjopgnpaa
open Go.RowKit
theorem lastF_stable (l : List Pk) (t : Int) (i j : Nat) (hj : j ≤ i) (h : lastF l t i < j) : lastF l t j = lastF l t i := by
  induction i with
  | zero => have : j = 0 := by omega
            subst this; rfl
  | succ i ih =>
    by_cases e : j = i + 1
    · subst e; rfl
    · have hbd := lastF_bd l t (i + 1)
      by_cases hne : (l.getD i ⟨0, false, 0⟩).t = t
      · rw [lastF, if_pos hne] at h
        omega
      · rw [lastF, if_neg hne] at h ⊢
        exact ih (by omega) h
/-- What is known of one thread ahead of i: all windows that end ahead of its last pick. -/
def Upto (l : List Pk) (k : Int) (t : Nat) (x : Int) : Prop := ∀ e : Nat, e < l.length → (e : Int) < x → k - 1 ≤ e → (e : Int) - k + 1 ≤ lastF l t (e + 1)
theorem upto_step {l : List Pk} {k : Int} {t i : Nat} (h : Upto l k t (lastF l t i)) (hg : (i : Int) - lastF l t i - 1 < k) : Upto l k t i := by
  intro e he hx hk
  by_cases hl : (e : Int) < lastF l t i
  · exact h e he hl hk
  · rw [lastF_stable l t i (e + 1) (by omega) (by omega)]
    omega
theorem gap_no {l : List Pk} {T k : Int} {t i : Nat} (hi : i ≤ l.length) (ht : (t : Int) < T) (hk : 1 ≤ k) (hg : k ≤ (i : Int) - lastF l t i - 1) : ¬ FairS l T k := by
  intro hf
  have hb := lastF_bd l t i
  have := hf.2 t ht (i - 1) (by omega) (by omega)
  rw [show i - 1 + 1 = i by omega] at this
  omega
theorem rfair_no (T k : Int) (w : World) (A : Option Addr) (n c : Nat) (h : T < 1 ∨ 4 < T ∨ k < 1) :
    Calls Try.prog 11 #[.slice A n c, .int .i64 T, .int .i64 k] w fun e w' => e = .returned (.bool false) ∧ w = w' := by
  by_cases h1 : T < 1
  · go_enter Try.func11, Try.ntmps11
    go_wp2_with fail
    go_ret
    exact ⟨rfl, rfl⟩
  · by_cases h2 : 4 < T
    · go_enter Try.func11, Try.ntmps11
      go_wp2_with fail
      go_ret
      exact ⟨rfl, rfl⟩
    · have h3 : k < 1 := by omega
      clear h
      go_enter Try.func11, Try.ntmps11
      go_wp2_with fail
      go_ret
      exact ⟨rfl, rfl⟩
set_option maxHeartbeats 1600000 in
theorem rfair_yes (u : Value) (l : List Pk) (T k : Int) (w : World) (hl : l.length ≤ 1048576) (hu : PkAt w u l) (hT : 1 ≤ T) (hT4 : T ≤ 4) (hk : 1 ≤ k) (hk2 : k ≤ 9223372036854775807) :
    Calls Try.prog 11 #[u, .int .i64 T, .int .i64 k] w fun e w' => e = .returned (.bool (fairB l T k)) ∧ w = w' := by
  obtain ⟨A, c1, rfl, hu⟩ := hu
  have HU := Lib.hid hu
  clear hu
  go_enter Try.func11, Try.ntmps11
  go_wp2_with fail
  go_loop [7] (fun i => ∃ t : Nat, (t : Int) ≤ T ∧ i = .int .i64 t ∧ ∀ s : Nat, s < t → Upto l k s l.length) (fun i => 4 - (intOf i).toNat)
  case atStart => exact ⟨0, by omega, rfl, fun s h => by omega⟩
  case round =>
    obtain ⟨t, ht, rfl, hs⟩ := hrel
    have HS := Lib.hid hs
    clear hs
    by_cases htT : (t : Int) < T
    · go_wp2_with fail
      go_loop [8, 9] (fun x i => ∃ m : Nat, m ≤ l.length + 1 ∧ i = .int .i64 m ∧ (m ≤ l.length → x = .int .i64 (lastF l t m) ∧ Upto l k t (lastF l t m)) ∧ (m = l.length + 1 → Upto l k t l.length)) (fun _ i => l.length + 1 - (intOf i).toNat)
      case atStart => exact ⟨0, by omega, rfl, fun _ => ⟨by simp [lastF], fun e _ h => by simp [lastF] at h; omega⟩, fun h => by omega⟩
      case round =>
        obtain ⟨m, hm, rfl, hx, hfin⟩ := hrel
        have HF := Lib.hid hfin
        clear hfin
        by_cases hml : m ≤ l.length
        · obtain ⟨rfl, hup⟩ := hx hml
          have HX := Lib.hid hup
          clear hx hup
          have hb := lastF_bd l t m
          obtain ⟨y, hy⟩ : ∃ y, lastF l t m = y := ⟨_, rfl⟩
          rw [hy] at hb ⊢
          have HY := Lib.hid hy
          clear hy
          by_cases hlt : m < l.length
          · obtain ⟨p, hp⟩ : ∃ p, l[m]? = some p := ⟨_, List.getElem?_eq_getElem hlt⟩
            obtain ⟨b, off, rfl, hbb, x1, x2, x3⟩ := HU.out m p hp
            have hg : l.getD m ⟨0, false, 0⟩ = p := by simp [List.getD, hp]
            have HG := Lib.hid hg
            clear hg hp x2 x3
            by_cases hpt : p.t = t
            · rw [hpt] at x1
              have HP := Lib.hid hpt
              clear hpt
              by_cases hgap : k ≤ (m : Int) - y - 1
              · go_wp2_with fail
                go_ret
                refine ⟨?_, rfl⟩
                rw [fairB_f (gap_no (by omega) htT hk (by rw [HY.out]; exact hgap))]; rfl
              · have HN : Hid (lastF l t (m + 1) = m) := by
                  show _ = _
                  rw [lastF, HG.out, if_pos HP.out]
                have HUp : Hid (Upto l k t m) := upto_step HX.out (by rw [HY.out]; omega)
                go_wp2_with fail
                go_round
                case rel => exact ⟨m + 1, by omega, by go_num, fun _ => ⟨by rw [HN.out], by rw [HN.out]; exact HUp.out⟩, fun h => by omega⟩
                case measure => (simp [intOf]) <;> omega
            · have HN : Hid (lastF l t (m + 1) = lastF l t m) := by
                show _ = _
                rw [lastF, HG.out, if_neg hpt]
              have hne : (p.t != (t : Int)) = true := by simpa using hpt
              clear hpt
              go_wp2_with fail
              go_round
              case rel => exact ⟨m + 1, by omega, by go_num, fun _ => ⟨by rw [HN.out, HY.out], by rw [HN.out]; exact HX.out⟩, fun h => by omega⟩
              case measure => (simp [intOf]) <;> omega
          · have hme : m = l.length := by omega
            subst hme
            by_cases hgap : k ≤ (l.length : Int) - y - 1
            · go_wp2_with fail
              go_ret
              refine ⟨?_, rfl⟩
              rw [fairB_f (gap_no (Nat.le_refl _) htT hk (by rw [HY.out]; exact hgap))]; rfl
            · have HUp : Hid (Upto l k t l.length) := upto_step HX.out (by rw [HY.out]; omega)
              go_wp2_with fail
              go_round
              case rel => exact ⟨l.length + 1, by omega, by go_num, fun h => by omega, fun _ => HUp.out⟩
              case measure => (simp [intOf]) <;> omega
        · have HUp : Hid (Upto l k t l.length) := HF.out (by omega)
          clear hx
          go_wp2_with fail
          go_goals
          exact ⟨⟨t + 1, by omega, by go_num, fun s hs => by
            by_cases e : s = t
            · subst e; exact HUp.out
            · exact HS.out s (by omega)⟩, by (simp [intOf]) <;> omega⟩
    · go_wp2_with fail
      go_ret
      refine ⟨?_, rfl⟩
      rw [fairB_t]
      · rfl
      · exact ⟨⟨hT, hT4, hk⟩, fun s hs i hi hki => HS.out s (by omega) i hi (by omega) hki⟩
end Go.Proofs.Ytbfoeinjopgnpaa
