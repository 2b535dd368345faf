/-
  The reference's Put: the same as the program's.
-/
import Derived.Test.YtbfoeinjopgnpaaPut
set_option linter.unusedVariables false
namespace Go.Proofs.Ytbfoeinjopgnpaa
open Go.RowKit
theorem rput_ok (u : Value) (l : List Pk) (w : World) (hl : l.length ≤ 1048576) (hu : PkAt w u l) (hok : ∀ (k : Nat) (p : Pk), l[k]? = some p → 0 ≤ p.t ∧ p.t ≤ 3 ∧ 0 ≤ p.d ∧ p.d ≤ 15) :
    Calls Try.prog 18 #[u] w fun e w' => ∃ v, e = .returned (.tuple #[v, .bool true]) ∧ w'.ownsRow w.heap.size 5 1 v l.length (bs l l.length) ∧ Below w.heap.size w w' := by
  obtain ⟨A, c1, rfl, hu⟩ := hu
  have HU := Lib.hid hu
  have HO := Lib.hid hok
  clear hu hok
  obtain ⟨i0, hi, hz0, hz1, hz2⟩ := info_parts info5
  go_enter Try.func18, Try.ntmps18
  go_wp2_with fail
  go_loopw [4, 5] (fun v i wr => ∃ k : Nat, k ≤ l.length ∧ i = .int .i64 k ∧ wr.ownsRow w.heap.size 5 1 v k (bs l k) ∧ Below w.heap.size w wr) (fun _ i _ => l.length - (intOf i).toNat)
  case atStart => exact ⟨0, Nat.zero_le _, rfl, World.ownsRow_nil _ _ _ _, Bre _⟩
  case round =>
    obtain ⟨k, hk, rfl, hown, hbel⟩ := hrel
    have HP := Lib.hid hown
    clear hown
    by_cases hlt : k < l.length
    · obtain ⟨p, hp⟩ : ∃ p, l[k]? = some p := ⟨_, List.getElem?_eq_getElem hlt⟩
      obtain ⟨b, off, rfl, hb, x1, x2, x3⟩ := HU.out k p hp
      obtain ⟨o1, o2, o3, o4⟩ := HO.out k p hp
      have z1 := (hbel.cell hb).trans x1
      have z2 := (hbel.cell hb).trans x2
      have z3 := (hbel.cell hb).trans x3
      have HS := Lib.hid (bs_succ l k p hp)
      clear x1 x2 x3 hp
      obtain ⟨t, ab, d⟩ := p
      dsimp only at o1 o2 o3 o4 z1 z2 z3
      have q1 : decide (t < 0) = false := by simpa using o1
      have q2 : decide (3 < t) = false := by simpa using o2
      have q3 : decide (d < 0) = false := by simpa using o3
      have q4 : decide (15 < d) = false := by simpa using o4
      have hbs' : w.heap.size ≤ wr.heap.size + 1 + 1 := by have := hbel.size; omega
      cases ab
      · have hv : bF ⟨t, false, d⟩ = (t + 16 * d) := by (simp [bF]) <;> omega
        have HV := Lib.hid hv
        clear hv
        go_wp2_with (at_builtin; refine wpList_append_own _ rfl (.tmp 46) (.tmp 49) 22 rfl w.heap.size 5 i0 _ 1 1 Try.underlying22 hi hz0 hz1 hz2 rfl (by omega) _ k (bs l k) rfl ((HP.out.alloc _).alloc _) ⟨wr.heap.size + 1, 0, none⟩ 1 1 [.int .u8 (t + 16 * d)] rfl rfl (news1 _ _ (by simp) _ _) (one1 _ rfl) (by unfold maxLen; omega) (by omega) (by simpa using hbs') ?_; intro v' w1 hown' hgrow _)
        exact ⟨⟨k + 1, by omega, by go_num, by rw [HS.out, HV.out]; exact hown', ((Bal (Bal hbel _) _).grown hgrow (Bal (Bal hbel _) _).size (fun g hg => (HP.out.lt g hg).1))⟩, by simp [intOf]; omega⟩
      · have hv : bF ⟨t, true, d⟩ = (t + 16 * d + 4) := by (simp [bF]) <;> omega
        have HV := Lib.hid hv
        clear hv
        go_wp2_with (at_builtin; refine wpList_append_own _ rfl (.tmp 46) (.tmp 49) 22 rfl w.heap.size 5 i0 _ 1 1 Try.underlying22 hi hz0 hz1 hz2 rfl (by omega) _ k (bs l k) rfl ((HP.out.alloc _).alloc _) ⟨wr.heap.size + 1, 0, none⟩ 1 1 [.int .u8 (t + 16 * d + 4)] rfl rfl (news1 _ _ (by simp) _ _) (one1 _ rfl) (by unfold maxLen; omega) (by omega) (by simpa using hbs') ?_; intro v' w1 hown' hgrow _)
        exact ⟨⟨k + 1, by omega, by go_num, by rw [HS.out, HV.out]; exact hown', ((Bal (Bal hbel _) _).grown hgrow (Bal (Bal hbel _) _).size (fun g hg => (HP.out.lt g hg).1))⟩, by simp [intOf]; omega⟩
    · have hkn : k = l.length := by omega
      subst hkn
      go_wp2_with fail
      go_ret2
      exact ⟨_, rfl, HP.out, hbel⟩
theorem rput_no (u : Value) (l : List Pk) (w : World) (hl : l.length ≤ 1048576) (hu : PkAt w u l) (hno : ¬ ∀ p ∈ l, okP p = true) :
    Calls Try.prog 18 #[u] w fun e w' => e = .returned (.tuple #[.slice none 0 0, .bool false]) ∧ Below w.heap.size w w' := by
  obtain ⟨A, c1, rfl, hu⟩ := hu
  have HU := Lib.hid hu
  have HO := Lib.hid hno
  clear hu hno
  obtain ⟨i0, hi, hz0, hz1, hz2⟩ := info_parts info5
  go_enter Try.func18, Try.ntmps18
  go_wp2_with fail
  go_loopw [4, 5] (fun v i wr => ∃ k : Nat, k ≤ l.length ∧ i = .int .i64 k ∧ wr.ownsRow w.heap.size 5 1 v k (bs l k) ∧ Below w.heap.size w wr ∧ ∀ p ∈ l.take k, okP p = true) (fun _ i _ => l.length - (intOf i).toNat)
  case atStart => exact ⟨0, Nat.zero_le _, rfl, World.ownsRow_nil _ _ _ _, Bre _, by simp⟩
  case round =>
    obtain ⟨k, hk, rfl, hown, hbel, htk⟩ := hrel
    have HP := Lib.hid hown
    have HT := Lib.hid htk
    clear hown htk
    by_cases hlt : k < l.length
    · obtain ⟨p, hp⟩ : ∃ p, l[k]? = some p := ⟨_, List.getElem?_eq_getElem hlt⟩
      obtain ⟨b, off, rfl, hb, x1, x2, x3⟩ := HU.out k p hp
      have z1 := (hbel.cell hb).trans x1
      have z2 := (hbel.cell hb).trans x2
      have z3 := (hbel.cell hb).trans x3
      have HS := Lib.hid (bs_succ l k p hp)
      have HK : Hid (okP p = true → ∀ q ∈ l.take (k + 1), okP q = true) := by
        intro ho q hq
        rw [List.take_add_one, hp] at hq
        simp at hq
        rcases hq with h | rfl
        · exact HT.out q h
        · exact ho
      clear x1 x2 x3 hp
      obtain ⟨t, ab, d⟩ := p
      dsimp only at z1 z2 z3
      have hbs' : w.heap.size ≤ wr.heap.size + 1 + 1 := by have := hbel.size; omega
      by_cases ht : t < 0
      · go_wp2_with fail
        go_ret2
        exact ⟨rfl, Bal hbel _⟩
      by_cases ht3 : 3 < t
      · go_wp2_with fail
        go_ret2
        exact ⟨rfl, Bal hbel _⟩
      by_cases hd : d < 0
      · go_wp2_with fail
        go_ret2
        exact ⟨rfl, Bal hbel _⟩
      by_cases hd3 : 15 < d
      · go_wp2_with fail
        go_ret2
        exact ⟨rfl, Bal hbel _⟩
      have HD : Hid (okP ⟨t, ab, d⟩ = true) := by
        show okP _ = true
        simp only [okP, decide_eq_true_eq]; omega
      have q1 : decide (t < 0) = false := by simpa using ht
      have q2 : decide (3 < t) = false := by simpa using ht3
      have q3 : decide (d < 0) = false := by simpa using hd
      have q4 : decide (15 < d) = false := by simpa using hd3
      cases ab
      · have hv : bF ⟨t, false, d⟩ = (t + 16 * d) := by (simp [bF]) <;> omega
        have HV := Lib.hid hv
        clear hv
        go_wp2_with (at_builtin; refine wpList_append_own _ rfl (.tmp 46) (.tmp 49) 22 rfl w.heap.size 5 i0 _ 1 1 Try.underlying22 hi hz0 hz1 hz2 rfl (by omega) _ k (bs l k) rfl ((HP.out.alloc _).alloc _) ⟨wr.heap.size + 1, 0, none⟩ 1 1 [.int .u8 (t + 16 * d)] rfl rfl (news1 _ _ (by simp) _ _) (one1 _ rfl) (by unfold maxLen; omega) (by omega) (by simpa using hbs') ?_; intro v' w1 hown' hgrow _)
        exact ⟨⟨k + 1, by omega, by go_num, by rw [HS.out, HV.out]; exact hown', ((Bal (Bal hbel _) _).grown hgrow (Bal (Bal hbel _) _).size (fun g hg => (HP.out.lt g hg).1)), HK.out HD.out⟩, by simp [intOf]; omega⟩
      · have hv : bF ⟨t, true, d⟩ = (t + 16 * d + 4) := by (simp [bF]) <;> omega
        have HV := Lib.hid hv
        clear hv
        go_wp2_with (at_builtin; refine wpList_append_own _ rfl (.tmp 46) (.tmp 49) 22 rfl w.heap.size 5 i0 _ 1 1 Try.underlying22 hi hz0 hz1 hz2 rfl (by omega) _ k (bs l k) rfl ((HP.out.alloc _).alloc _) ⟨wr.heap.size + 1, 0, none⟩ 1 1 [.int .u8 (t + 16 * d + 4)] rfl rfl (news1 _ _ (by simp) _ _) (one1 _ rfl) (by unfold maxLen; omega) (by omega) (by simpa using hbs') ?_; intro v' w1 hown' hgrow _)
        exact ⟨⟨k + 1, by omega, by go_num, by rw [HS.out, HV.out]; exact hown', ((Bal (Bal hbel _) _).grown hgrow (Bal (Bal hbel _) _).size (fun g hg => (HP.out.lt g hg).1)), HK.out HD.out⟩, by simp [intOf]; omega⟩
    · have := HT.out
      rw [List.take_of_length_le (by omega)] at this
      exact absurd this HO.out
end Go.Proofs.Ytbfoeinjopgnpaa
