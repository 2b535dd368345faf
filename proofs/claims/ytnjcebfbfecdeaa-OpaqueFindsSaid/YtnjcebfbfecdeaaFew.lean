/-
  Few tries (few); what lies in a row of numbers (slices.Index, slices.Contains), and its copy (slices.Clone).
-/
import Derived.Test.YtnjcebfbfecdeaaMid
set_option linter.unusedVariables false
namespace Go.Proofs.Ytnjcebfbfecdeaa
open Go.RowKit Go.Maps
set_option maxRecDepth 100000 in
set_option maxHeartbeats 1600000 in
theorem few_any (u : Value) (n N : Nat) (ms : Nat → Nat) (w : World) (hu : TrysAt w u n ms) (hN : N ≤ 1048576) :
    Calls Try.prog 8 #[u, .int .i64 N] w fun e w' => ∃ b, e = .returned (.bool b) ∧ (b = true → n ≤ N ∧ ∀ i, i < n → ms i ≤ 6) ∧ w = w' := by
  obtain ⟨A, c1, rfl, hc1, hu⟩ := hu
  have HU := Lib.hid hu
  clear hu
  go_enter Try.func8, Try.ntmps8
  go_wp2_with fail
  go_loopw [5] (fun i wr => ∃ k : Nat, k ≤ n ∧ k ≤ N + 1 ∧ i = .int .i64 k ∧ wr = w ∧ Hid (∀ i, i < k → ms i ≤ 6)) (fun i _ => n - (intOf i).toNat)
  case atStart => exact ⟨0, by omega, by omega, rfl, rfl, by show ∀ i, _; intro i h; omega⟩
  case round =>
    obtain ⟨k, hk, hkN, rfl, rfl, hok⟩ := hrel
    by_cases hlt : k < n
    · by_cases hkn : k ≤ N
      · obtain ⟨b, off, th, fr, lg, en, real, ops, rfl, hb, -, -, -, -, hops, a0, a1, a2, a3, a4, a5⟩ := HU.out k hlt
        obtain ⟨Ao, co, rfl, hco, -⟩ := hops
        clear a0 a1 a2 a3 a4
        by_cases h6 : 6 < ms k
        · generalize ms k = m at *
          go_wp2_with fail
          go_ret
          exact ⟨false, rfl, by simp, rfl⟩
        · have hok' : Hid (∀ i, i < k + 1 → ms i ≤ 6) := by
            show ∀ i, _
            intro i hi
            by_cases e : i = k
            · subst e; omega
            · exact hok.out i (by omega)
          generalize ms k = m at h6 hco a5
          go_wp2_with fail
          exact ⟨⟨k + 1, by omega, by omega, by go_num, trivial, hok'⟩, by (simp [intOf]) <;> omega⟩
      · have hnN : ¬ n ≤ N := by omega
        go_wp2_with fail
        go_ret
        exact ⟨_, rfl, fun h => absurd (by simp at h) (show ¬ (n : Int) ≤ N by omega), rfl⟩
    · obtain rfl : k = n := by omega
      by_cases hnN : k ≤ N
      · go_wp2_with fail
        go_ret
        exact ⟨_, rfl, fun _ => ⟨hnN, hok.out⟩, rfl⟩
      · go_wp2_with fail
        go_ret
        exact ⟨_, rfl, fun h => absurd (by simp at h) (show ¬ (k : Int) ≤ N by omega), rfl⟩
set_option maxRecDepth 100000 in
set_option maxHeartbeats 1600000 in
theorem index_any (v : Value) (zs : List Int) (x : Int) (w : World) (hv : IntsAt w v zs) (hn : zs.length ≤ 1048576) :
    Calls Try.prog 28 #[v, .int .i64 x] w fun e w' => ∃ r, e = .returned (.int .i64 r) ∧ (0 ≤ r ↔ x ∈ zs) ∧ w = w' := by
  obtain ⟨B, c, rfl, hc, hv⟩ := hv
  have HV := Lib.hid hv
  clear hv
  go_enter Try.func28, Try.ntmps28
  go_wp2_with fail
  go_loopw [8] (fun i wr => ∃ k : Nat, k ≤ zs.length ∧ i = .int .i64 k ∧ wr = w ∧ Hid (x ∉ zs.take k)) (fun i _ => zs.length - (intOf i).toNat)
  case atStart => exact ⟨0, by omega, rfl, rfl, by show ¬ _; simp⟩
  case round =>
    obtain ⟨k, hk, rfl, rfl, hok⟩ := hrel
    by_cases hlt : k < zs.length
    · obtain ⟨y, hy⟩ : ∃ y, zs[k]? = some y := ⟨_, List.getElem?_eq_getElem hlt⟩
      obtain ⟨b, off, rfl, hb, hcell⟩ := HV.out k y hy
      have HT := Lib.hid (take_snoc zs k y hy)
      have hmem : Hid (y ∈ zs) := List.mem_of_getElem? hy
      clear hy
      by_cases e : x = y
      · subst e
        go_wp2_with fail
        go_ret
        exact ⟨_, rfl, ⟨fun _ => hmem.out, fun _ => by omega⟩, rfl⟩
      · have hok' : Hid (x ∉ zs.take (k + 1)) := by
          show ¬ _
          rw [HT.out, List.mem_append]
          rintro (h | h)
          · exact hok.out h
          · simp at h; exact e h
        go_wp2_with fail
        exact ⟨⟨k + 1, by omega, by go_num, trivial, hok'⟩, by (simp [intOf]) <;> omega⟩
    · have hno : Hid (x ∉ zs) := by
        have := hok.out
        rwa [show k = zs.length by omega, List.take_length] at this
      go_wp2_with fail
      go_ret
      exact ⟨_, rfl, ⟨fun h => by simp at h, fun h => absurd h hno.out⟩, rfl⟩
set_option maxRecDepth 100000 in
set_option maxHeartbeats 1600000 in
theorem contains_any (v : Value) (zs : List Int) (x : Int) (w : World) (hv : IntsAt w v zs) (hn : zs.length ≤ 1048576) :
    Calls Try.prog 26 #[v, .int .i64 x] w fun e w' => e = .returned (.bool (decide (x ∈ zs))) ∧ w = w' := by
  go_enter Try.func26, Try.ntmps26
  go_wp2_with (go_at_call 28; refine (index_any _ _ _ _ hv hn).mono ?_; rintro e w1 ⟨r, rfl, hr, rfl⟩)
  go_ret
  exact ⟨by simp, rfl⟩
end Go.Proofs.Ytnjcebfbfecdeaa
