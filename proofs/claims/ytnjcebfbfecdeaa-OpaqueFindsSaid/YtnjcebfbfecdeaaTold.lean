/-
  The document's example (told): true, whatever the memory.
-/
import Derived.Test.YtnjcebfbfecdeaaLegal2
import Derived.Deep.Cut
set_option linter.unusedVariables false
namespace Go.Proofs.Ytnjcebfbfecdeaa
open Go.RowKit Go.Maps
theorem ints1 {w : World} {b : Nat} {x : Int} (hb : b < w.heap.size) (h : w.cell? ⟨b, 0, none⟩ = some (.int .i64 x)) : IntsAt w (.slice (some ⟨b, 0, none⟩) 1 1) [x] := by
  refine ⟨_, _, rfl, by simp, fun i y hi => ?_⟩
  cases i with
  | zero => simp at hi; subst hi; exact ⟨b, 0, rfl, hb, h⟩
  | succ i => simp at hi
theorem ints0 (w : World) : IntsAt w (.slice none 0 0) [] := ⟨_, _, rfl, by simp, fun i y hi => by simp at hi⟩
def aT : Att := ⟨0, 1, false, 0, 0, 6, 0, 0, [⟨0, 1⟩], [], [0]⟩
def toldC (n : Nat) : Array Value := #[.int .i64 0, .int .i64 1, .bool false, .int .i64 0, .int .i64 0, .int .i64 6, .int .i64 0, .int .i64 0, .slice (some ⟨n, 0, none⟩) 1 1, .slice none 0 0, .slice (some ⟨n + 1, 0, none⟩) 1 1, .slice none 0 0]
def toldW (w : World) : World := ((w.alloc (.cells #[.int .i64 0, .int .i64 1] 51)).alloc (.cells #[.int .i64 0] 3)).alloc (.cells (toldC w.heap.size) 33)
theorem toldW_below (w : World) : Below w.heap.size w (toldW w) := Bal (Bal (Bal (Bre _) _) _) _
theorem toldW_get0 (w : World) : (toldW w).heap[w.heap.size]? = some (.cells #[.int .i64 0, .int .i64 1] 51) := by
  unfold toldW World.alloc; simp [Array.getElem?_push]; omega
theorem toldW_get1 (w : World) : (toldW w).heap[w.heap.size + 1]? = some (.cells #[.int .i64 0] 3) := by
  unfold toldW World.alloc; simp [Array.getElem_push]
theorem toldW_get2 (w : World) : (toldW w).heap[w.heap.size + 2]? = some (.cells (toldC w.heap.size) 33) := by
  unfold toldW World.alloc; simp [Array.getElem_push]
theorem toldW_size (w : World) : (toldW w).heap.size = w.heap.size + 3 := by
  unfold toldW World.alloc; simp
theorem told_at (w : World) : AttsAt (toldW w) (.slice (some ⟨w.heap.size + 2, 0, none⟩) 1 1) [aT] := by
  have h0 := toldW_get0 w
  have h1 := toldW_get1 w
  have h2 := toldW_get2 w
  have hs := toldW_size w
  refine ⟨_, _, rfl, by simp, fun i p hi => ?_⟩
  cases i with
  | succ i => simp at hi
  | zero =>
    simp at hi; subst hi
    refine ⟨_, 0, .slice (some ⟨w.heap.size, 0, none⟩) 1 1, .slice none 0 0, .slice (some ⟨w.heap.size + 1, 0, none⟩) 1 1, rfl, by omega, ⟨?_, ?_, ?_⟩, ?_⟩
    · refine ⟨_, _, rfl, by simp [aT], fun i y hi => ?_⟩
      cases i with
      | succ i => simp [aT] at hi
      | zero => simp [aT] at hi; subst hi; exact ⟨_, 0, rfl, by omega, by simp [World.cell?, h0], by simp [World.cell?, h0]⟩
    · exact ⟨_, _, rfl, by simp [aT], fun i y hi => by simp [aT] at hi⟩
    · exact ints1 (by omega) (by simp [World.cell?, h1])
    · intro j u hu
      have hj : j < 12 := by
        have := (List.getElem?_eq_some_iff.1 hu).1
        simpa [attCells] using this
      have : (toldC w.heap.size)[j]? = some u := by
        rw [← hu]
        simp only [toldC, attCells, aT]
        simp
      simp [World.cell?, h2, this]
theorem fineT : ∀ p ∈ [aT], Fine p := by
  intro p hp
  simp at hp; subst hp
  exact ⟨fun x hx => by simp [aT] at hx; subst hx; exact wf_small 0 (by decide), fun x hx => by simp [aT] at hx, by decide, by decide, by decide⟩
theorem may_t : MayS [aT].length [0] := by decide
theorem lgA : LegalS [0] [aT] [0] 0 := by
  refine Or.inr ⟨may_t, Or.inl ⟨0, by decide, rfl, fun m h => by omega, ?_⟩⟩
  intro h
  have := h 0 (by simp [aT])
  simp [legK, wordsS, startS, aT, seenN, wantS, dW] at this
theorem lgB : LegalS [1] [aT] [0] (-1) := by
  refine Or.inr ⟨may_t, Or.inr ⟨rfl, fun m h => ?_⟩⟩
  have : m = 0 := by simp at h; omega
  subst this
  intro k hk
  have : k = 0 := by simp [aT] at hk; omega
  subst this
  simp [legK, wordsS, startS, aT, seenN, wantS, dW]
theorem lgC : LegalS [] [aT] [] (-2) := Or.inl ⟨by decide, rfl⟩
set_option maxRecDepth 100000 in
set_option maxHeartbeats 3200000 in
theorem told_any (w : World) : Calls Try.prog 9 #[] w fun e w' => e = .returned (.bool true) ∧ Below w.heap.size w w' := by
  have HAT := Lib.hid (told_at w)
  have HBW := Lib.hid (toldW_below w)
  have hsz := toldW_size w
  obtain ⟨W, hW⟩ : ∃ W, W = toldW w := ⟨_, rfl⟩
  have hWl : (((w.alloc (.cells #[.int .i64 0, .int .i64 1] 51)).alloc (.cells #[.int .i64 0] 3)).alloc (.cells #[.int .i64 0, .int .i64 1, .bool false, .int .i64 0, .int .i64 0, .int .i64 6, .int .i64 0, .int .i64 0, .slice (some ⟨w.heap.size, 0, none⟩) 1 1, .slice none 0 0, .slice (some ⟨w.heap.size + 1, 0, none⟩) 1 1, .slice none 0 0] 33)) = W := hW.symm
  rw [← hW] at HAT HBW hsz
  have HWL := Lib.hid hWl
  clear hWl hW
  go_enter Try.func9, Try.ntmps9
  go_upto_region 2 with fail
  rw [HWL.out]
  clear HWL
  have hat : AttsAt W (.slice (some ⟨w.heap.size + 1 + 1, 0, none⟩) 1 1) [aT] := HAT.out
  have HA := Lib.hid hat
  have HW1 := Lib.hid (show ∀ x ∈ [(0 : Int)], wf64 x from fun x hx => by simp at hx; subst hx; exact wf_small 0 (by decide))
  have HW2 := Lib.hid (show ∀ x ∈ [(1 : Int)], wf64 x from fun x hx => by simp at hx; subst hx; exact wf_small 1 (by decide))
  clear hat HAT hsz
  go_wp2_with fail
  · refine (Legal_any _ _ _ [0] [aT] [0] _ (ints1 (by go_simp) (by go_simp)) (HA.out.th (Bal (Bal (Bre _) _) _)) (ints1 (by go_simp) (by go_simp)) HW1.out fineT (by decide) (by decide)).mono ?_
    rintro e w2 ⟨r, rfl, hr, hb2⟩
    obtain rfl := hr.unique lgA
    clear hr
    dsimp only
    have h2 := Bth (Bal (Bal (Bre W) _) _) hb2
    go_wp2_with fail
    refine (Legal_any _ _ _ [1] [aT] [0] _ (ints1 (by go_simp) (by go_simp)) (HA.out.th (Bal (Bal h2 _) _)) (ints1 (by go_simp) (by go_simp)) HW2.out fineT (by decide) (by decide)).mono ?_
    rintro e w3 ⟨r, rfl, hr, hb3⟩
    obtain rfl := hr.unique lgB
    clear hr
    dsimp only
    have h3 := Bth (Bal (Bal h2 _) _) hb3
    clear hb2 hb3 h2
    go_wp2_with fail
    refine (Legal_any _ _ _ [] [aT] [] _ (ints0 _) (HA.out.th h3) (ints0 _) (by simp) fineT (by decide) (by decide)).mono ?_
    rintro e w4 ⟨r, rfl, hr, hb4⟩
    obtain rfl := hr.unique lgC
    clear hr
    dsimp only
    have h4 := Bth h3 hb4
    clear h3 hb4
    go_wp2_with fail
    have hmb : mayB 1 [0] = true := by decide
    refine (may_any _ 1 1 _ [0] _ (by decide) (ints1 (by go_simp) (by go_simp))).mono ?_
    rintro e w5 ⟨rfl, hb5⟩
    dsimp only
    have h5 := Bth (Bal h4 _) hb5
    clear h4 hb5
    rw [hmb]
    go_wp2_with fail
    go_ret
    exact ⟨rfl, Bth HBW.out h5⟩
end Go.Proofs.Ytnjcebfbfecdeaa
