/-
  Whether an instruction may be.
-/
import Derived.Test.YtipkaloldlplgaaFits
set_option linter.unusedVariables false
namespace Go.Proofs.Ytipkaloldlplgaa
open Go.RowKit
structure Ins where
  op : Int
  a : Int
  b : Int
  c : Int
  n : Int
  deriving DecidableEq
def Ins.cells (i : Ins) : List Value := [.int .i64 i.op, .int .i64 i.a, .int .i64 i.b, .int .i64 i.c, .int .i64 i.n]
def Ins.val (i : Ins) : Value := .agg #[.int .i64 i.op, .int .i64 i.a, .int .i64 i.b, .int .i64 i.c, .int .i64 i.n]
def mayB (i : Ins) : Bool := decide (1 ≤ i.op ∧ i.op ≤ 22) && fitB (shA i.op) i.a && fitB (shB i.op) i.b && fitB (shC i.op) i.c && (shN i.op || decide (i.n = 0))
theorem sh_bd (op : Int) : (0 ≤ shA op ∧ shA op ≤ 4) ∧ (0 ≤ shB op ∧ shB op ≤ 4) ∧ (0 ≤ shC op ∧ shC op ≤ 4) := by
  unfold shA shB shC
  refine ⟨?_, ?_, ?_⟩ <;> (repeat' split) <;> omega
def shNI (op : Int) : Int := if shN op then 5 else 0
theorem shape_call (op : Int) (w : World) : Calls Try.prog 22 #[.int .i64 op] w fun e w' => e = .returned (.tuple #[.int .i64 (shA op), .int .i64 (shB op), .int .i64 (shC op), .int .i64 (shNI op)]) ∧ w = w' := shape_any op w
set_option maxHeartbeats 3200000 in
theorem may_any (i : Ins) (w : World) : Calls Try.prog 11 #[i.val] w fun e w' => e = .returned (.bool (mayB i)) ∧ Below w.heap.size w w' := by
  obtain ⟨op, a, b, c, n⟩ := i
  obtain ⟨⟨a0, a4⟩, ⟨b0, b4⟩, ⟨c0, c4⟩⟩ := sh_bd op
  unfold Ins.val
  dsimp only
  by_cases h1 : 1 ≤ op
  case neg =>
    have hb : mayB ⟨op, a, b, c, n⟩ = false := by simp [mayB, show ¬ (1 ≤ op) from h1]
    rw [hb]; clear hb
    go_enter Try.func11, Try.ntmps11
    go_wp2_with (first
      | (go_at_call 22; refine (shape_call op _).mono ?_; rintro e w' ⟨rfl, rfl⟩)
      | (go_at_call 23; refine (fits_any _ _ _ (by omega) (by omega)).mono ?_; rintro e w' ⟨rfl, rfl⟩))
    go_ret
    exact ⟨rfl, Bal (Bre _) _⟩
  by_cases h2 : op ≤ 22
  case neg =>
    have hb : mayB ⟨op, a, b, c, n⟩ = false := by simp [mayB, show ¬ (op ≤ 22) from h2]
    rw [hb]; clear hb
    go_enter Try.func11, Try.ntmps11
    go_wp2_with (first
      | (go_at_call 22; refine (shape_call op _).mono ?_; rintro e w' ⟨rfl, rfl⟩)
      | (go_at_call 23; refine (fits_any _ _ _ (by omega) (by omega)).mono ?_; rintro e w' ⟨rfl, rfl⟩))
    go_ret
    exact ⟨rfl, Bal (Bre _) _⟩
  cases hA : fitB (shA op) a
  case false =>
    have hb : mayB ⟨op, a, b, c, n⟩ = false := by simp [mayB, h1, h2, hA]
    rw [hb]; clear hb
    go_enter Try.func11, Try.ntmps11
    go_wp2_with (first
      | (go_at_call 22; refine (shape_call op _).mono ?_; rintro e w' ⟨rfl, rfl⟩)
      | (go_at_call 23; refine (fits_any _ _ _ (by omega) (by omega)).mono ?_; rintro e w' ⟨rfl, rfl⟩))
    go_ret
    exact ⟨rfl, Bal (Bre _) _⟩
  cases hB : fitB (shB op) b
  case false =>
    have hb : mayB ⟨op, a, b, c, n⟩ = false := by simp [mayB, h1, h2, hA, hB]
    rw [hb]; clear hb
    go_enter Try.func11, Try.ntmps11
    go_wp2_with (first
      | (go_at_call 22; refine (shape_call op _).mono ?_; rintro e w' ⟨rfl, rfl⟩)
      | (go_at_call 23; refine (fits_any _ _ _ (by omega) (by omega)).mono ?_; rintro e w' ⟨rfl, rfl⟩))
    go_ret
    exact ⟨rfl, Bal (Bre _) _⟩
  cases hC : fitB (shC op) c
  case false =>
    have hb : mayB ⟨op, a, b, c, n⟩ = false := by simp [mayB, h1, h2, hA, hB, hC]
    rw [hb]; clear hb
    go_enter Try.func11, Try.ntmps11
    go_wp2_with (first
      | (go_at_call 22; refine (shape_call op _).mono ?_; rintro e w' ⟨rfl, rfl⟩)
      | (go_at_call 23; refine (fits_any _ _ _ (by omega) (by omega)).mono ?_; rintro e w' ⟨rfl, rfl⟩))
    go_ret
    exact ⟨rfl, Bal (Bre _) _⟩
  cases hN : shN op
  case true =>
    have hs : shNI op = 5 := by simp [shNI, hN]
    have hb : mayB ⟨op, a, b, c, n⟩ = true := by simp [mayB, h1, h2, hA, hB, hC, hN]
    rw [hb]; clear hb
    go_enter Try.func11, Try.ntmps11
    go_wp2_with (first
      | (go_at_call 22; refine (shape_call op _).mono ?_; rintro e w' ⟨rfl, rfl⟩)
      | (go_at_call 23; refine (fits_any _ _ _ (by omega) (by omega)).mono ?_; rintro e w' ⟨rfl, rfl⟩))
    go_ret
    exact ⟨rfl, Bal (Bre _) _⟩
  have hs : shNI op = 0 := by simp [shNI, hN]
  by_cases hn : n = 0
  · have hn2 : (n == 0) = true := by simpa using hn
    have hb : mayB ⟨op, a, b, c, n⟩ = true := by simp [mayB, h1, h2, hA, hB, hC, hN, hn]
    rw [hb]; clear hb hn
    go_enter Try.func11, Try.ntmps11
    go_wp2_with (first
      | (go_at_call 22; refine (shape_call op _).mono ?_; rintro e w' ⟨rfl, rfl⟩)
      | (go_at_call 23; refine (fits_any _ _ _ (by omega) (by omega)).mono ?_; rintro e w' ⟨rfl, rfl⟩))
    go_ret
    exact ⟨rfl, Bal (Bre _) _⟩
  · have hn2 : (n == 0) = false := by simpa using hn
    have hb : mayB ⟨op, a, b, c, n⟩ = false := by simp [mayB, h1, h2, hA, hB, hC, hN, hn]
    rw [hb]; clear hb
    go_enter Try.func11, Try.ntmps11
    go_wp2_with (first
      | (go_at_call 22; refine (shape_call op _).mono ?_; rintro e w' ⟨rfl, rfl⟩)
      | (go_at_call 23; refine (fits_any _ _ _ (by omega) (by omega)).mono ?_; rintro e w' ⟨rfl, rfl⟩))
    go_ret
    exact ⟨rfl, Bal (Bre _) _⟩
set_option maxHeartbeats 3200000 in
theorem rmay_any (i : Ins) (w : World) : Calls Try.prog 12 #[i.val] w fun e w' => e = .returned (.bool (mayB i)) ∧ Below w.heap.size w w' := by
  obtain ⟨op, a, b, c, n⟩ := i
  obtain ⟨⟨a0, a4⟩, ⟨b0, b4⟩, ⟨c0, c4⟩⟩ := sh_bd op
  unfold Ins.val
  dsimp only
  by_cases h1 : 1 ≤ op
  case neg =>
    have hb : mayB ⟨op, a, b, c, n⟩ = false := by simp [mayB, show ¬ (1 ≤ op) from h1]
    rw [hb]; clear hb
    go_enter Try.func12, Try.ntmps12
    go_wp2_with (first
      | (go_at_call 24; refine (fields_any op _).mono ?_; rintro e w' ⟨rfl, rfl⟩)
      | (go_at_call 25; refine (field_any _ _ _ (by omega) (by omega)).mono ?_; rintro e w' ⟨rfl, hq⟩; obtain ⟨hc, hf⟩ := bcell hq; have hz : w.heap.size < w'.heap.size := by (have := hq.size; (try simp at this); omega)))
    go_ret
    refine ⟨rfl, ?_⟩
    repeat (first | exact Bal (Bre _) _ | refine Bth ?_ (by assumption))
  by_cases h2 : op ≤ 22
  case neg =>
    have hb : mayB ⟨op, a, b, c, n⟩ = false := by simp [mayB, show ¬ (op ≤ 22) from h2]
    rw [hb]; clear hb
    go_enter Try.func12, Try.ntmps12
    go_wp2_with (first
      | (go_at_call 24; refine (fields_any op _).mono ?_; rintro e w' ⟨rfl, rfl⟩)
      | (go_at_call 25; refine (field_any _ _ _ (by omega) (by omega)).mono ?_; rintro e w' ⟨rfl, hq⟩; obtain ⟨hc, hf⟩ := bcell hq; have hz : w.heap.size < w'.heap.size := by (have := hq.size; (try simp at this); omega)))
    go_ret
    refine ⟨rfl, ?_⟩
    repeat (first | exact Bal (Bre _) _ | refine Bth ?_ (by assumption))
  cases hA : fitB (shA op) a
  case false =>
    have hb : mayB ⟨op, a, b, c, n⟩ = false := by simp [mayB, h1, h2, hA]
    rw [hb]; clear hb
    go_enter Try.func12, Try.ntmps12
    go_wp2_with (first
      | (go_at_call 24; refine (fields_any op _).mono ?_; rintro e w' ⟨rfl, rfl⟩)
      | (go_at_call 25; refine (field_any _ _ _ (by omega) (by omega)).mono ?_; rintro e w' ⟨rfl, hq⟩; obtain ⟨hc, hf⟩ := bcell hq; have hz : w.heap.size < w'.heap.size := by (have := hq.size; (try simp at this); omega)))
    go_ret
    refine ⟨rfl, ?_⟩
    repeat (first | exact Bal (Bre _) _ | refine Bth ?_ (by assumption))
  cases hB : fitB (shB op) b
  case false =>
    have hb : mayB ⟨op, a, b, c, n⟩ = false := by simp [mayB, h1, h2, hA, hB]
    rw [hb]; clear hb
    go_enter Try.func12, Try.ntmps12
    go_wp2_with (first
      | (go_at_call 24; refine (fields_any op _).mono ?_; rintro e w' ⟨rfl, rfl⟩)
      | (go_at_call 25; refine (field_any _ _ _ (by omega) (by omega)).mono ?_; rintro e w' ⟨rfl, hq⟩; obtain ⟨hc, hf⟩ := bcell hq; have hz : w.heap.size < w'.heap.size := by (have := hq.size; (try simp at this); omega)))
    go_ret
    refine ⟨rfl, ?_⟩
    repeat (first | exact Bal (Bre _) _ | refine Bth ?_ (by assumption))
  cases hC : fitB (shC op) c
  case false =>
    have hb : mayB ⟨op, a, b, c, n⟩ = false := by simp [mayB, h1, h2, hA, hB, hC]
    rw [hb]; clear hb
    go_enter Try.func12, Try.ntmps12
    go_wp2_with (first
      | (go_at_call 24; refine (fields_any op _).mono ?_; rintro e w' ⟨rfl, rfl⟩)
      | (go_at_call 25; refine (field_any _ _ _ (by omega) (by omega)).mono ?_; rintro e w' ⟨rfl, hq⟩; obtain ⟨hc, hf⟩ := bcell hq; have hz : w.heap.size < w'.heap.size := by (have := hq.size; (try simp at this); omega)))
    go_ret
    refine ⟨rfl, ?_⟩
    repeat (first | exact Bal (Bre _) _ | refine Bth ?_ (by assumption))
  cases hN : shN op
  case true =>
    skip
    have hb : mayB ⟨op, a, b, c, n⟩ = true := by simp [mayB, h1, h2, hA, hB, hC, hN]
    rw [hb]; clear hb
    go_enter Try.func12, Try.ntmps12
    go_wp2_with (first
      | (go_at_call 24; refine (fields_any op _).mono ?_; rintro e w' ⟨rfl, rfl⟩)
      | (go_at_call 25; refine (field_any _ _ _ (by omega) (by omega)).mono ?_; rintro e w' ⟨rfl, hq⟩; obtain ⟨hc, hf⟩ := bcell hq; have hz : w.heap.size < w'.heap.size := by (have := hq.size; (try simp at this); omega)))
    go_ret
    refine ⟨rfl, ?_⟩
    repeat (first | exact Bal (Bre _) _ | refine Bth ?_ (by assumption))
  skip
  by_cases hn : n = 0
  · have hn2 : (n == 0) = true := by simpa using hn
    have hb : mayB ⟨op, a, b, c, n⟩ = true := by simp [mayB, h1, h2, hA, hB, hC, hN, hn]
    rw [hb]; clear hb hn
    go_enter Try.func12, Try.ntmps12
    go_wp2_with (first
      | (go_at_call 24; refine (fields_any op _).mono ?_; rintro e w' ⟨rfl, rfl⟩)
      | (go_at_call 25; refine (field_any _ _ _ (by omega) (by omega)).mono ?_; rintro e w' ⟨rfl, hq⟩; obtain ⟨hc, hf⟩ := bcell hq; have hz : w.heap.size < w'.heap.size := by (have := hq.size; (try simp at this); omega)))
    go_ret
    refine ⟨rfl, ?_⟩
    repeat (first | exact Bal (Bre _) _ | refine Bth ?_ (by assumption))
  · have hn2 : (n == 0) = false := by simpa using hn
    have hb : mayB ⟨op, a, b, c, n⟩ = false := by simp [mayB, h1, h2, hA, hB, hC, hN, hn]
    rw [hb]; clear hb
    go_enter Try.func12, Try.ntmps12
    go_wp2_with (first
      | (go_at_call 24; refine (fields_any op _).mono ?_; rintro e w' ⟨rfl, rfl⟩)
      | (go_at_call 25; refine (field_any _ _ _ (by omega) (by omega)).mono ?_; rintro e w' ⟨rfl, hq⟩; obtain ⟨hc, hf⟩ := bcell hq; have hz : w.heap.size < w'.heap.size := by (have := hq.size; (try simp at this); omega)))
    go_ret
    refine ⟨rfl, ?_⟩
    repeat (first | exact Bal (Bre _) _ | refine Bth ?_ (by assumption))
end Go.Proofs.Ytipkaloldlplgaa
