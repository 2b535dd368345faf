/-
  What an instruction puts into a register.
-/
import Derived.Test.YtipkaloldlplgaaMates
import Derived.IntWalk
set_option linter.unusedVariables false
namespace Go.Proofs.Ytipkaloldlplgaa
open Go.RowKit
structure Rg where
  a : Int
  b : Int
  c : Int
  d : Int
  deriving DecidableEq
def Rg.get (r : Rg) (i : Int) : Int := if i = 0 then r.a else if i = 1 then r.b else if i = 2 then r.c else r.d
def Rg.set (r : Rg) (i v : Int) : Rg := if i = 0 then { r with a := v } else if i = 1 then { r with b := v } else if i = 2 then { r with c := v } else { r with d := v }
def Rg.arr (r : Rg) : Array Value := #[.int .i64 r.a, .int .i64 r.b, .int .i64 r.c, .int .i64 r.d]
def Rg.val (r : Rg) : Value := .agg #[.int .i64 r.a, .int .i64 r.b, .int .i64 r.c, .int .i64 r.d]
theorem rg_at (r : Rg) (b : Nat) (h : b < 4) : ([Value.int .i64 r.a, .int .i64 r.b, .int .i64 r.c, .int .i64 r.d] : List Value)[b]'(by simp; omega) = .int .i64 (r.get b) := by
  have : b = 0 ∨ b = 1 ∨ b = 2 ∨ b = 3 := by omega
  rcases this with rfl | rfl | rfl | rfl <;> rfl
def b2i (b : Bool) : Int := if b then 1 else 0
theorem one_any (b : Bool) (w : World) : Calls Try.prog 28 #[.bool b] w fun e w' => e = .returned (.int .i64 (b2i b)) ∧ w' = w := by
  cases b
  · go_enter Try.func28, Try.ntmps28
    go_wp2_with fail
    go_ret
    exact ⟨rfl, rfl⟩
  · go_enter Try.func28, Try.ntmps28
    go_wp2_with fail
    go_ret
    exact ⟨rfl, rfl⟩
theorem truth_any (b : Bool) (w : World) : Calls Try.prog 27 #[.bool b] w fun e w' => e = .returned (.int .i64 (b2i b)) ∧ w' = w := by
  cases b
  · go_enter Try.func27, Try.ntmps27
    go_wp2_with fail
    go_ret
    exact ⟨rfl, rfl⟩
  · go_enter Try.func27, Try.ntmps27
    go_wp2_with fail
    go_ret
    exact ⟨rfl, rfl⟩
theorem val2 (w : World) (r : Rg) (a n : Int) (b c : Nat) (hb : b < 4) (hc : c < 4) :
    Calls Try.prog 26 #[.agg #[.int .i64 2, .int .i64 a, .int .i64 b, .int .i64 c, .int .i64 n], .agg #[.int .i64 r.a, .int .i64 r.b, .int .i64 r.c, .int .i64 r.d]] w fun e w' => e = .returned (.int .i64 (wrap64 (r.get b + r.get c))) ∧ Below w.heap.size w w' := by
  have x1 := rg_at r b hb
  have x2 := rg_at r c hc
  have q1 : (b : Int) < 4 := by omega
  have q2 : (c : Int) < 4 := by omega
  generalize r.get b = u at x1 ⊢
  generalize r.get c = v at x2 ⊢
  obtain ⟨s, hs⟩ : ∃ s, IntKind.i64.wrap (u + v) = s := ⟨_, rfl⟩
  have hs2 : wrap64 (u + v) = s := by rw [← hs, IntWalk.i64_left]
  rw [hs2]
  go_enter Try.func26, Try.ntmps26
  go_wp2_with fail
  go_quiet (fail)
  go_wp2_with fail
  go_ret
  exact ⟨rfl, drewN_below (Bal (Bal (Bre _) _) _) _⟩
theorem val3 (w : World) (r : Rg) (a n : Int) (b c : Nat) (hb : b < 4) (hc : c < 4) :
    Calls Try.prog 26 #[.agg #[.int .i64 3, .int .i64 a, .int .i64 b, .int .i64 c, .int .i64 n], .agg #[.int .i64 r.a, .int .i64 r.b, .int .i64 r.c, .int .i64 r.d]] w fun e w' => e = .returned (.int .i64 (wrap64 (r.get b - r.get c))) ∧ Below w.heap.size w w' := by
  have x1 := rg_at r b hb
  have x2 := rg_at r c hc
  have q1 : (b : Int) < 4 := by omega
  have q2 : (c : Int) < 4 := by omega
  generalize r.get b = u at x1 ⊢
  generalize r.get c = v at x2 ⊢
  obtain ⟨s, hs⟩ : ∃ s, IntKind.i64.wrap (u - v) = s := ⟨_, rfl⟩
  have hs2 : wrap64 (u - v) = s := by rw [← hs, IntWalk.i64_left]
  rw [hs2]
  go_enter Try.func26, Try.ntmps26
  go_wp2_with fail
  go_quiet (fail)
  go_wp2_with fail
  go_ret
  exact ⟨rfl, drewN_below (Bal (Bal (Bre _) _) _) _⟩
theorem val4 (w : World) (r : Rg) (a n : Int) (b c : Nat) (hb : b < 4) (hc : c < 4) :
    Calls Try.prog 26 #[.agg #[.int .i64 4, .int .i64 a, .int .i64 b, .int .i64 c, .int .i64 n], .agg #[.int .i64 r.a, .int .i64 r.b, .int .i64 r.c, .int .i64 r.d]] w fun e w' => e = .returned (.int .i64 (wrap64 (r.get b * r.get c))) ∧ Below w.heap.size w w' := by
  have x1 := rg_at r b hb
  have x2 := rg_at r c hc
  have q1 : (b : Int) < 4 := by omega
  have q2 : (c : Int) < 4 := by omega
  generalize r.get b = u at x1 ⊢
  generalize r.get c = v at x2 ⊢
  obtain ⟨s, hs⟩ : ∃ s, IntKind.i64.wrap (u * v) = s := ⟨_, rfl⟩
  have hs2 : wrap64 (u * v) = s := by rw [← hs, IntWalk.i64_left]
  rw [hs2]
  go_enter Try.func26, Try.ntmps26
  go_wp2_with fail
  go_quiet (fail)
  go_wp2_with fail
  go_ret
  exact ⟨rfl, drewN_below (Bal (Bal (Bre _) _) _) _⟩
theorem val5 (w : World) (r : Rg) (a n : Int) (b c : Nat) (hb : b < 4) (hc : c < 4) :
    Calls Try.prog 26 #[.agg #[.int .i64 5, .int .i64 a, .int .i64 b, .int .i64 c, .int .i64 n], .agg #[.int .i64 r.a, .int .i64 r.b, .int .i64 r.c, .int .i64 r.d]] w fun e w' => e = .returned (.int .i64 (bits .xor .i64 (r.get b) (r.get c))) ∧ Below w.heap.size w w' := by
  have x1 := rg_at r b hb
  have x2 := rg_at r c hc
  have q1 : (b : Int) < 4 := by omega
  have q2 : (c : Int) < 4 := by omega
  generalize r.get b = u at x1 ⊢
  generalize r.get c = v at x2 ⊢
  go_enter Try.func26, Try.ntmps26
  go_wp2_with fail
  go_quiet (fail)
  go_wp2_with fail
  go_ret
  exact ⟨rfl, drewN_below (Bal (Bal (Bre _) _) _) _⟩
theorem val6 (w : World) (r : Rg) (a n : Int) (b c : Nat) (hb : b < 4) (hc : c < 4) :
    Calls Try.prog 26 #[.agg #[.int .i64 6, .int .i64 a, .int .i64 b, .int .i64 c, .int .i64 n], .agg #[.int .i64 r.a, .int .i64 r.b, .int .i64 r.c, .int .i64 r.d]] w fun e w' => e = .returned (.int .i64 (b2i (decide (r.get b < r.get c)))) ∧ Below w.heap.size w w' := by
  have x1 := rg_at r b hb
  have x2 := rg_at r c hc
  have q1 : (b : Int) < 4 := by omega
  have q2 : (c : Int) < 4 := by omega
  generalize r.get b = u at x1 ⊢
  generalize r.get c = v at x2 ⊢
  go_enter Try.func26, Try.ntmps26
  go_wp2_with fail
  go_quiet (((go_at_call 28; exact Calls.quiet_of_same (one_any _ _))))
  go_wp2_with fail
  go_ret
  exact ⟨rfl, drewN_below (Bal (Bal (Bre _) _) _) _⟩
theorem val7 (w : World) (r : Rg) (a n : Int) (b c : Nat) (hb : b < 4) (hc : c < 4) :
    Calls Try.prog 26 #[.agg #[.int .i64 7, .int .i64 a, .int .i64 b, .int .i64 c, .int .i64 n], .agg #[.int .i64 r.a, .int .i64 r.b, .int .i64 r.c, .int .i64 r.d]] w fun e w' => e = .returned (.int .i64 (b2i (r.get b == r.get c))) ∧ Below w.heap.size w w' := by
  have x1 := rg_at r b hb
  have x2 := rg_at r c hc
  have q1 : (b : Int) < 4 := by omega
  have q2 : (c : Int) < 4 := by omega
  generalize r.get b = u at x1 ⊢
  generalize r.get c = v at x2 ⊢
  go_enter Try.func26, Try.ntmps26
  go_wp2_with fail
  go_quiet (((go_at_call 28; exact Calls.quiet_of_same (one_any _ _))))
  go_wp2_with fail
  go_ret
  exact ⟨rfl, drewN_below (Bal (Bal (Bre _) _) _) _⟩
theorem val1 (w : World) (r : Rg) (a b c n : Int) :
    Calls Try.prog 26 #[.agg #[.int .i64 1, .int .i64 a, .int .i64 b, .int .i64 c, .int .i64 n], .agg #[.int .i64 r.a, .int .i64 r.b, .int .i64 r.c, .int .i64 r.d]] w fun e w' => e = .returned (.int .i64 n) ∧ Below w.heap.size w w' := by
  go_enter Try.func26, Try.ntmps26
  go_wp2_with fail
  go_ret
  exact ⟨rfl, Bal (Bal (Bre _) _) _⟩
def valF (p : Ins) (r : Rg) : Int :=
  if p.op = 1 then p.n else if p.op = 2 then wrap64 (r.get p.b + r.get p.c) else if p.op = 3 then wrap64 (r.get p.b - r.get p.c) else if p.op = 4 then wrap64 (r.get p.b * r.get p.c)
  else if p.op = 5 then bits .xor .i64 (r.get p.b) (r.get p.c) else if p.op = 6 then (b2i (decide (r.get p.b < r.get p.c))) else (b2i (r.get p.b == r.get p.c))
theorem value_any (w : World) (p : Ins) (r : Rg) (h1 : 1 ≤ p.op) (h7 : p.op ≤ 7) (hb : 2 ≤ p.op → 0 ≤ p.b ∧ p.b ≤ 3 ∧ 0 ≤ p.c ∧ p.c ≤ 3) :
    Calls Try.prog 26 #[.agg #[.int .i64 p.op, .int .i64 p.a, .int .i64 p.b, .int .i64 p.c, .int .i64 p.n], .agg #[.int .i64 r.a, .int .i64 r.b, .int .i64 r.c, .int .i64 r.d]] w fun e w' => e = .returned (.int .i64 (valF p r)) ∧ Below w.heap.size w w' := by
  obtain ⟨op, a, b, c, n⟩ := p
  simp only at h1 h7 hb ⊢
  by_cases h : op = 1
  · subst h; exact val1 w r a b c n
  obtain ⟨b0, b3, c0, c3⟩ := hb (by omega)
  obtain ⟨b, rfl⟩ := Int.eq_ofNat_of_zero_le b0
  obtain ⟨c, rfl⟩ := Int.eq_ofNat_of_zero_le c0
  have : op = 2 ∨ op = 3 ∨ op = 4 ∨ op = 5 ∨ op = 6 ∨ op = 7 := by omega
  rcases this with rfl | rfl | rfl | rfl | rfl | rfl
  · exact val2 w r a n b c (by omega) (by omega)
  · exact val3 w r a n b c (by omega) (by omega)
  · exact val4 w r a n b c (by omega) (by omega)
  · exact val5 w r a n b c (by omega) (by omega)
  · exact val6 w r a n b c (by omega) (by omega)
  · exact val7 w r a n b c (by omega) (by omega)
end Go.Proofs.Ytipkaloldlplgaa
