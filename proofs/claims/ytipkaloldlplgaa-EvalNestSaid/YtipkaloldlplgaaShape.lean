/-
  What an instruction's fields are, and whether it may be: the program's functions and the reference's.
-/
import Derived.Test.YtipkaloldlplgaaProg
import Derived.Test.YtipkaloldlplgaaReg
set_option linter.unusedVariables false
namespace Go.Proofs.Ytipkaloldlplgaa
open Go.RowKit
def shA (op : Int) : Int := if op = 1 then 1 else if 2 ≤ op ∧ op ≤ 7 then 1 else if 8 ≤ op ∧ op ≤ 9 then 1 else if op = 12 ∨ op = 18 ∨ op = 21 then 1 else if op = 13 then 2 else if 15 ≤ op ∧ op ≤ 17 then 3 else 0
def shB (op : Int) : Int := if 2 ≤ op ∧ op ≤ 11 then 1 else if op = 13 then 4 else 0
def shC (op : Int) : Int := if 2 ≤ op ∧ op ≤ 7 then 1 else 0
def shN (op : Int) : Bool := decide (op = 1 ∨ 8 ≤ op ∧ op ≤ 11)
theorem op_cases (op : Int) : op = 1 ∨ op = 2 ∨ op = 3 ∨ op = 4 ∨ op = 5 ∨ op = 6 ∨ op = 7 ∨ op = 8 ∨ op = 9 ∨ op = 10 ∨ op = 11 ∨ op = 12 ∨ op = 13 ∨ op = 15 ∨ op = 16 ∨ op = 17 ∨ op = 18 ∨ op = 21 ∨ (op < 1 ∨ op = 14 ∨ op = 19 ∨ op = 20 ∨ 21 < op) := by omega
theorem sh_rest {op : Int} (h : op < 1 ∨ op = 14 ∨ op = 19 ∨ op = 20 ∨ 21 < op) : shA op = 0 ∧ shB op = 0 ∧ shC op = 0 ∧ shN op = false := by
  refine ⟨?_, ?_, ?_, ?_⟩
  · unfold shA; repeat (rw [if_neg (by omega)])
  · unfold shB; repeat (rw [if_neg (by omega)])
  · unfold shC; repeat (rw [if_neg (by omega)])
  · unfold shN; exact decide_eq_false (by omega)
theorem bne_of {a b : Int} (h : a ≠ b) : (a == b) = false := by simpa using h
theorem shape_any (op : Int) (w : World) : Calls Try.prog 22 #[.int .i64 op] w fun e w' => e = .returned (.tuple #[.int .i64 (shA op), .int .i64 (shB op), .int .i64 (shC op), .int .i64 (if shN op then 5 else 0)]) ∧ w = w' := by
  rcases op_cases op with rfl | rfl | rfl | rfl | rfl | rfl | rfl | rfl | rfl | rfl | rfl | rfl | rfl | rfl | rfl | rfl | rfl | rfl | h
  case inr.inr.inr.inr.inr.inr.inr.inr.inr.inr.inr.inr.inr.inr.inr.inr.inr.inr =>
    obtain ⟨e1, e2, e3, e4⟩ := sh_rest h
    rw [e1, e2, e3, e4]
    have t1 := bne_of (show op ≠ 1 by omega)
    have t2 := bne_of (show op ≠ 2 by omega)
    have t3 := bne_of (show op ≠ 3 by omega)
    have t4 := bne_of (show op ≠ 4 by omega)
    have t5 := bne_of (show op ≠ 5 by omega)
    have t6 := bne_of (show op ≠ 6 by omega)
    have t7 := bne_of (show op ≠ 7 by omega)
    have t8 := bne_of (show op ≠ 8 by omega)
    have t9 := bne_of (show op ≠ 9 by omega)
    have t10 := bne_of (show op ≠ 10 by omega)
    have t11 := bne_of (show op ≠ 11 by omega)
    have t12 := bne_of (show op ≠ 12 by omega)
    have t13 := bne_of (show op ≠ 13 by omega)
    have t15 := bne_of (show op ≠ 15 by omega)
    have t16 := bne_of (show op ≠ 16 by omega)
    have t17 := bne_of (show op ≠ 17 by omega)
    have t18 := bne_of (show op ≠ 18 by omega)
    have t21 := bne_of (show op ≠ 21 by omega)
    clear e1 e2 e3 e4 h
    go_enter Try.func22, Try.ntmps22
    go_wp2_with fail
    exact bodyPost_ret (v := .tuple #[.int .i64 0, .int .i64 0, .int .i64 0, .int .i64 0]) (by simp [results, Try.results22, go_sem]) rfl ⟨rfl, rfl⟩
  all_goals
    go_enter Try.func22, Try.ntmps22
    go_wp2_with fail
    exact bodyPost_ret (v := .tuple #[.int .i64 _, .int .i64 _, .int .i64 _, .int .i64 _]) (by simp [results, Try.results22, go_sem]; (try decide)) rfl ⟨rfl, rfl⟩
theorem fields_any (op : Int) (w : World) : Calls Try.prog 24 #[.int .i64 op] w fun e w' => e = .returned (.tuple #[.int .i64 (shA op), .int .i64 (shB op), .int .i64 (shC op), .bool (shN op)]) ∧ w = w' := by
  rcases op_cases op with rfl | rfl | rfl | rfl | rfl | rfl | rfl | rfl | rfl | rfl | rfl | rfl | rfl | rfl | rfl | rfl | rfl | rfl | h
  case inr.inr.inr.inr.inr.inr.inr.inr.inr.inr.inr.inr.inr.inr.inr.inr.inr.inr =>
    obtain ⟨e1, e2, e3, e4⟩ := sh_rest h
    rw [e1, e2, e3, e4]
    have t1 := bne_of (show op ≠ 1 by omega)
    have t2 := bne_of (show op ≠ 2 by omega)
    have t3 := bne_of (show op ≠ 3 by omega)
    have t4 := bne_of (show op ≠ 4 by omega)
    have t5 := bne_of (show op ≠ 5 by omega)
    have t6 := bne_of (show op ≠ 6 by omega)
    have t7 := bne_of (show op ≠ 7 by omega)
    have t8 := bne_of (show op ≠ 8 by omega)
    have t9 := bne_of (show op ≠ 9 by omega)
    have t10 := bne_of (show op ≠ 10 by omega)
    have t11 := bne_of (show op ≠ 11 by omega)
    have t12 := bne_of (show op ≠ 12 by omega)
    have t13 := bne_of (show op ≠ 13 by omega)
    have t15 := bne_of (show op ≠ 15 by omega)
    have t16 := bne_of (show op ≠ 16 by omega)
    have t17 := bne_of (show op ≠ 17 by omega)
    have t18 := bne_of (show op ≠ 18 by omega)
    have t21 := bne_of (show op ≠ 21 by omega)
    clear e1 e2 e3 e4 h
    go_enter Try.func24, Try.ntmps24
    go_wp2_with fail
    exact bodyPost_ret (v := .tuple #[.int .i64 0, .int .i64 0, .int .i64 0, .bool false]) (by simp [results, Try.results24, go_sem]) rfl ⟨rfl, rfl⟩
  all_goals
    go_enter Try.func24, Try.ntmps24
    go_wp2_with fail
    exact bodyPost_ret (v := .tuple #[.int .i64 _, .int .i64 _, .int .i64 _, .bool _]) (by simp [results, Try.results24, go_sem]; (try decide)) rfl ⟨rfl, rfl⟩
end Go.Proofs.Ytipkaloldlplgaa
