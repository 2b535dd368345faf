/-
  Two tallies that are the same are equal.
-/
import Derived.Test.YtpgalfenbhobnaaProg
import Derived.Test.YtpgalfenbhobnaaReg
import Derived.Laws.StructEq
import Derived.ChangeKeysEq
namespace Go.Proofs.Ytpgalfenbhobnaa
theorem info3 : (Try.prog.info? 3).map (fun i => (i.zero, i.size, i.bytes)) = some (some (.int .i64 0), 1, 8) := by kernel_rfl
theorem cells3 : Try.prog.cellsOf 3 = 1 := by kernel_rfl
theorem arr_eq (b c d e f g h : Int) (k : Nat) (w : World) : (Op.equalIn (k + 2) 27 (.agg #[.int .i64 b, .int .i64 c, .int .i64 d, .int .i64 e, .int .i64 f, .int .i64 g, .int .i64 h]) (.agg #[.int .i64 b, .int .i64 c, .int .i64 d, .int .i64 e, .int .i64 f, .int .i64 g, .int .i64 h])).run Try.prog w = .ok true w := by
  obtain ⟨i0, hi, _, _, _⟩ := info_parts info3
  rw [run_equalIn_array w (k + 1) _ _ Try.underlying27 hi, cells3]
  simp [Op.eqItems, List.range_succ, go_sem]
theorem tally_eq (a b c d e f g h i j : Int) (w : World) : (binOp .eql 29 (.agg #[.int .i64 a, .int .i64 b, .int .i64 c, .int .i64 d, .int .i64 e, .int .i64 f, .int .i64 g, .int .i64 h, .int .i64 i, .int .i64 j])
   (.agg #[.int .i64 a, .int .i64 b, .int .i64 c, .int .i64 d, .int .i64 e, .int .i64 f, .int .i64 g, .int .i64 h, .int .i64 i, .int .i64 j])).run Try.prog w = .ok (.bool true) w := by
  have hs : Try.prog.underlying 29 = some (.struct (Try.prog.fieldsOf 29)) := by kernel_rfl
  have hp : Try.prog.stoodInHeld 29 = false := by kernel_rfl
  have ha := fun w => arr_eq b c d e f g h 9997 w
  rw [run_eql_struct, run_equalIn_struct w 9999 29 _ _ hs hp]
  simp only [Program.fieldsOf, Try.underlying29]
  simp [go_sem, Op.eqFields, ha]
theorem arr_eql (b c d e f g h : Int) (w : World) : (binOp .eql 27 (.agg #[.int .i64 b, .int .i64 c, .int .i64 d, .int .i64 e, .int .i64 f, .int .i64 g, .int .i64 h]) (.agg #[.int .i64 b, .int .i64 c, .int .i64 d, .int .i64 e, .int .i64 f, .int .i64 g, .int .i64 h])).run Try.prog w = .ok (.bool true) w := by
  have ha := arr_eq b c d e f g h 9998 w
  rw [run_eql_struct, ha]
  rfl
theorem eqg29 : Try.prog.eqGuardType Try.prog.depth 29 = false := by kernel_rfl
theorem eqg27 : Try.prog.eqGuardType Try.prog.depth 27 = false := by kernel_rfl
end Go.Proofs.Ytpgalfenbhobnaa
