/-
  The law EvalMay as a walk.
-/
import Derived.Test.YtipkaloldlplgaaInstr
set_option linter.unusedVariables false
namespace Go.Proofs.Ytipkaloldlplgaa
open Go.RowKit
set_option maxRecDepth 100000 in
set_option maxHeartbeats 1600000 in
theorem law_may0 (k0 k1 k2 k3 n one x : Int) (raw : Bool) (w : World) (d0 : (IntKind.u64.wrap one).tmod 6 = 0) :
    Calls Try.prog 3 #[.agg #[.int .i64 k0, .int .i64 k1, .int .i64 k2, .int .i64 k3], .int .i64 n, .bool raw, .int .i64 one, .int .i64 x] w fun e w' => e = .returned (.bool true) ∧ Below w.heap.size w w' := by
  go_enter Try.func3, Try.ntmps3
  go_wp2_with fail
  refine (instr_any _ _ _ _ _ _ _).mono ?_
  rintro e w1 ⟨⟨op, a, b, c, m⟩, rfl, hb1⟩
  have hbw : Below w.heap.size w w1 := Bth (Bal (Bre _) _) hb1
  have hbw1 : w.heap.size ≤ w1.heap.size := hbw.size
  dsimp only
  go_wp2_with fail
  refine wp_region_aft_lit (by kernel_rfl) (by kernel_rfl) ?_
  repeat (go_big_quiet_step (first
    | (go_at_call 10; exact Calls.aft_of _ (told_any _))
    | (go_at_call 11; exact Calls.aft_of _ (may5 _ _ _ _ _ _))
    | (go_at_call 12; exact Calls.aft_of _ (rmay5 _ _ _ _ _ _))
    | (go_at_call 13; exact Calls.aft_same _ (local_any _ _))
    | (go_at_call 14; exact Calls.aft_same _ (rlocal_any _ _))))
  refine wpQuiet_nil ?_
  rintro _ ⟨z, rfl⟩
  go_wp2_with fail
  go_ret
  exact ⟨rfl, Bth (Bal hbw _) z.h⟩
set_option maxRecDepth 100000 in
set_option maxHeartbeats 1600000 in
theorem law_may1 (k0 k1 k2 k3 n one x : Int) (raw : Bool) (w : World) (d0 : (IntKind.u64.wrap one).tmod 6 = 1) :
    Calls Try.prog 3 #[.agg #[.int .i64 k0, .int .i64 k1, .int .i64 k2, .int .i64 k3], .int .i64 n, .bool raw, .int .i64 one, .int .i64 x] w fun e w' => e = .returned (.bool true) ∧ Below w.heap.size w w' := by
  go_enter Try.func3, Try.ntmps3
  go_wp2_with fail
  refine (instr_any _ _ _ _ _ _ _).mono ?_
  rintro e w1 ⟨⟨op, a, b, c, m⟩, rfl, hb1⟩
  have hbw : Below w.heap.size w w1 := Bth (Bal (Bre _) _) hb1
  have hbw1 : w.heap.size ≤ w1.heap.size := hbw.size
  dsimp only
  go_wp2_with fail
  refine wp_region_aft_lit (by kernel_rfl) (by kernel_rfl) ?_
  repeat (go_big_quiet_step (first
    | (go_at_call 10; exact Calls.aft_of _ (told_any _))
    | (go_at_call 11; exact Calls.aft_of _ (may5 _ _ _ _ _ _))
    | (go_at_call 12; exact Calls.aft_of _ (rmay5 _ _ _ _ _ _))
    | (go_at_call 13; exact Calls.aft_same _ (local_any _ _))
    | (go_at_call 14; exact Calls.aft_same _ (rlocal_any _ _))))
  refine wpQuiet_nil ?_
  rintro _ ⟨z, rfl⟩
  go_wp2_with fail
  go_ret
  exact ⟨rfl, Bth (Bal hbw _) z.h⟩
set_option maxRecDepth 100000 in
set_option maxHeartbeats 1600000 in
theorem law_may2 (k0 k1 k2 k3 n one x : Int) (raw : Bool) (w : World) (d0 : (IntKind.u64.wrap one).tmod 6 = 2) :
    Calls Try.prog 3 #[.agg #[.int .i64 k0, .int .i64 k1, .int .i64 k2, .int .i64 k3], .int .i64 n, .bool raw, .int .i64 one, .int .i64 x] w fun e w' => e = .returned (.bool true) ∧ Below w.heap.size w w' := by
  go_enter Try.func3, Try.ntmps3
  go_wp2_with fail
  refine (instr_any _ _ _ _ _ _ _).mono ?_
  rintro e w1 ⟨⟨op, a, b, c, m⟩, rfl, hb1⟩
  have hbw : Below w.heap.size w w1 := Bth (Bal (Bre _) _) hb1
  have hbw1 : w.heap.size ≤ w1.heap.size := hbw.size
  dsimp only
  go_wp2_with fail
  refine wp_region_aft_lit (by kernel_rfl) (by kernel_rfl) ?_
  repeat (go_big_quiet_step (first
    | (go_at_call 10; exact Calls.aft_of _ (told_any _))
    | (go_at_call 11; exact Calls.aft_of _ (may5 _ _ _ _ _ _))
    | (go_at_call 12; exact Calls.aft_of _ (rmay5 _ _ _ _ _ _))
    | (go_at_call 13; exact Calls.aft_same _ (local_any _ _))
    | (go_at_call 14; exact Calls.aft_same _ (rlocal_any _ _))))
  refine wpQuiet_nil ?_
  rintro _ ⟨z, rfl⟩
  go_wp2_with fail
  go_ret
  exact ⟨rfl, Bth (Bal hbw _) z.h⟩
set_option maxRecDepth 100000 in
set_option maxHeartbeats 1600000 in
theorem law_may3 (k0 k1 k2 k3 n one x : Int) (raw : Bool) (w : World) (d0 : (IntKind.u64.wrap one).tmod 6 = 3) :
    Calls Try.prog 3 #[.agg #[.int .i64 k0, .int .i64 k1, .int .i64 k2, .int .i64 k3], .int .i64 n, .bool raw, .int .i64 one, .int .i64 x] w fun e w' => e = .returned (.bool true) ∧ Below w.heap.size w w' := by
  go_enter Try.func3, Try.ntmps3
  go_wp2_with fail
  refine (instr_any _ _ _ _ _ _ _).mono ?_
  rintro e w1 ⟨⟨op, a, b, c, m⟩, rfl, hb1⟩
  have hbw : Below w.heap.size w w1 := Bth (Bal (Bre _) _) hb1
  have hbw1 : w.heap.size ≤ w1.heap.size := hbw.size
  dsimp only
  go_wp2_with fail
  refine wp_region_aft_lit (by kernel_rfl) (by kernel_rfl) ?_
  repeat (go_big_quiet_step (first
    | (go_at_call 10; exact Calls.aft_of _ (told_any _))
    | (go_at_call 11; exact Calls.aft_of _ (may5 _ _ _ _ _ _))
    | (go_at_call 12; exact Calls.aft_of _ (rmay5 _ _ _ _ _ _))
    | (go_at_call 13; exact Calls.aft_same _ (local_any _ _))
    | (go_at_call 14; exact Calls.aft_same _ (rlocal_any _ _))))
  refine wpQuiet_nil ?_
  rintro _ ⟨z, rfl⟩
  go_wp2_with fail
  go_ret
  exact ⟨rfl, Bth (Bal hbw _) z.h⟩
set_option maxRecDepth 100000 in
set_option maxHeartbeats 1600000 in
theorem law_may4 (k0 k1 k2 k3 n one x : Int) (raw : Bool) (w : World) (d0 : (IntKind.u64.wrap one).tmod 6 = 4) :
    Calls Try.prog 3 #[.agg #[.int .i64 k0, .int .i64 k1, .int .i64 k2, .int .i64 k3], .int .i64 n, .bool raw, .int .i64 one, .int .i64 x] w fun e w' => e = .returned (.bool true) ∧ Below w.heap.size w w' := by
  go_enter Try.func3, Try.ntmps3
  go_wp2_with fail
  refine (instr_any _ _ _ _ _ _ _).mono ?_
  rintro e w1 ⟨⟨op, a, b, c, m⟩, rfl, hb1⟩
  have hbw : Below w.heap.size w w1 := Bth (Bal (Bre _) _) hb1
  have hbw1 : w.heap.size ≤ w1.heap.size := hbw.size
  dsimp only
  go_wp2_with fail
  refine wp_region_aft_lit (by kernel_rfl) (by kernel_rfl) ?_
  repeat (go_big_quiet_step (first
    | (go_at_call 10; exact Calls.aft_of _ (told_any _))
    | (go_at_call 11; exact Calls.aft_of _ (may5 _ _ _ _ _ _))
    | (go_at_call 12; exact Calls.aft_of _ (rmay5 _ _ _ _ _ _))
    | (go_at_call 13; exact Calls.aft_same _ (local_any _ _))
    | (go_at_call 14; exact Calls.aft_same _ (rlocal_any _ _))))
  refine wpQuiet_nil ?_
  rintro _ ⟨z, rfl⟩
  go_wp2_with fail
  go_ret
  exact ⟨rfl, Bth (Bal hbw _) z.h⟩
set_option maxRecDepth 100000 in
set_option maxHeartbeats 1600000 in
theorem law_may5 (k0 k1 k2 k3 n one x : Int) (raw : Bool) (w : World) (d0 : (IntKind.u64.wrap one).tmod 6 = 5) :
    Calls Try.prog 3 #[.agg #[.int .i64 k0, .int .i64 k1, .int .i64 k2, .int .i64 k3], .int .i64 n, .bool raw, .int .i64 one, .int .i64 x] w fun e w' => e = .returned (.bool true) ∧ Below w.heap.size w w' := by
  go_enter Try.func3, Try.ntmps3
  go_wp2_with fail
  refine (instr_any _ _ _ _ _ _ _).mono ?_
  rintro e w1 ⟨⟨op, a, b, c, m⟩, rfl, hb1⟩
  have hbw : Below w.heap.size w w1 := Bth (Bal (Bre _) _) hb1
  have hbw1 : w.heap.size ≤ w1.heap.size := hbw.size
  dsimp only
  go_wp2_with fail
  refine wp_region_aft_lit (by kernel_rfl) (by kernel_rfl) ?_
  repeat (go_big_quiet_step (first
    | (go_at_call 10; exact Calls.aft_of _ (told_any _))
    | (go_at_call 11; exact Calls.aft_of _ (may5 _ _ _ _ _ _))
    | (go_at_call 12; exact Calls.aft_of _ (rmay5 _ _ _ _ _ _))
    | (go_at_call 13; exact Calls.aft_same _ (local_any _ _))
    | (go_at_call 14; exact Calls.aft_same _ (rlocal_any _ _))))
  refine wpQuiet_nil ?_
  rintro _ ⟨z, rfl⟩
  go_wp2_with fail
  go_ret
  exact ⟨rfl, Bth (Bal hbw _) z.h⟩
theorem law_may (k0 k1 k2 k3 n one x : Int) (raw : Bool) (w : World) :
    Calls Try.prog 3 #[.agg #[.int .i64 k0, .int .i64 k1, .int .i64 k2, .int .i64 k3], .int .i64 n, .bool raw, .int .i64 one, .int .i64 x] w fun e w' => e = .returned (.bool true) ∧ Below w.heap.size w w' := by
  obtain ⟨q, q0, q6, _, d0⟩ := umod one 6 (by omega) (by omega)
  have : q = 0 ∨ q = 1 ∨ q = 2 ∨ q = 3 ∨ q = 4 ∨ q = 5 := by omega
  rcases this with rfl | rfl | rfl | rfl | rfl | rfl
  · exact law_may0 k0 k1 k2 k3 n one x raw w d0
  · exact law_may1 k0 k1 k2 k3 n one x raw w d0
  · exact law_may2 k0 k1 k2 k3 n one x raw w d0
  · exact law_may3 k0 k1 k2 k3 n one x raw w d0
  · exact law_may4 k0 k1 k2 k3 n one x raw w d0
  · exact law_may5 k0 k1 k2 k3 n one x raw w d0
end Go.Proofs.Ytipkaloldlplgaa
