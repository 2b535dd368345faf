/-
  policy.Ended, the reference's Ended, and the law PolicyAsks as a walk.
-/
import Derived.Test.YtpgalfenbhobnaaWalkB
import Derived.Test.YtpgalfenbhobnaaWalkC
import Derived.Test.YtpgalfenbhobnaaEq
set_option linter.unusedVariables false
namespace Go.Proofs.Ytpgalfenbhobnaa
open Go.RowKit
set_option maxHeartbeats 1000000
def sel (r : Bool) (x y : Int) : Int := if r = true then x else y
theorem ended_any (a b c d e f g h i j : Int) (r : Bool) (w : World) (hi : -9223372036854775808 ≤ i ∧ i ≤ 9223372036854775807) (hj : -9223372036854775808 ≤ j ∧ j ≤ 9223372036854775807) :
    Calls Try.prog 12 #[.agg #[.int .i64 a, .int .i64 b, .int .i64 c, .int .i64 d, .int .i64 e, .int .i64 f, .int .i64 g, .int .i64 h, .int .i64 i, .int .i64 j], .bool r] w fun er w' =>
     er = .returned (.agg #[.int .i64 0, .int .i64 b, .int .i64 c, .int .i64 d, .int .i64 e, .int .i64 f, .int .i64 g, .int .i64 h, .int .i64 (sel r i (moreF i)), .int .i64 (sel r (moreF j) j)]) ∧ Below w.heap.size w w' := by
  rcases r
  all_goals
    go_enter Try.func12, Try.ntmps12
    go_wp2_with (go_at_call 14; refine (more_any _ _ (by omega) (by omega)).mono ?_; rintro e w' ⟨rfl, rfl⟩)
  · refine bodyPost_ret (v := .agg #[.int .i64 0, .int .i64 b, .int .i64 c, .int .i64 d, .int .i64 e, .int .i64 f, .int .i64 g, .int .i64 _, .int .i64 (moreF i), .int .i64 j]) ?_ rfl ⟨rfl, ?_⟩
    · simp [results, Try.results12, go_sem]
    · exact Bal (Bal (Bre _) _) _
  · refine bodyPost_ret (v := .agg #[.int .i64 0, .int .i64 b, .int .i64 c, .int .i64 d, .int .i64 e, .int .i64 f, .int .i64 g, .int .i64 _, .int .i64 i, .int .i64 (moreF j)]) ?_ rfl ⟨rfl, ?_⟩
    · simp [results, Try.results12, go_sem]
    · exact Bal (Bal (Bre _) _) _
theorem ended2_any (a b c d e f g h i j : Int) (r : Bool) (w : World) (hi : -9223372036854775808 ≤ i ∧ i ≤ 9223372036854775807) (hj : -9223372036854775808 ≤ j ∧ j ≤ 9223372036854775807) :
    Calls Try.prog 13 #[.agg #[.int .i64 a, .int .i64 b, .int .i64 c, .int .i64 d, .int .i64 e, .int .i64 f, .int .i64 g, .int .i64 h, .int .i64 i, .int .i64 j], .bool r] w fun er w' =>
     er = .returned (.agg #[.int .i64 0, .int .i64 b, .int .i64 c, .int .i64 d, .int .i64 e, .int .i64 f, .int .i64 g, .int .i64 h, .int .i64 (sel r i (moreF i)), .int .i64 (sel r (moreF j) j)]) ∧ Below w.heap.size w w' := by
  rcases r
  all_goals
    go_enter Try.func13, Try.ntmps13
    go_wp2_with (go_at_call 15; refine (more2_any _ _ (by omega) (by omega)).mono ?_; rintro e w' ⟨rfl, rfl⟩)
  · refine bodyPost_ret (v := .agg #[.int .i64 0, .int .i64 b, .int .i64 c, .int .i64 d, .int .i64 e, .int .i64 f, .int .i64 g, .int .i64 _, .int .i64 (moreF i), .int .i64 j]) ?_ rfl ⟨rfl, ?_⟩
    · simp [results, Try.results13, go_sem]
    · exact Bal (Bal (Bre _) _) _
  · refine bodyPost_ret (v := .agg #[.int .i64 0, .int .i64 b, .int .i64 c, .int .i64 d, .int .i64 e, .int .i64 f, .int .i64 g, .int .i64 _, .int .i64 i, .int .i64 (moreF j)]) ?_ rfl ⟨rfl, ?_⟩
    · simp [results, Try.results13, go_sem]
    · exact Bal (Bal (Bre _) _) _
theorem asks_far (a b c d e f g h i j cause retry draw : Int) (real : Bool) (w : World) (ha : -9223372036854775808 ≤ a ∧ a ≤ 9223372036854775807) (hc : -9223372036854775808 ≤ c ∧ c ≤ 9223372036854775807)
    (hd : -9223372036854775808 ≤ d ∧ d ≤ 9223372036854775807) (he : -9223372036854775808 ≤ e ∧ e ≤ 9223372036854775807) (hf : -9223372036854775808 ≤ f ∧ f ≤ 9223372036854775807)
    (hg : -9223372036854775808 ≤ g ∧ g ≤ 9223372036854775807) (hh : -9223372036854775808 ≤ h ∧ h ≤ 9223372036854775807) (hi : -9223372036854775808 ≤ i ∧ i ≤ 9223372036854775807) (hj : -9223372036854775808 ≤ j ∧ j ≤ 9223372036854775807)
    (hdr : -9223372036854775808 ≤ draw ∧ draw ≤ 9223372036854775807) :
    Calls Try.prog 4 #[.agg #[.int .i64 a, .int .i64 b, .int .i64 c, .int .i64 d, .int .i64 e, .int .i64 f, .int .i64 g, .int .i64 h, .int .i64 i, .int .i64 j], .int .i64 cause, .bool false, .int .i64 retry, .int .i64 draw, .bool real] w fun e w' => e = .returned (.bool true) ∧ Below w.heap.size w w' := by
  obtain ⟨q, hq0, hq1, hqq, _⟩ := umod retry 6 (by omega) (by omega)
  go_enter Try.func4, Try.ntmps4
  go_wp2_with fail
  refine (after_any _ _ _ _ _ _ _ _ _ _ _ _ _ (by omega) (by omega) (by omega) (by omega) (by omega) (by omega) (by omega)).mono ?_
  rintro er w1 ⟨rfl, hb1⟩
  obtain ⟨hc1, hf1⟩ := bcell hb1
  have hz1 : w.heap.size < w1.heap.size := by have := hb1.size; simp at this; omega
  go_wp2_with fail
  refine (after2_any _ _ _ _ _ _ _ _ _ _ _ _ _ (by omega) (by omega) (by omega) (by omega) (by omega) (by omega) (by omega)).mono ?_
  rintro er w2 ⟨rfl, hb2⟩
  obtain ⟨hc2, hf2⟩ := bcell hb2
  have hz2 : w1.heap.size < w2.heap.size := by have := hb2.size; simp at this; omega
  have hz3 : w.heap.size < w2.heap.size := by omega
  have hz4 : w.heap.size ≤ w2.heap.size := by omega
  have hz5 : w1.heap.size ≤ w2.heap.size := by omega
  go_wp2_with fail
  have hm := eqg29
  have he1 := fun w => tally_eq (moreF a) b (up 1 cause c) (up 2 cause d) (up 3 cause e) (up 4 cause f) (up 5 cause g) (up 6 cause h) i j w
  have he2 := fun w => tally_eq 0 b c d e f g h (sel real i (moreF i)) (sel real (moreF j) j) w
  refine wp_region_aft_lit (by kernel_rfl) (by kernel_rfl) ?_
  repeat (go_big_quiet_step (first
    | (go_at_call 8; exact Calls.aft_of _ (told_any _))
    | (go_at_call 7; exact Calls.aft_same _ (delay_any _ _ _ (by omega) (by omega) (by omega) (by omega)))
    | (go_at_call 11; exact Calls.aft_same _ (ref_delay _ _ _ (by omega) (by omega) (by omega) (by omega)))
    | (go_at_call 12; exact Calls.aft_of _ (ended_any _ _ _ _ _ _ _ _ _ _ _ _ (by omega) (by omega)))
    | (go_at_call 13; exact Calls.aft_of _ (ended2_any _ _ _ _ _ _ _ _ _ _ _ _ (by omega) (by omega)))))
  refine wpQuiet_nil ?_
  rintro _ ⟨z, rfl⟩
  go_wp2_with fail
  go_ret
  exact ⟨rfl, Bth (Bal (Bth (Bal (Bth (Bal (Bre _) _) hb1) _) hb2) _) z.h⟩
theorem asks_near (a b c d e f g h i j cause retry draw : Int) (real : Bool) (w : World) (ha : -9223372036854775808 ≤ a ∧ a ≤ 9223372036854775807) (hc : -9223372036854775808 ≤ c ∧ c ≤ 9223372036854775807)
    (hd : -9223372036854775808 ≤ d ∧ d ≤ 9223372036854775807) (he : -9223372036854775808 ≤ e ∧ e ≤ 9223372036854775807) (hf : -9223372036854775808 ≤ f ∧ f ≤ 9223372036854775807)
    (hg : -9223372036854775808 ≤ g ∧ g ≤ 9223372036854775807) (hh : -9223372036854775808 ≤ h ∧ h ≤ 9223372036854775807) (hi : -9223372036854775808 ≤ i ∧ i ≤ 9223372036854775807) (hj : -9223372036854775808 ≤ j ∧ j ≤ 9223372036854775807)
    (hdr : -9223372036854775808 ≤ draw ∧ draw ≤ 9223372036854775807) :
    Calls Try.prog 4 #[.agg #[.int .i64 a, .int .i64 b, .int .i64 c, .int .i64 d, .int .i64 e, .int .i64 f, .int .i64 g, .int .i64 h, .int .i64 i, .int .i64 j], .int .i64 cause, .bool true, .int .i64 retry, .int .i64 draw, .bool real] w fun e w' => e = .returned (.bool true) ∧ Below w.heap.size w w' := by
  obtain ⟨q, hq0, hq1, hqq, _⟩ := umod retry 6 (by omega) (by omega)
  obtain ⟨k, hk0, hk1, hkk, _⟩ := umod cause 9 (by omega) (by omega)
  go_enter Try.func4, Try.ntmps4
  go_wp2_with fail
  refine (after_any _ _ _ _ _ _ _ _ _ _ _ _ _ (by omega) (by omega) (by omega) (by omega) (by omega) (by omega) (by omega)).mono ?_
  rintro er w1 ⟨rfl, hb1⟩
  obtain ⟨hc1, hf1⟩ := bcell hb1
  have hz1 : w.heap.size < w1.heap.size := by have := hb1.size; simp at this; omega
  go_wp2_with fail
  refine (after2_any _ _ _ _ _ _ _ _ _ _ _ _ _ (by omega) (by omega) (by omega) (by omega) (by omega) (by omega) (by omega)).mono ?_
  rintro er w2 ⟨rfl, hb2⟩
  obtain ⟨hc2, hf2⟩ := bcell hb2
  have hz2 : w1.heap.size < w2.heap.size := by have := hb2.size; simp at this; omega
  have hz3 : w.heap.size < w2.heap.size := by omega
  have hz4 : w.heap.size ≤ w2.heap.size := by omega
  have hz5 : w1.heap.size ≤ w2.heap.size := by omega
  go_wp2_with fail
  have hm := eqg29
  have he1 := fun w => tally_eq (moreF a) b (up 1 (k - 1) c) (up 2 (k - 1) d) (up 3 (k - 1) e) (up 4 (k - 1) f) (up 5 (k - 1) g) (up 6 (k - 1) h) i j w
  have he2 := fun w => tally_eq 0 b c d e f g h (sel real i (moreF i)) (sel real (moreF j) j) w
  refine wp_region_aft_lit (by kernel_rfl) (by kernel_rfl) ?_
  repeat (go_big_quiet_step (first
    | (go_at_call 8; exact Calls.aft_of _ (told_any _))
    | (go_at_call 7; exact Calls.aft_same _ (delay_any _ _ _ (by omega) (by omega) (by omega) (by omega)))
    | (go_at_call 11; exact Calls.aft_same _ (ref_delay _ _ _ (by omega) (by omega) (by omega) (by omega)))
    | (go_at_call 12; exact Calls.aft_of _ (ended_any _ _ _ _ _ _ _ _ _ _ _ _ (by omega) (by omega)))
    | (go_at_call 13; exact Calls.aft_of _ (ended2_any _ _ _ _ _ _ _ _ _ _ _ _ (by omega) (by omega)))))
  refine wpQuiet_nil ?_
  rintro _ ⟨z, rfl⟩
  go_wp2_with fail
  go_ret
  exact ⟨rfl, Bth (Bal (Bth (Bal (Bth (Bal (Bre _) _) hb1) _) hb2) _) z.h⟩
theorem asks_any (a b c d e f g h i j cause retry draw : Int) (near real : Bool) (w : World) (ha : -9223372036854775808 ≤ a ∧ a ≤ 9223372036854775807) (hc : -9223372036854775808 ≤ c ∧ c ≤ 9223372036854775807)
    (hd : -9223372036854775808 ≤ d ∧ d ≤ 9223372036854775807) (he : -9223372036854775808 ≤ e ∧ e ≤ 9223372036854775807) (hf : -9223372036854775808 ≤ f ∧ f ≤ 9223372036854775807)
    (hg : -9223372036854775808 ≤ g ∧ g ≤ 9223372036854775807) (hh : -9223372036854775808 ≤ h ∧ h ≤ 9223372036854775807) (hi : -9223372036854775808 ≤ i ∧ i ≤ 9223372036854775807) (hj : -9223372036854775808 ≤ j ∧ j ≤ 9223372036854775807)
    (hdr : -9223372036854775808 ≤ draw ∧ draw ≤ 9223372036854775807) :
    Calls Try.prog 4 #[.agg #[.int .i64 a, .int .i64 b, .int .i64 c, .int .i64 d, .int .i64 e, .int .i64 f, .int .i64 g, .int .i64 h, .int .i64 i, .int .i64 j], .int .i64 cause, .bool near, .int .i64 retry, .int .i64 draw, .bool real] w fun e w' => e = .returned (.bool true) ∧ Below w.heap.size w w' := by
  cases near
  · exact asks_far a b c d e f g h i j cause retry draw real w ha hc hd he hf hg hh hi hj hdr
  · exact asks_near a b c d e f g h i j cause retry draw real w ha hc hd he hf hg hh hi hj hdr
end Go.Proofs.Ytpgalfenbhobnaa
