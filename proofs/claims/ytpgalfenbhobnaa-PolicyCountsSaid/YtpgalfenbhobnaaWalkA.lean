/-
  policy.After: what an abort makes of a tally.
-/
import Derived.Test.YtpgalfenbhobnaaProg
import Derived.Test.YtpgalfenbhobnaaReg
set_option linter.unusedVariables false
namespace Go.Proofs.Ytpgalfenbhobnaa
open Go.RowKit
set_option maxHeartbeats 400000
def moreF (n : Int) : Int := if n = 9223372036854775807 then n else n + 1
theorem more_any (n : Int) (w : World) (h1 : -9223372036854775808 ≤ n) (h2 : n ≤ 9223372036854775807) :
    Calls Try.prog 14 #[.int .i64 n] w fun e w' => e = .returned (.int .i64 (moreF n)) ∧ w = w' := by
  by_cases h : n = 9223372036854775807
  · subst h
    go_enter Try.func14, Try.ntmps14
    go_wp2
    go_ret
    exact ⟨by simp [moreF], rfl⟩
  · go_enter Try.func14, Try.ntmps14
    go_wp2
    go_ret
    exact ⟨by simp [moreF, h], rfl⟩
def up (k c n : Int) : Int := if c = k then moreF n else n
def AfterPost (a b c d e f g h i j cause retry : Int) (w : World) (er : Ending) (w' : World) : Prop :=
     er = .returned (.tuple #[.agg #[.int .i64 (moreF a), .int .i64 b, .int .i64 (up 1 cause c), .int .i64 (up 2 cause d), .int .i64 (up 3 cause e), .int .i64 (up 4 cause f), .int .i64 (up 5 cause g), .int .i64 (up 6 cause h), .int .i64 i, .int .i64 j], .bool (decide (cause = 4 ∨ cause = 5 ∨ retry < moreF a))]) ∧ Below w.heap.size w w'

theorem after_any (a b c d e f g h i j cause retry : Int) (w : World) (ha : -9223372036854775808 ≤ a ∧ a ≤ 9223372036854775807) (hc : -9223372036854775808 ≤ c ∧ c ≤ 9223372036854775807)
    (hd : -9223372036854775808 ≤ d ∧ d ≤ 9223372036854775807) (he : -9223372036854775808 ≤ e ∧ e ≤ 9223372036854775807) (hf : -9223372036854775808 ≤ f ∧ f ≤ 9223372036854775807)
    (hg : -9223372036854775808 ≤ g ∧ g ≤ 9223372036854775807) (hh : -9223372036854775808 ≤ h ∧ h ≤ 9223372036854775807) :
    Calls Try.prog 9 #[.agg #[.int .i64 a, .int .i64 b, .int .i64 c, .int .i64 d, .int .i64 e, .int .i64 f, .int .i64 g, .int .i64 h, .int .i64 i, .int .i64 j], .int .i64 cause, .int .i64 retry] w 
     (AfterPost a b c d e f g h i j cause retry w) := by
  by_cases hcs : cause = 1 ∨ cause = 2 ∨ cause = 3 ∨ cause = 6
  · rcases hcs with rfl | rfl | rfl | rfl
    all_goals
      go_enter Try.func9, Try.ntmps9
      go_wp2_with (go_at_call 14; refine (more_any _ _ (by omega) (by omega)).mono ?_; rintro e w' ⟨rfl, rfl⟩)
      go_region
      go_wp2
      refine bodyPost_ret (v := .tuple #[.agg #[.int .i64 (moreF a), .int .i64 b, .int .i64 (up 1 _ c), .int .i64 (up 2 _ d), .int .i64 (up 3 _ e), .int .i64 (up 4 _ f), .int .i64 (up 5 _ g), .int .i64 (up 6 _ h), .int .i64 i, .int .i64 j], .bool (decide (_ = 4 ∨ _ = 5 ∨ retry < moreF a))]) ?_ rfl ⟨rfl, ?_⟩
      · simp [results, Try.results9, go_sem, up]
      · exact ((((Below.refl _ _).alloc (Nat.le_refl _) _).alloc (by simp) _).drew)
  by_cases hcs2 : cause = 4 ∨ cause = 5
  · rcases hcs2 with rfl | rfl
    all_goals
      go_enter Try.func9, Try.ntmps9
      go_wp2_with (go_at_call 14; refine (more_any _ _ (by omega) (by omega)).mono ?_; rintro e w' ⟨rfl, rfl⟩)
      refine bodyPost_ret (v := .tuple #[.agg #[.int .i64 (moreF a), .int .i64 b, .int .i64 (up 1 _ c), .int .i64 (up 2 _ d), .int .i64 (up 3 _ e), .int .i64 (up 4 _ f), .int .i64 (up 5 _ g), .int .i64 (up 6 _ h), .int .i64 i, .int .i64 j], .bool (decide (_ = 4 ∨ _ = 5 ∨ retry < moreF a))]) ?_ rfl ⟨rfl, ?_⟩
      · simp [results, Try.results9, go_sem, up]
      · exact ((((Below.refl _ _).alloc (Nat.le_refl _) _).alloc (by simp) _))
  have hx : ¬ (1 ≤ cause ∧ cause ≤ 6) := by omega
  have e4 : cause ≠ 4 := by omega
  have e5 : cause ≠ 5 := by omega
  have f1 : cause ≠ 1 := by omega
  have f2 : cause ≠ 2 := by omega
  have f3 : cause ≠ 3 := by omega
  have f6 : cause ≠ 6 := by omega
  by_cases h1 : cause < 1
  all_goals
      have H := Lib.hid hx
      have H4 := Lib.hid e4
      have H5 := Lib.hid e5
      have G1 := Lib.hid f1
      have G2 := Lib.hid f2
      have G3 := Lib.hid f3
      have G6 := Lib.hid f6
      clear hx f1 f2 f3 f6
      go_enter Try.func9, Try.ntmps9
      go_wp2_with (go_at_call 14; refine (more_any _ _ (by omega) (by omega)).mono ?_; rintro e w' ⟨rfl, rfl⟩)
      go_region
      go_wp2
      refine bodyPost_ret (v := .tuple #[.agg #[.int .i64 (moreF a), .int .i64 b, .int .i64 (up 1 _ c), .int .i64 (up 2 _ d), .int .i64 (up 3 _ e), .int .i64 (up 4 _ f), .int .i64 (up 5 _ g), .int .i64 (up 6 _ h), .int .i64 i, .int .i64 j], .bool (decide (_ = 4 ∨ _ = 5 ∨ retry < moreF a))]) ?_ rfl ⟨rfl, ?_⟩
      · simp [results, Try.results9, go_sem, up, H4.out, H5.out, G1.out, G2.out, G3.out, G6.out]
      · exact ((((Below.refl _ _).alloc (Nat.le_refl _) _).alloc (by simp) _).drew)

end Go.Proofs.Ytpgalfenbhobnaa
