/-
  The first order in which all is as it may be, or that there is none: the law.
-/
import Derived.Test.YtnjcebfbfecdeaaRFind
set_option linter.unusedVariables false
namespace Go.Proofs.Ytnjcebfbfecdeaa
open Go.RowKit Go.Maps
set_option maxRecDepth 100000 in
set_option maxHeartbeats 9600000 in
theorem law_finds (s0 s1 s2 : Int) (u : Value) (n : Nat) (ms : Nat → Nat) (right : Bool) (w : World) (hu : TrysAt w u n ms) :
    Calls Try.prog 5 #[.agg #[.int .i64 s0, .int .i64 s1, .int .i64 s2], u, .bool right] w fun e w' => e = .returned (.bool true) ∧ Below w.heap.size w w' := by
  have HU := Lib.hid hu
  obtain ⟨A, cu, hv, hcu, -⟩ := hu
  subst hv
  obtain ⟨a0, e0, l0, m0⟩ := tmod3 s0
  obtain ⟨a1, e1, l1, m1⟩ := tmod3 s1
  obtain ⟨a2, e2, l2, m2⟩ := tmod3 s2
  go_enter Try.func5, Try.ntmps5
  go_wp2_with fail
  refine (few_any _ n 5 ms _ (HU.out.th (Bal (Bre w) _)) (by decide)).mono ?_
  rintro e w1 ⟨b, rfl, hb, rfl⟩
  dsimp only
  cases b with
  | false =>
    go_wp2_with (go_at_call 9; refine (told_any _).mono ?_; rintro e w1 ⟨rfl, hb⟩)
    go_ret
    exact ⟨rfl, Bth (Bal (Bre _) _) hb⟩
  | true =>
    obtain ⟨hn, hms⟩ := hb rfl
    clear hb
    have HMS := Lib.hid hms
    clear hms
    go_wp2_with fail
    obtain ⟨W0, hW0⟩ : ∃ W0, W0 = ((w.alloc (.cells #[.int .i64 s0, .int .i64 s1, .int .i64 s2] 22)).alloc (.cells #[.int .i64 a0, .int .i64 a1, .int .i64 a2] 22)) := ⟨_, rfl⟩
    have hb0 : Below w.heap.size w W0 := by rw [hW0]; exact Bal (Bal (Bre _) _) _
    have hs0 : W0.heap.size = w.heap.size + 1 + 1 := by rw [hW0]; simp
    have y0 : W0.cell? ⟨w.heap.size + 1, 0, none⟩ = some (.int .i64 a0) := by rw [hW0]; go_simp
    have y1 : W0.cell? ⟨w.heap.size + 1, 1, none⟩ = some (.int .i64 a1) := by rw [hW0]; go_simp
    have y2 : W0.cell? ⟨w.heap.size + 1, 2, none⟩ = some (.int .i64 a2) := by rw [hW0]; go_simp
    rw [← hW0]
    clear hW0
    have HS : Hid (IntsAt W0 (.slice (some ⟨w.heap.size + 1, 0, none⟩) 3 3) [a0, a1, a2]) := ints3 (by omega) y0 y1 y2
    have HSW : Hid (∀ x ∈ [a0, a1, a2], wf64 x) := by
      show ∀ x ∈ [a0, a1, a2], wf64 x
      intro x hx
      simp at hx
      rcases hx with rfl | rfl | rfl <;> exact wf_int (by omega)
    clear e0 e1 e2 y0 y1 y2
    refine (attempts_any _ n ms a0 a1 a2 right _ (HU.out.th hb0) (by omega) HMS.out).mono ?_
    rintro e W ⟨v, rows, rfl, hO, hlen, hB, hG⟩
    dsimp only
    have HFIN : Hid (∀ p ∈ rows.map Row.p, Fine p) := hG.fine
    obtain ⟨Av, cv, hvv, hcv⟩ := own_form hO.out
    subst hvv
    rw [hlen] at hcv
    have HAT : Hid (AttsAt W (.slice Av n cv) (rows.map Row.p)) := by
      have := hO.atts
      rw [hlen] at this
      exact this
    rw [hlen]
    have HLL : Hid ((rows.map Row.p).length = n) := by show _ = _; rw [List.length_map]; exact hlen
    clear hG hO hlen HU HMS
    generalize rows.map Row.p = L at HAT HLL HFIN
    have HL5 : Hid (L.length ≤ 5) := by show _ ≤ _; rw [HLL.out]; exact hn
    have HL7 : Hid (L.length ≤ 7) := Nat.le_trans HL5.out (by decide)
    have HLB : Hid (L.length ≤ 1048576) := Nat.le_trans HL5.out (by decide)
    go_wp2_with fail
    refine (Find_any [a0, a1, a2] L _ _ _ HSW.out HFIN.out (by simp) HL7.out (HS.out.th hB) HAT.out).mono ?_
    rintro e w4 ⟨v4, rfl, p1, p2, p3, hb4⟩
    cases hF : findF [a0, a1, a2] L L.length [] with
    | none =>
      have hne : L.length ≠ 0 := fun e => by
        have h1 := List.eq_nil_of_length_eq_zero e
        rw [h1] at hF
        rw [show ([] : List Att).length = 0 from rfl, findF_zero_t (right_nil _)] at hF
        cases hF
      obtain rfl := p2 hne hF
      have HFF := Lib.hid hF
      clear p1 p2 p3 hF hne
      dsimp only [Option.isSome]
      have k4 := Bth hB hb4
      have HAT4 := Lib.hid (HAT.out.th hb4)
      clear HAT hb4 hB
      go_wp2_with fail
      refine (rfind_any [a0, a1, a2] L _ _ _ HFIN.out HL5.out (HS.out.th k4) HAT4.out).mono ?_
      rintro e w5 ⟨v5, rfl, q1, q2, hb5⟩
      rw [HFF.out]
      obtain rfl := q2 HFF.out
      clear q1 q2
      dsimp only [Option.isSome]
      have k5 := Bth k4 hb5
      clear k4 hb5 HAT4
      go_wp2_with fail
      refine (told_any _).mono ?_
      rintro e w6 ⟨rfl, hb6⟩
      dsimp only
      have k6 := Bth k5 hb6
      clear k5 hb6
      go_wp2_with fail
      refine (ints_any _ _ [] [] _ (ints0 _) (ints0 _) (by simp)).mono ?_
      rintro e w7 ⟨rfl, hb7⟩
      have hd : decide (([] : List Int) = []) = true := by simp
      rw [hd]
      dsimp only
      have k7 := Bth k6 hb7
      clear k6 hb7 hd
      go_wp2_with fail
      go_ret
      exact ⟨rfl, Bth hb0 k7⟩
    | some r =>
      have HV4 := Lib.hid (p1 r hF)
      have HFF := Lib.hid hF
      have HR := Lib.hid (find_right _ _ _ hF)
      have hrl : r.length ≤ 1048576 := by
        have h1 := HR.out.1.1.1
        have h2 := HLB.out
        omega
      clear p1 p2 p3 hF
      dsimp only [Option.isSome]
      have k4 := Bth hB hb4
      have HAT4 := Lib.hid (HAT.out.th hb4)
      clear HAT hb4 hB
      go_wp2_with fail
      refine (rfind_any [a0, a1, a2] L _ _ _ HFIN.out HL5.out (HS.out.th k4) HAT4.out).mono ?_
      rintro e w5 ⟨v5, rfl, q1, q2, hb5⟩
      have HV5 := Lib.hid (q1 r HFF.out)
      have HV45 := Lib.hid (HV4.out.th hb5)
      rw [HFF.out]
      clear q1 q2 HV4
      dsimp only [Option.isSome]
      have k5 := Bth k4 hb5
      have HAT5 := Lib.hid (HAT4.out.th hb5)
      clear k4 hb5 HAT4
      go_wp2_with fail
      refine (told_any _).mono ?_
      rintro e w6 ⟨rfl, hb6⟩
      dsimp only
      have k6 := Bth k5 hb6
      have HAT6 := Lib.hid (HAT5.out.th hb6)
      have HV6 := Lib.hid (HV45.out.th hb6)
      have HU6 := Lib.hid (HV5.out.th hb6)
      clear k5 hb6 HAT5 HV45 HV5
      go_wp2_with fail
      refine (ints_any _ _ r r _ HV6.out HU6.out hrl).mono ?_
      rintro e w7 ⟨rfl, hb7⟩
      have hd : decide (r = r) = true := by simp
      rw [hd]
      dsimp only
      have k7 := Bth k6 hb7
      have HAT7 := Lib.hid (HAT6.out.th hb7)
      have HV7 := Lib.hid (HV6.out.th hb7)
      clear k6 hb7 HAT6 HV6 HU6 hd
      go_wp2_with fail
      refine (timely_any _ _ L r _ HLB.out HAT7.out HV7.out).mono ?_
      rintro e w8 ⟨rfl, hb8⟩
      rw [timeB_t HR.out.1]
      dsimp only
      have k8 := Bth k7 hb8
      have HAT8 := Lib.hid (HAT7.out.th hb8)
      have HV8 := Lib.hid (HV7.out.th hb8)
      clear k7 hb8 HAT7 HV7
      go_wp2_with fail
      refine (Legal_any _ _ _ [a0, a1, a2] L r _ (HS.out.th k8) HAT8.out HV8.out HSW.out HFIN.out HLB.out (by simp)).mono ?_
      rintro e w9 ⟨r9, rfl, hr9, hb9⟩
      obtain rfl : r9 = -1 := hr9.unique HR.out.2
      clear hr9
      dsimp only
      have k9 := Bth k8 hb9
      clear k8 hb9 HAT8 HV8
      go_wp2_with fail
      go_ret
      exact ⟨rfl, Bth hb0 k9⟩
end Go.Proofs.Ytnjcebfbfecdeaa
