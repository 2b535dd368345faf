/-
  The law EvalMates as a walk.
-/
import Derived.Test.YtipkaloldlplgaaBlk
import Derived.Test.YtipkaloldlplgaaSim
set_option linter.unusedVariables false
namespace Go.Proofs.Ytipkaloldlplgaa
open Go.RowKit
theorem MV.form {w : World} {base : Nat} {v : Value} {o : Option (List Int)} (h : MV w base v o) : ∃ m : List Int, IntsAt w v m ∧ m = o.getD [] ∧ m.length ≤ 9223372036854775807 := by
  cases o with
  | none => exact ⟨[], by rw [show v = .slice none 0 0 from h]; exact ⟨none, 0, rfl, fun i x hi => by simp at hi⟩, rfl, by simp⟩
  | some m =>
    refine ⟨m, IntsAt.own h, rfl, ?_⟩
    rcases h.2 with ⟨_, h0⟩ | ⟨g, cap, cur, _, _, _, h1, h2, _⟩
    · omega
    · unfold maxLen at h2; omega
set_option maxHeartbeats 1600000 in
theorem law_mates (A : Option Addr) (n cap : Nat) (zs : List Int) (w : World) (hl : zs.length = n) (hc : ∀ k, k < n → ∃ b off, A = some ⟨b, off, none⟩ ∧ b < w.heap.size ∧ w.cell? ⟨b, off + k, none⟩ = some (.int .i64 (zs.getD k 0))) :
    Calls Try.prog 4 #[.slice A n cap] w fun e w' => e = .returned (.bool true) ∧ Below w.heap.size w w' := by
  by_cases hn : n ≤ 30
  case neg =>
    have hn' : 30 < n := by omega
    clear hc hl
    go_enter Try.func4, Try.ntmps4
    go_wp2_with (go_at_call 10; refine (told_any _).mono ?_; rintro e w1 ⟨rfl, hb⟩)
    go_ret
    exact ⟨rfl, hb⟩
  have HB := Lib.hid (blocks_any A n cap zs w hn hl hc)
  clear hc hl
  go_enter Try.func4, Try.ntmps4
  go_wp2_with fail
  refine HB.out.mono ?_
  rintro e w1 ⟨l, u, rfl, hll, hu, hb1⟩
  have HLL := Lib.hid hll
  have HU := Lib.hid hu
  clear hll hu
  go_wp2_with fail
  refine (mates_any l u w1 (by rw [HLL.out]; omega) HU.out).mono ?_
  rintro e w2 ⟨v, rfl, hm, hb2⟩
  obtain ⟨m, hma, hmo, hml⟩ := hm.form
  have HM := Lib.hid hma
  clear hm hma
  go_wp2_with fail
  refine (rmates_any l u w2 (by rw [HLL.out]; omega) (HU.out.th hb2)).mono ?_
  rintro e w3 ⟨v2, rfl, hm2, hb3⟩
  rw [← res_same] at hm2 ⊢
  obtain ⟨m2, hma2, hmo2, _⟩ := hm2.form
  have hmm : m2 = m := by rw [hmo, hmo2]
  subst hmm
  have HM2 := Lib.hid hma2
  have HM3 := Lib.hid (HM.out.th hb3)
  clear hm2 hma2 hmo hmo2 HM
  generalize (mres (l.map Ins.op)).2 = x
  obtain ⟨A1, c1, rfl, h1⟩ := HM3.out
  obtain ⟨A2, c2, rfl, h2⟩ := HM2.out
  have H1 := Lib.hid h1
  have H2 := Lib.hid h2
  clear h1 h2 HM3 HM2
  go_wp2_with fail
  go_loopw [8] (fun i wr => ∃ k : Nat, k ≤ m2.length ∧ i = .int .i64 k ∧ Below w3.heap.size w3 wr) (fun i _ => m2.length - (intOf i).toNat)
  case atStart => exact ⟨0, by omega, rfl, Bre _⟩
  case round =>
    obtain ⟨k, hk, rfl, hbel⟩ := hrel
    by_cases hlt : k < m2.length
    · obtain ⟨y, hy⟩ : ∃ y, m2[k]? = some y := ⟨_, List.getElem?_eq_getElem hlt⟩
      obtain ⟨b, off, rfl, hbb, x1⟩ := H1.out k y hy
      obtain ⟨b', off', rfl, hbb', y1⟩ := H2.out k y hy
      have z1 := (hbel.cell (p := ⟨b, off + k, none⟩) hbb).trans x1
      have z2 := (hbel.cell (p := ⟨b', off' + k, none⟩) hbb').trans y1
      clear x1 y1 hy
      go_wp2_with fail
      go_quiet (fail)
      go_wp2_with fail
      exact ⟨⟨k + 1, by omega, by go_num, drewN_below hbel _⟩, by (simp [intOf]) <;> omega⟩
    · go_wp2_with (go_at_call 10; refine (told_any _).mono ?_; rintro e w5 ⟨rfl, hb5⟩)
      go_ret
      exact ⟨rfl, Bth (Bth (Bth (Bth (Bth hb1 hb2) hb3) hbel) hb5) (Bre _)⟩
end Go.Proofs.Ytipkaloldlplgaa
