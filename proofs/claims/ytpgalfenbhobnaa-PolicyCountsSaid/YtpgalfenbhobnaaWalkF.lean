/-
  The law PolicyCounts as a walk.
-/
import Derived.Test.YtpgalfenbhobnaaWalkE
import Derived.Deep.RegionWith
set_option linter.unusedVariables false
namespace Go.Proofs.Ytpgalfenbhobnaa
open Go.RowKit
set_option maxHeartbeats 1000000
theorem uw (x : Int) : ∃ y, 0 ≤ y ∧ y ≤ 18446744073709551615 ∧ IntKind.u64.wrap x = y := by
  have h0 : IntKind.u64.wrap x = x % 18446744073709551616 := by simp [IntKind.wrap, IntKind.bits, IntKind.signed]
  exact ⟨_, by omega, by omega, h0⟩
theorem cause_eq (y q : Int) (h0 : 0 ≤ y) (h1 : y ≤ 18446744073709551615) (h : y / 3 % 6 = q) : IntKind.i64.wrap (1 + IntKind.i64.wrap ((IntKind.u64.wrap (y.tdiv 3)).tmod 6)) = 1 + q := by
  rw [Int.tdiv_eq_ediv_of_nonneg h0]
  have e1 : IntKind.u64.wrap (y / 3) = y / 3 := by simp [IntKind.wrap, IntKind.bits, IntKind.signed]; omega
  rw [e1, Int.tmod_eq_emod_of_nonneg (by omega), h]
  have hq : 0 ≤ q ∧ q < 6 := by omega
  have e2 : IntKind.i64.wrap q = q := IntWalk.i64_in _ (by omega)
  rw [e2]
  exact IntWalk.i64_in _ (by omega)
theorem ended_f (a c1 c2 c3 c4 c5 c6 s r : Int) (w : World) (hs : 0 ≤ s ∧ s ≤ 100) (hr : 0 ≤ r ∧ r ≤ 100) :
    Calls Try.prog 12 #[.agg #[.int .i64 a, .int .i64 0, .int .i64 c1, .int .i64 c2, .int .i64 c3, .int .i64 c4, .int .i64 c5, .int .i64 c6, .int .i64 s, .int .i64 r], .bool false] w fun e w' =>
      e = .returned (.agg #[.int .i64 0, .int .i64 0, .int .i64 c1, .int .i64 c2, .int .i64 c3, .int .i64 c4, .int .i64 c5, .int .i64 c6, .int .i64 (s + 1), .int .i64 r]) ∧ Below w.heap.size w w' :=
  (ended_any a 0 c1 c2 c3 c4 c5 c6 s r false w (by omega) (by omega)).mono fun e w' h => ⟨by
    have e1 : moreF s = s + 1 := by unfold moreF; rw [if_neg (by omega)]
    rw [h.1]; simp [sel, e1], h.2⟩
theorem ended_t (a c1 c2 c3 c4 c5 c6 s r : Int) (w : World) (hs : 0 ≤ s ∧ s ≤ 100) (hr : 0 ≤ r ∧ r ≤ 100) :
    Calls Try.prog 12 #[.agg #[.int .i64 a, .int .i64 0, .int .i64 c1, .int .i64 c2, .int .i64 c3, .int .i64 c4, .int .i64 c5, .int .i64 c6, .int .i64 s, .int .i64 r], .bool true] w fun e w' =>
      e = .returned (.agg #[.int .i64 0, .int .i64 0, .int .i64 c1, .int .i64 c2, .int .i64 c3, .int .i64 c4, .int .i64 c5, .int .i64 c6, .int .i64 s, .int .i64 (r + 1)]) ∧ Below w.heap.size w w' :=
  (ended_any a 0 c1 c2 c3 c4 c5 c6 s r true w (by omega) (by omega)).mono fun e w' h => ⟨by
    have e1 : moreF r = r + 1 := by unfold moreF; rw [if_neg (by omega)]
    rw [h.1]; simp [sel, e1], h.2⟩
/-- What the loop knows at its head. -/
def CntRel (w : World) (B n : Nat) (vs vr vd i : Value) (wr : World) : Prop :=
  ∃ k : Nat, k ≤ n ∧ i = .int .i64 k ∧ ∃ a c1 c2 c3 c4 c5 c6 s r d : Int, vs = .int .i64 s ∧ vr = .int .i64 r ∧ vd = .int .i64 d ∧ (0 ≤ a ∧ 0 ≤ c1 ∧ 0 ≤ c2 ∧ 0 ≤ c3 ∧ 0 ≤ c4 ∧ 0 ≤ c5 ∧ 0 ≤ c6 ∧ 0 ≤ s ∧ 0 ≤ r ∧ 0 ≤ d) ∧ a ≤ d ∧ c1 + c2 + c3 + c4 + c5 + c6 = d ∧ s + r + d = k ∧
    Blk wr B 29 (tal a c1 c2 c3 c4 c5 c6 s r) ∧ Below w.heap.size w wr ∧ w.heap.size ≤ B
theorem cnt_step {w wr wz : World} {B n k : Nat} {a c1 c2 c3 c4 c5 c6 s r : Int} (a' d1 d2 d3 d4 d5 d6 s' r' d' : Int) (hk : k < n) (hblk : Blk wr B 29 (tal a c1 c2 c3 c4 c5 c6 s r)) (hbel : Below w.heap.size w wr) (hB : w.heap.size ≤ B) (hz : Below wr.heap.size wr wz)
    (h0 : 0 ≤ a' ∧ 0 ≤ d1 ∧ 0 ≤ d2 ∧ 0 ≤ d3 ∧ 0 ≤ d4 ∧ 0 ≤ d5 ∧ 0 ≤ d6 ∧ 0 ≤ s' ∧ 0 ≤ r' ∧ 0 ≤ d') (ha : a' ≤ d') (hs : d1 + d2 + d3 + d4 + d5 + d6 = d') (ht : s' + r' + d' = (k : Int) + 1) :
    CntRel w B n (.int .i64 s') (.int .i64 r') (.int .i64 d') (.int .i64 ((k : Int) + 1)) ((((((((((wz.setCell ⟨B, 0, none⟩ (.int .i64 a')).setCell ⟨B, 1, none⟩ (.int .i64 0)).setCell ⟨B, 2, none⟩ (.int .i64 d1)).setCell ⟨B, 3, none⟩ (.int .i64 d2)).setCell ⟨B, 4, none⟩ (.int .i64 d3)).setCell ⟨B, 5, none⟩ (.int .i64 d4)).setCell ⟨B, 6, none⟩ (.int .i64 d5)).setCell ⟨B, 7, none⟩ (.int .i64 d6)).setCell ⟨B, 8, none⟩ (.int .i64 s')).setCell ⟨B, 9, none⟩ (.int .i64 r')) :=
  ⟨k + 1, hk, by simp, a', d1, d2, d3, d4, d5, d6, s', r', d', rfl, rfl, rfl, h0, ha, hs, by omega, tal_set (hblk.th hz) _ _ _ _ _ _ _ _ _, tal_bel (Bth hbel hz) hB _ _ _ _ _ _ _ _ _ _, hB⟩
set_option maxHeartbeats 6000000 in
set_option maxRecDepth 100000 in
theorem cnt_walk (A : Option Addr) (n cap : Nat) (zs : List Int) (w : World) (hn : n ≤ 60) (hc : ∀ k, k < n → ∃ b off, A = some ⟨b, off, none⟩ ∧ b < w.heap.size ∧ w.cell? ⟨b, off + k, none⟩ = some (.int .i64 (zs.getD k 0))) :
    Calls Try.prog 6 #[.slice A n cap] w fun e w' => e = .returned (.bool true) ∧ Below w.heap.size w w' := by
  have HC := Lib.hid hc
  clear hc
  go_enter Try.func6, Try.ntmps6
  go_wp2_with fail
  go_loopw [4, 5, 6, 7] (fun vs vr vd i wr => CntRel w w.heap.size n vs vr vd i wr) (fun _ _ _ i _ => n - (intOf i).toNat)
  case atStart => exact ⟨0, Nat.zero_le _, rfl, 0, 0, 0, 0, 0, 0, 0, 0, 0, 0, rfl, rfl, rfl, by omega, by omega, by omega, by omega, Blk.new _ _ _, Bal (Bre _) _, Nat.le_refl _⟩
  case round =>
    obtain ⟨k, hk, rfl, a, c1, c2, c3, c4, c5, c6, s, r, d, rfl, rfl, rfl, hc0, had, hsum, htot, hblk, hbel, _⟩ := hrel
    have HS := Lib.hid hsum
    have HT := Lib.hid htot
    have hs1 : c1 + c2 + c3 + c4 + c5 + c6 ≤ d := by omega
    have hs2 : s + r + d ≤ k := by omega
    clear hsum htot
    have HB := Lib.hid hblk
    have hlt0 := hblk.lt
    obtain ⟨⟨e0, e1, e2, e3, e4, e5, e6, e7, e8, e9⟩, f0, f1, f2, f3, f4, f5, f6, f7, f8, f9⟩ := tal_cells hblk
    clear hblk
    by_cases hlt : k < n
    · obtain ⟨b, off, rfl, hbs, hcell⟩ := HC.out k hlt
      have hx : wr.cell? ⟨b, off + k, none⟩ = some (.int .i64 (zs.getD k 0)) := (hbel.cell hbs).trans hcell
      generalize zs.getD k 0 = x at hx
      clear hcell
      obtain ⟨y, hy0, hy1, hyy⟩ := uw x
      have h3 : y % 3 = 0 ∨ y % 3 = 1 ∨ y % 3 = 2 := by omega
      rcases h3 with h3 | h3 | h3
      · go_wp2_with fail
        refine (ended_f _ _ _ _ _ _ _ _ _ _ (by omega) (by omega)).mono ?_
        rintro er w1 ⟨rfl, hb1⟩
        obtain ⟨g1, g2⟩ := bcell hb1
        have hz1 : w.heap.size < w1.heap.size := Nat.lt_of_lt_of_le hlt0 hb1.size
        go_wp2_with fail
        exact ⟨cnt_step 0 c1 c2 c3 c4 c5 c6 (s + 1) r d hlt HB.out hbel (Nat.le_refl _) hb1 (by omega) (by omega) HS.out (by have := HT.out; omega), by simp [intOf]; omega⟩
      · go_wp2_with fail
        refine (ended_t _ _ _ _ _ _ _ _ _ _ (by omega) (by omega)).mono ?_
        rintro er w1 ⟨rfl, hb1⟩
        obtain ⟨g1, g2⟩ := bcell hb1
        have hz1 : w.heap.size < w1.heap.size := Nat.lt_of_lt_of_le hlt0 hb1.size
        go_wp2_with fail
        exact ⟨cnt_step 0 c1 c2 c3 c4 c5 c6 s (r + 1) d hlt HB.out hbel (Nat.le_refl _) hb1 (by omega) (by omega) HS.out (by have := HT.out; omega), by simp [intOf]; omega⟩
      · have hq : y / 3 % 6 = 0 ∨ y / 3 % 6 = 1 ∨ y / 3 % 6 = 2 ∨ y / 3 % 6 = 3 ∨ y / 3 % 6 = 4 ∨ y / 3 % 6 = 5 := by omega
        rcases hq with hq | hq | hq | hq | hq | hq
        · go_wp2_with fail
          have hce : IntKind.i64.wrap (1 + IntKind.i64.wrap ((IntKind.u64.wrap (y.tdiv 3)).tmod 6)) = 1 := cause_eq y 0 hy0 hy1 hq
          clear hq
          go_region_with ((go_at_call 9; refine (after_s1 _ _ _ _ _ _ _ _ _ _ _ (by omega) (by omega) (by omega) (by omega) (by omega) (by omega) (by omega)).mono ?_; rintro er w1 ⟨rfl, hb1⟩; obtain ⟨⟨m0, m1, m2, m3, m4, m5, m6, m7, m8, m9⟩, n0, n1, n2, n3, n4, n5, n6, n7, n8, n9⟩ := tal_cells (HB.out.drew.th hb1)))
          all_goals
            go_wp2_with fail
            exact ⟨cnt_step (a + 1) (c1 + 1) c2 c3 c4 c5 c6 s r (d + 1) hlt HB.out hbel (Nat.le_refl _) (Bth (Bdrew (Bre wr)) hb1) (by omega) (by omega) (by have := HS.out; omega) (by have := HT.out; omega), by simp [intOf]; omega⟩
        · go_wp2_with fail
          have hce : IntKind.i64.wrap (1 + IntKind.i64.wrap ((IntKind.u64.wrap (y.tdiv 3)).tmod 6)) = 2 := cause_eq y 1 hy0 hy1 hq
          clear hq
          go_region_with ((go_at_call 9; refine (after_s2 _ _ _ _ _ _ _ _ _ _ _ (by omega) (by omega) (by omega) (by omega) (by omega) (by omega) (by omega)).mono ?_; rintro er w1 ⟨rfl, hb1⟩; obtain ⟨⟨m0, m1, m2, m3, m4, m5, m6, m7, m8, m9⟩, n0, n1, n2, n3, n4, n5, n6, n7, n8, n9⟩ := tal_cells (HB.out.drew.th hb1)))
          all_goals
            go_wp2_with fail
            exact ⟨cnt_step (a + 1) c1 (c2 + 1) c3 c4 c5 c6 s r (d + 1) hlt HB.out hbel (Nat.le_refl _) (Bth (Bdrew (Bre wr)) hb1) (by omega) (by omega) (by have := HS.out; omega) (by have := HT.out; omega), by simp [intOf]; omega⟩
        · go_wp2_with fail
          have hce : IntKind.i64.wrap (1 + IntKind.i64.wrap ((IntKind.u64.wrap (y.tdiv 3)).tmod 6)) = 3 := cause_eq y 2 hy0 hy1 hq
          clear hq
          go_region_with ((go_at_call 9; refine (after_s3 _ _ _ _ _ _ _ _ _ _ _ (by omega) (by omega) (by omega) (by omega) (by omega) (by omega) (by omega)).mono ?_; rintro er w1 ⟨rfl, hb1⟩; obtain ⟨⟨m0, m1, m2, m3, m4, m5, m6, m7, m8, m9⟩, n0, n1, n2, n3, n4, n5, n6, n7, n8, n9⟩ := tal_cells (HB.out.drew.th hb1)))
          all_goals
            go_wp2_with fail
            exact ⟨cnt_step (a + 1) c1 c2 (c3 + 1) c4 c5 c6 s r (d + 1) hlt HB.out hbel (Nat.le_refl _) (Bth (Bdrew (Bre wr)) hb1) (by omega) (by omega) (by have := HS.out; omega) (by have := HT.out; omega), by simp [intOf]; omega⟩
        · go_wp2_with fail
          have hce : IntKind.i64.wrap (1 + IntKind.i64.wrap ((IntKind.u64.wrap (y.tdiv 3)).tmod 6)) = 4 := cause_eq y 3 hy0 hy1 hq
          clear hq
          go_region_with ((go_at_call 9; refine (after_s4 _ _ _ _ _ _ _ _ _ _ _ (by omega) (by omega) (by omega) (by omega) (by omega) (by omega) (by omega)).mono ?_; rintro er w1 ⟨rfl, hb1⟩; obtain ⟨⟨m0, m1, m2, m3, m4, m5, m6, m7, m8, m9⟩, n0, n1, n2, n3, n4, n5, n6, n7, n8, n9⟩ := tal_cells (HB.out.drew.th hb1)))
          all_goals
            go_wp2_with fail
            exact ⟨cnt_step (a + 1) c1 c2 c3 (c4 + 1) c5 c6 s r (d + 1) hlt HB.out hbel (Nat.le_refl _) (Bth (Bdrew (Bre wr)) hb1) (by omega) (by omega) (by have := HS.out; omega) (by have := HT.out; omega), by simp [intOf]; omega⟩
        · go_wp2_with fail
          have hce : IntKind.i64.wrap (1 + IntKind.i64.wrap ((IntKind.u64.wrap (y.tdiv 3)).tmod 6)) = 5 := cause_eq y 4 hy0 hy1 hq
          clear hq
          go_region_with ((go_at_call 9; refine (after_s5 _ _ _ _ _ _ _ _ _ _ _ (by omega) (by omega) (by omega) (by omega) (by omega) (by omega) (by omega)).mono ?_; rintro er w1 ⟨rfl, hb1⟩; obtain ⟨⟨m0, m1, m2, m3, m4, m5, m6, m7, m8, m9⟩, n0, n1, n2, n3, n4, n5, n6, n7, n8, n9⟩ := tal_cells (HB.out.drew.th hb1)))
          all_goals
            go_wp2_with fail
            exact ⟨cnt_step (a + 1) c1 c2 c3 c4 (c5 + 1) c6 s r (d + 1) hlt HB.out hbel (Nat.le_refl _) (Bth (Bdrew (Bre wr)) hb1) (by omega) (by omega) (by have := HS.out; omega) (by have := HT.out; omega), by simp [intOf]; omega⟩
        · go_wp2_with fail
          have hce : IntKind.i64.wrap (1 + IntKind.i64.wrap ((IntKind.u64.wrap (y.tdiv 3)).tmod 6)) = 6 := cause_eq y 5 hy0 hy1 hq
          clear hq
          go_region_with ((go_at_call 9; refine (after_s6 _ _ _ _ _ _ _ _ _ _ _ (by omega) (by omega) (by omega) (by omega) (by omega) (by omega) (by omega)).mono ?_; rintro er w1 ⟨rfl, hb1⟩; obtain ⟨⟨m0, m1, m2, m3, m4, m5, m6, m7, m8, m9⟩, n0, n1, n2, n3, n4, n5, n6, n7, n8, n9⟩ := tal_cells (HB.out.drew.th hb1)))
          all_goals
            go_wp2_with fail
            exact ⟨cnt_step (a + 1) c1 c2 c3 c4 c5 (c6 + 1) s r (d + 1) hlt HB.out hbel (Nat.le_refl _) (Bth (Bdrew (Bre wr)) hb1) (by omega) (by omega) (by have := HS.out; omega) (by have := HT.out; omega), by simp [intOf]; omega⟩
    · have hkn : k = n := by omega
      clear hkn
      go_wp2_with fail
      go_loop [8, 9] (fun t i => ∃ j : Nat, j ≤ 7 ∧ i = .int .i64 j ∧ t = .int .i64 (pre [0, c1, c2, c3, c4, c5, c6] j)) (fun _ i => 7 - (intOf i).toNat)
      case atStart => exact ⟨0, by omega, rfl, rfl⟩
      case round =>
        obtain ⟨j, hj, rfl, rfl⟩ := hrel
        by_cases hjl : j < 7
        · obtain ⟨p0, p1, p2, p3, p4⟩ := pre_bd c1 c2 c3 c4 c5 c6 j (by omega) hjl
          have HP := Lib.hid p4
          have hce := pre_cell HB.out j hjl
          clear p4
          generalize [0, c1, c2, c3, c4, c5, c6].getD j 0 = x at *
          go_wp2_with fail
          go_round
          case rel => exact ⟨j + 1, by omega, by go_num, by rw [HP.out]⟩
          case measure => simp [intOf]; omega
        · have e7' : j = 7 := by omega
          subst e7'
          have e8' : pre [0, c1, c2, c3, c4, c5, c6] 7 = d := by have := HS.out; simp [pre]; omega
          go_wp2_with fail
          refine (told_any _).mono ?_
          rintro er w1 ⟨rfl, hb1⟩
          obtain ⟨g1, g2⟩ := bcell hb1
          have hz1 : w.heap.size < w1.heap.size := Nat.lt_of_lt_of_le hlt0 hb1.size
          go_wp2_with fail
          go_ret
          exact ⟨rfl, Bth hbel hb1⟩
theorem cnt_long (A : Option Addr) (n cap : Nat) (w : World) (hn : 60 < n) :
    Calls Try.prog 6 #[.slice A n cap] w fun e w' => e = .returned (.bool true) ∧ Below w.heap.size w w' := by
  have hn' : (60 : Int) < (n : Int) := by omega
  go_enter Try.func6, Try.ntmps6
  go_wp2_with (go_at_call 8; refine (told_any _).mono ?_; rintro er w1 ⟨rfl, hb1⟩)
  go_ret
  exact ⟨rfl, hb1⟩
theorem cnt_any (A : Option Addr) (n cap : Nat) (zs : List Int) (w : World) (hc : ∀ k, k < n → ∃ b off, A = some ⟨b, off, none⟩ ∧ b < w.heap.size ∧ w.cell? ⟨b, off + k, none⟩ = some (.int .i64 (zs.getD k 0))) :
    Calls Try.prog 6 #[.slice A n cap] w fun e w' => e = .returned (.bool true) ∧ Below w.heap.size w w' := by
  rcases Nat.lt_or_ge 60 n with h | h
  · exact cnt_long A n cap w h
  · exact cnt_walk A n cap zs w h hc
end Go.Proofs.Ytpgalfenbhobnaa
