/-
  The law PickReads as a walk.
-/
import Derived.Test.YtbfoeinjopgnpaaRound
import Derived.Test.YtbfoeinjopgnpaaPut
set_option linter.unusedVariables false
namespace Go.Proofs.Ytbfoeinjopgnpaa
open Go.RowKit
theorem byte_back (x : Int) (h0 : 0 ≤ x) (h1 : x ≤ 255) : bF (pkOf x) = bits .andNot .u8 x 8 := by
  obtain ⟨n, rfl⟩ := Int.eq_ofNat_of_zero_le h0
  have hn : n < 256 := by omega
  have key : ∀ m : Fin 256, bF (pkOf (m.val : Int)) = bits .andNot .u8 (m.val : Int) 8 := by decide +kernel
  exact key ⟨n, hn⟩
theorem pkOf_ok (x : Int) (h0 : 0 ≤ x) (h1 : x ≤ 255) : 0 ≤ (pkOf x).t ∧ (pkOf x).t ≤ 3 ∧ 0 ≤ (pkOf x).d ∧ (pkOf x).d ≤ 15 := by simp only [pkOf]; omega
theorem rd_get (zs : List Int) (n k : Nat) (hk : k < n) (hn : n ≤ zs.length) : (rd zs n)[k]? = some (pkOf (zs.getD k 0)) := by
  simp [rd, hk, List.getD, show k < zs.length by omega]
theorem bs_get (l : List Pk) (k : Nat) (p : Pk) (h : l[k]? = some p) : (bs l l.length)[k]? = some (.int .u8 (bF p)) := by simp [bs, h]
set_option maxHeartbeats 800000 in
theorem reads_any (A : Option Addr) (n cap : Nat) (zs : List Int) (w : World) (hn : n ≤ 200) (hl : zs.length = n) (hc : ∀ k, k < n → ∃ b off, A = some ⟨b, off, none⟩ ∧ b < w.heap.size ∧ w.cell? ⟨b, off + k, none⟩ = some (.int .u8 (zs.getD k 0)))
    (hz : ∀ k, k < n → 0 ≤ zs.getD k 0 ∧ zs.getD k 0 ≤ 255) :
    Calls Try.prog 6 #[.slice A n cap] w fun e w' => e = .returned (.bool true) ∧ Below w.heap.size w w' := by
  have R1 := Lib.hid (fun W h => read_any A n cap zs W (by omega) hl h hz)
  have R2 := Lib.hid (fun W h => ref_read A n cap zs W (by omega) hl h hz)
  have HC := Lib.hid hc
  have HZ := Lib.hid hz
  have HL := Lib.hid hl
  have hrl := rd_len zs n (by omega)
  have HR := Lib.hid hrl
  clear hc hz hl hrl
  go_enter Try.func6, Try.ntmps6
  go_wp2_with fail
  refine (R1.out _ HC.out).mono ?_
  rintro e w1 ⟨v1, rfl, ho1, hb1⟩
  have P1 : Hid (PkAt w1 v1 (rd zs n)) := PkAt.own (base := w.heap.size) (by rw [HR.out]; exact ho1)
  clear ho1
  have HC1 : Hid (∀ k, k < n → ∃ b off, A = some ⟨b, off, none⟩ ∧ b < w1.heap.size ∧ w1.cell? ⟨b, off + k, none⟩ = some (.int .u8 (zs.getD k 0))) := fun k hk => by
    obtain ⟨b, off, h1, h2, h3⟩ := HC.out k hk
    exact ⟨b, off, h1, Nat.lt_of_lt_of_le h2 hb1.size, (hb1.cell h2).trans h3⟩
  go_wp2_with fail
  refine (R2.out _ HC1.out).mono ?_
  rintro e w2 ⟨v2, rfl, ho2, hb2⟩
  have P2 : Hid (PkAt w2 v2 (rd zs n)) := PkAt.own (base := w1.heap.size) (by rw [HR.out]; exact ho2)
  clear ho2
  go_wp2_with fail
  refine (same_any _ _ _ _ _ (by rw [HR.out]; omega) (by rw [HR.out]; omega) (P1.out.th hb2) P2.out).mono ?_
  rintro e w3 ⟨rfl, hb3⟩
  have hd : decide (rd zs n = rd zs n) = true := by simp
  go_wp2_with fail
  refine (put_ok _ (rd zs n) _ (by rw [HR.out]; omega) ((P1.out.th hb2).th hb3) (fun k p hp => ?_)).mono ?_
  · have hk : k < n := by rw [← HR.out]; exact (List.getElem?_eq_some_iff.1 hp).1
    rw [rd_get zs n k hk (by rw [HL.out]; exact Nat.le_refl _)] at hp
    obtain rfl := Option.some.inj hp
    exact pkOf_ok _ (HZ.out k hk).1 (HZ.out k hk).2
  rintro e w4 ⟨v4, rfl, ho4, hb4⟩
  rw [HR.out] at ho4
  have HB : Hid (Below w.heap.size w w4) := Bth (Bth (Bth hb1 hb2) hb3) hb4
  have hbz : ∃ A4 c4, v4 = .slice A4 n c4 ∧ ∀ k, k < n → ∃ g, A4 = some ⟨g, 0, none⟩ ∧ g < w4.heap.size ∧ w4.cell? ⟨g, k, none⟩ = some (.int .u8 (bF (pkOf (zs.getD k 0)))) := by
    rcases ho4.2 with ⟨rfl, h0⟩ | ⟨g, cap', cur, rfl, hb, hg, hx1, hx2, hs, ht⟩
    · subst h0; exact ⟨none, 0, rfl, fun k hk => by omega⟩
    · refine ⟨_, cap', rfl, fun k hk => ⟨g, rfl, (ho4.lt g rfl).2, ?_⟩⟩
      rw [ho4.cellAt _ (by omega)]
      have := bs_get (rd zs n) k _ (rd_get zs n k hk (by rw [HL.out]; exact Nat.le_refl _))
      rw [HR.out] at this
      exact this
  obtain ⟨A4, c4, hv4, h4⟩ := hbz
  subst hv4
  have H4 := Lib.hid h4
  clear h4 ho4
  go_wp2_with fail
  go_loopw [6] (fun i wr => ∃ k : Nat, k ≤ n ∧ i = .int .i64 k ∧ Below w4.heap.size w4 wr) (fun i _ => n - (intOf i).toNat)
  case atStart => exact ⟨0, by omega, rfl, Bre _⟩
  case round =>
    obtain ⟨k, hk, rfl, hbel⟩ := hrel
    by_cases hlt : k < n
    · obtain ⟨g, rfl, hg, hcell⟩ := H4.out k hlt
      obtain ⟨b, off, rfl, hb, hcb⟩ := HC.out k hlt
      have z1 : wr.cell? ⟨g, k, none⟩ = some (.int .u8 (bF (pkOf (zs.getD k 0)))) := (hbel.cell hg).trans hcell
      have z2 : wr.cell? ⟨b, off + k, none⟩ = some (.int .u8 (zs.getD k 0)) := (hbel.cell (Nat.lt_of_lt_of_le hb HB.out.size)).trans ((HB.out.cell hb).trans hcb)
      obtain ⟨q1, q2⟩ := HZ.out k hlt
      rw [byte_back _ q1 q2] at z1
      clear hcell hcb
      generalize zs.getD k 0 = x at *
      have hne : (bits BinOp.andNot IntKind.u8 x 8 != bits BinOp.andNot IntKind.u8 x 8) = false := by simp
      go_wp2_with fail
      go_quiet (fail)
      go_wp2_with fail
      exact ⟨⟨k + 1, by omega, by go_num, below_drewN hbel _⟩, by (simp [intOf]) <;> omega⟩
    · go_wp2_with (go_at_call 8; refine (told_any _).mono ?_; rintro e w5 ⟨rfl, hb5⟩)
      go_ret
      exact ⟨rfl, Bth (HB.out.trans (hbel.mono HB.out.size)) hb5⟩
theorem reads_long (A : Option Addr) (n cap : Nat) (w : World) (hn : 200 < n) : Calls Try.prog 6 #[.slice A n cap] w fun e w' => e = .returned (.bool true) ∧ Below w.heap.size w w' := by
  have hn' : (200 : Int) < (n : Int) := by omega
  go_enter Try.func6, Try.ntmps6
  go_wp2_with (go_at_call 8; refine (told_any _).mono ?_; rintro e w5 ⟨rfl, hb5⟩)
  go_ret
  exact ⟨rfl, hb5⟩
theorem law_reads (A : Option Addr) (n cap : Nat) (zs : List Int) (w : World) (hl : zs.length = n) (hc : ∀ k, k < n → ∃ b off, A = some ⟨b, off, none⟩ ∧ b < w.heap.size ∧ w.cell? ⟨b, off + k, none⟩ = some (.int .u8 (zs.getD k 0)))
    (hz : ∀ z ∈ zs, (Lit.int .u8 z).wf = true) : Calls Try.prog 6 #[.slice A n cap] w fun e w' => e = .returned (.bool true) ∧ Below w.heap.size w w' := by
  rcases Nat.lt_or_ge 200 n with h | h
  · exact reads_long A n cap w h
  · refine reads_any A n cap zs w h hl hc (fun k hk => ?_)
    have hm : zs.getD k 0 ∈ zs := by simp [List.getD, show k < zs.length by omega]
    have := hz _ hm
    simpa [Lit.wf, IntKind.min, IntKind.max, IntKind.signed, IntKind.bits] using this
end Go.Proofs.Ytbfoeinjopgnpaa
