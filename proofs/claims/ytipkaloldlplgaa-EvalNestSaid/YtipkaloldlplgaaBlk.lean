/-
  A program of blocks: some instructions.
-/
import Derived.Test.YtipkaloldlplgaaTold
import Derived.Deep.RegionHeld3
import Derived.Deep.AppendLies
set_option linter.unusedVariables false
namespace Go.Proofs.Ytipkaloldlplgaa
open Go.RowKit
theorem umod9 (x : Int) : ∃ k : Nat, k < 9 ∧ (IntKind.u64.wrap x).tmod 9 = k := by
  have h0 : IntKind.u64.wrap x = x % 18446744073709551616 := by
    simp [IntKind.wrap, IntKind.bits, IntKind.signed]
  have h1 : 0 ≤ x % 18446744073709551616 := Int.emod_nonneg _ (by omega)
  refine ⟨((x % 18446744073709551616) % 9).toNat, by omega, ?_⟩
  rw [h0, Int.tmod_eq_emod_of_nonneg h1]; omega
theorem tab9 (w : World) : ∀ q : Nat, q < 9 → ∃ t : Int, (w.alloc (.cells #[.int .i64 18, .int .i64 19, .int .i64 20, .int .i64 21, .int .i64 22, .int .i64 13, .int .i64 14, .int .i64 1, .int .i64 12] 3)).cell? ⟨w.heap.size, q, none⟩ = some (.int .i64 t) := by
  intro q hq
  have : q = 0 ∨ q = 1 ∨ q = 2 ∨ q = 3 ∨ q = 4 ∨ q = 5 ∨ q = 6 ∨ q = 7 ∨ q = 8 := by omega
  rcases this with rfl | rfl | rfl | rfl | rfl | rfl | rfl | rfl | rfl <;> exact ⟨_, by simp; rfl⟩
set_option maxHeartbeats 1600000 in
theorem blocks_any (A : Option Addr) (n cap : Nat) (zs : List Int) (w : World) (hn : n ≤ 30) (hl : zs.length = n) (hc : ∀ k, k < n → ∃ b off, A = some ⟨b, off, none⟩ ∧ b < w.heap.size ∧ w.cell? ⟨b, off + k, none⟩ = some (.int .i64 (zs.getD k 0))) :
    Calls Try.prog 15 #[.slice A n cap] w fun e w' => ∃ (l : List Ins) (v : Value), e = .returned v ∧ l.length = n ∧ InsAt w' v l ∧ Below w.heap.size w w' := by
  have HC := Lib.hid hc
  have HL := Lib.hid hl
  clear hc hl
  have HT := Lib.hid (tab9 w)
  obtain ⟨i0, hi, hz0, hz1, hz2⟩ := info_parts info24
  go_enter Try.func15, Try.ntmps15
  go_wp2_with fail
  go_loopw [3, 5] (fun v i wr => ∃ (k : Nat) (l : List Ins) (A1 : Option Addr) (c : Nat), k ≤ n ∧ i = .int .i64 k ∧ v = .slice A1 k c ∧ Hid (l.length = k) ∧ wr.ownsRow (w.heap.size + 1) 24 5 (.slice A1 k c) k (insCells l) ∧ Below (w.heap.size + 1) (w.alloc (.cells #[.int .i64 18, .int .i64 19, .int .i64 20, .int .i64 21, .int .i64 22, .int .i64 13, .int .i64 14, .int .i64 1, .int .i64 12] 3)) wr) (fun _ i _ => n - (intOf i).toNat)
  case atStart => exact ⟨0, [], none, 0, by omega, rfl, rfl, rfl, World.ownsRow_nil _ _ _ _, Below.refl _ _⟩
  case round =>
    obtain ⟨k, l, A1, c, hk, rfl, rfl, hlk, hown, hbel⟩ := hrel
    have HP := Lib.hid hown
    clear hown
    by_cases hlt : k < n
    · obtain ⟨b, off, rfl, hbs, hcell⟩ := HC.out k hlt
      obtain ⟨q, hq, hqm⟩ := umod9 (zs.getD k 0)
      obtain ⟨t, ht⟩ := HT.out q hq
      have hzs := hbel.size
      simp only [World.size_alloc] at hzs
      have hx0 : wr.cell? ⟨b, off + k, none⟩ = some (.int .i64 (zs.getD k 0)) := (hbel.cell (p := ⟨b, off + k, none⟩) (by show b < _; omega)).trans (((Bal (Bre w) _).cell (p := ⟨b, off + k, none⟩) hbs).trans hcell)
      have ht0 : wr.cell? ⟨w.heap.size, q, none⟩ = some (.int .i64 t) := (hbel.cell (p := ⟨w.heap.size, q, none⟩) (by show w.heap.size < _; omega)).trans ht
      generalize zs.getD k 0 = z at *
      have hb1 : b < wr.heap.size := by omega
      have hb2 : w.heap.size < wr.heap.size := by omega
      have q0 : (0 : Int) ≤ (q : Int) := by omega
      have q9 : (q : Int) < 9 := by omega
      have k0 : (0 : Int) ≤ (k : Int) := by omega
      have kn : (k : Int) < (n : Int) := by omega
      have hne1 : some b ≠ (Value.slice A1 k c).ownBlock := fun e => by have := (HP.out.lt b e.symm).1; omega
      have hne2 : some w.heap.size ≠ (Value.slice A1 k c).ownBlock := fun e => by have := (HP.out.lt _ e.symm).1; omega
      clear hcell ht
      go_wp2_with fail
      go_region_held3 (fun w' => w'.cell? ⟨b, off + k, none⟩ = some (.int .i64 z) ∧ w'.cell? ⟨w.heap.size, q, none⟩ = some (.int .i64 t)) (first
          | go_keep
          | (go_split_ands
             refine ⟨?_, ?_⟩
             · (rw [hgrow.cell_far _ (by simp; omega) hne1]; assumption)
             · (rw [hgrow.cell_far _ (by simp; omega) hne2]; assumption)))
        ((refine step_append_lies _ (by rfl) _ _ _ (by rfl) (w.heap.size + 1) 24 i0 _ 5 40 Try.underlying32 hi hz0 hz1 hz2 rfl (by omega) (.slice A1 k c) k (insCells l) (by rfl) ((HP.out.alloc _).drew) ⟨wr.heap.size, 0, none⟩ 1 1 _ (by rfl) (by rfl) (World.news_of_block (heap_alloc_new wr _)) (by simp [Value.oneCell']) (by omega) (by unfold maxLen; omega) (by omega) (by simp; omega) (wr.heap.size + 1) (by simp) ?_; intro gg cap1 w1 hown' hgrow hat hlt1))
      go_wp2_with fail
      have hb3 : Below (w.heap.size + 1) (w.alloc (.cells #[.int .i64 18, .int .i64 19, .int .i64 20, .int .i64 21, .int .i64 22, .int .i64 13, .int .i64 14, .int .i64 1, .int .i64 12] 3)) w1 := (hbel.alloc (by omega) _).drew.grown hgrow (by simp; omega) (fun g hg => (HP.out.lt g hg).1)
      exact ⟨⟨k + 1, l ++ [⟨t, _, 0, 0, 0⟩], _, _, by omega, by go_num, rfl, by show _ = _; simp [hlk.out], by rw [insCells_snoc]; exact hown', hb3⟩, by (simp [intOf]) <;> omega⟩
    · have hkn : k = n := by omega
      have HK := Lib.hid hkn
      have hb0 : Below w.heap.size w wr := (Bal (Bre w) _).trans (hbel.mono (by omega))
      clear hkn
      go_wp2_with fail
      go_ret
      exact ⟨l, _, rfl, by rw [hlk.out, HK.out], InsAt.own (base := w.heap.size + 1) (by rw [hlk.out]; exact HP.out), hb0⟩
end Go.Proofs.Ytipkaloldlplgaa
