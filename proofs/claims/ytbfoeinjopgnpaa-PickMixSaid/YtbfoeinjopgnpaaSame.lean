/-
  PickReads' parts: the reference's Read; whether two scripts are alike.
-/
import Derived.Test.YtbfoeinjopgnpaaPk
import Derived.Laws.StructEq
set_option linter.unusedVariables false
namespace Go.Proofs.Ytbfoeinjopgnpaa
open Go.RowKit
theorem ref_read (A : Option Addr) (n cap : Nat) (zs : List Int) (w : World) (hn : n ≤ 1048576) (hl : zs.length = n) (hc : ∀ k, k < n → ∃ b off, A = some ⟨b, off, none⟩ ∧ b < w.heap.size ∧ w.cell? ⟨b, off + k, none⟩ = some (.int .u8 (zs.getD k 0)))
    (hz : ∀ k, k < n → 0 ≤ zs.getD k 0 ∧ zs.getD k 0 ≤ 255) :
    Calls Try.prog 9 #[.slice A n cap] w fun e w' => ∃ v, e = .returned v ∧ w'.ownsRow w.heap.size 29 3 v n (pkCells (rd zs n)) ∧ Below w.heap.size w w' := by
  have HC := Lib.hid hc
  have HZ := Lib.hid hz
  have HL := Lib.hid hl
  clear hc hz hl
  obtain ⟨i0, hi, hz0, hz1, hz2⟩ := info_parts info29
  go_enter Try.func9, Try.ntmps9
  go_wp2_with fail
  go_loopw [3, 4] (fun v i wr => ∃ k : Nat, k ≤ n ∧ i = .int .i64 k ∧ wr.ownsRow w.heap.size 29 3 v k (pkCells (rd zs k)) ∧ Below w.heap.size w wr) (fun _ i _ => n - (intOf i).toNat)
  case atStart => exact ⟨0, Nat.zero_le _, rfl, World.ownsRow_nil _ _ _ _, Bre _⟩
  case round =>
    obtain ⟨k, hk, rfl, hown, hbel⟩ := hrel
    by_cases hlt : k < n
    · obtain ⟨b, off, rfl, hbs, hcell⟩ := HC.out k hlt
      have hx : wr.cell? ⟨b, off + k, none⟩ = some (.int .u8 (zs.getD k 0)) := (hbel.cell hbs).trans hcell
      obtain ⟨hx0, hx1⟩ := HZ.out k hlt
      have HR := Lib.hid (rd_succ zs k (by rw [HL.out]; exact hlt))
      have HP := Lib.hid hown
      clear hcell hown
      generalize zs.getD k 0 = x at *
      have hbs' : w.heap.size ≤ wr.heap.size + 1 := by have := hbel.size; omega
      go_wp2_with (at_builtin; refine wpList_append_own _ rfl (.tmp 17) (.tmp 27) 25 rfl w.heap.size 29 i0 _ 3 24 Try.underlying25 hi hz0 hz1 hz2 rfl (by omega) _ k (pkCells (rd zs k)) rfl (HP.out.alloc _) ⟨wr.heap.size, 0, none⟩ 1 1 (pkOf x).cells rfl rfl (news3 wr (pkOf x)) (one3 _) (by unfold maxLen; omega) (by omega) (by simpa using hbs') ?_; intro v' w1 hown' hgrow _)
      go_roundw
      case rel => exact ⟨k + 1, by omega, by go_num, by rw [HR.out, pkCells_snoc]; exact hown', ((Bal hbel _).grown hgrow (Bal hbel _).size (fun g hg => (HP.out.lt g hg).1))⟩
      case measure => simp [intOf]; omega
    · have hkn : k = n := by omega
      subst hkn
      have HP := Lib.hid hown
      clear hown
      go_wp2_with fail
      go_ret
      exact ⟨_, rfl, HP.out, hbel⟩

theorem below_drewN {B : Nat} {a w : World} (h : Below B a w) (n : Nat) : Below B a (w.drewN n) := ⟨h.os, h.tape, h.output, h.size, h.block⟩
theorem eqg29 : Try.prog.eqGuardType Try.prog.depth 29 = false := by kernel_rfl
theorem pk_neq (p q : Pk) (w : World) : (binOp .neq 29 (.agg #[.int .i64 p.t, .bool p.a, .int .i64 p.d]) (.agg #[.int .i64 q.t, .bool q.a, .int .i64 q.d])).run Try.prog w = .ok (.bool (!decide (p = q))) w := by
  have hs : Try.prog.underlying 29 = some (.struct (Try.prog.fieldsOf 29)) := by kernel_rfl
  have hp : Try.prog.stoodInHeld 29 = false := by kernel_rfl
  rw [run_neq_struct, run_equalIn_struct w 9999 29 _ _ hs hp]
  simp only [Program.fieldsOf, Try.underlying29]
  obtain ⟨a, b, c⟩ := p
  obtain ⟨a', b', c'⟩ := q
  by_cases h1 : a = a' <;> by_cases h2 : b = b' <;> by_cases h3 : c = c' <;> simp [go_sem, Op.eqFields, h1, h2, h3]
theorem same_any (u v : Value) (l m : List Pk) (w : World) (hl : l.length ≤ 1048576) (hm : m.length ≤ 1048576) (hu : PkAt w u l) (hv : PkAt w v m) :
    Calls Try.prog 14 #[u, v] w fun e w' => e = .returned (.bool (decide (l = m))) ∧ Below w.heap.size w w' := by
  obtain ⟨A, c1, rfl, hu⟩ := hu
  obtain ⟨B, c2, rfl, hv⟩ := hv
  have HU := Lib.hid hu
  have HV := Lib.hid hv
  clear hu hv
  by_cases hlen : l.length = m.length
  · have HL := Lib.hid hlen
    rw [← hlen]
    clear hlen hm
    have hm := eqg29
    go_enter Try.func14, Try.ntmps14
    go_wp2_with fail
    go_loopw [5] (fun i wr => ∃ k : Nat, k ≤ l.length ∧ i = .int .i64 k ∧ l.take k = m.take k ∧ Below w.heap.size w wr) (fun i _ => l.length - (intOf i).toNat)
    case atStart => exact ⟨0, Nat.zero_le _, rfl, rfl, Bre _⟩
    case round =>
      obtain ⟨k, hk, rfl, htk, hbel⟩ := hrel
      have HT := Lib.hid htk
      clear htk
      by_cases hlt : k < l.length
      · obtain ⟨p, hp⟩ : ∃ p, l[k]? = some p := ⟨_, List.getElem?_eq_getElem hlt⟩
        obtain ⟨q, hq⟩ : ∃ q, m[k]? = some q := ⟨_, List.getElem?_eq_getElem (by rw [← HL.out]; exact hlt)⟩
        obtain ⟨b, off, rfl, hb, x1, x2, x3⟩ := HU.out k p hp
        obtain ⟨b', off', rfl, hb', y1, y2, y3⟩ := HV.out k q hq
        have z1 := (hbel.cell hb).trans x1
        have z2 := (hbel.cell hb).trans x2
        have z3 := (hbel.cell hb).trans x3
        have t1 := (hbel.cell hb').trans y1
        have t2 := (hbel.cell hb').trans y2
        have t3 := (hbel.cell hb').trans y3
        have HPP := Lib.hid hp
        have HQ := Lib.hid hq
        clear x1 x2 x3 y1 y2 y3 hp hq
        have hne := fun w => pk_neq p q w
        by_cases hpq : p = q
        · have hd : decide (p = q) = true := by simp [hpq]
          have HE := Lib.hid hpq
          clear hpq
          go_wp2_with fail
          go_quiet (fail)
          go_wp2_with fail
          go_roundw
          case rel => exact ⟨k + 1, by omega, by go_num, by rw [List.take_add_one, List.take_add_one, HT.out, HPP.out, HQ.out, HE.out], below_drewN hbel _⟩
          case measure => simp [intOf]; omega
        · have hd : decide (p = q) = false := by simp [hpq]
          have HE := Lib.hid hpq
          clear hpq
          go_wp2_with fail
          go_quiet (fail)
          go_wp2_with fail
          go_ret
          refine ⟨?_, below_drewN hbel _⟩
          have : decide (l = m) = false := by
            apply decide_eq_false
            intro h
            have h1 := HPP.out
            rw [h, HQ.out] at h1
            exact HE.out (Option.some.inj h1).symm
          rw [this]; rfl
      · have hkl : k = l.length := by omega
        go_wp2_with fail
        go_ret
        refine ⟨?_, hbel⟩
        have : decide (l = m) = true := by
          apply decide_eq_true
          have := HT.out
          rw [hkl, List.take_of_length_le (Nat.le_refl _), List.take_of_length_le (by rw [HL.out]; exact Nat.le_refl _)] at this
          exact this
        rw [this]; rfl
  · have hne : ((l.length : Int) == (m.length : Int)) = false := by
      have : ((l.length : Int) ≠ (m.length : Int)) := by omega
      simpa using this
    have HL := Lib.hid hlen
    go_enter Try.func14, Try.ntmps14
    go_wp2_with fail
    go_ret
    refine ⟨?_, Bre _⟩
    have : decide (l = m) = false := by
      apply decide_eq_false
      intro h
      exact HL.out (by rw [h])
    rw [this]; rfl
end Go.Proofs.Ytbfoeinjopgnpaa
