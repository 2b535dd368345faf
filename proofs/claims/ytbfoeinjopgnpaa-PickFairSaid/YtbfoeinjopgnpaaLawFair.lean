/-
  The law PickFair as a walk.
-/
import Derived.Test.YtbfoeinjopgnpaaRFair
import Derived.Test.YtbfoeinjopgnpaaLawReads
import Derived.Test.YtbfoeinjopgnpaaLawRound
set_option linter.unusedVariables false
namespace Go.Proofs.Ytbfoeinjopgnpaa
open Go.RowKit
/-- Thread t is among the picks s .. e-1. -/
def hasP (l : List Pk) (t s : Nat) (e : Int) : Prop := ∃ j : Nat, s ≤ j ∧ (j : Int) < e ∧ (l.getD j ⟨0, false, 0⟩).t = t
open Classical in
noncomputable def hasB (l : List Pk) (s : Nat) (e : Int) (t : Nat) : Bool := decide (hasP l t s e)
theorem hasB_iff (l : List Pk) (s : Nat) (e : Int) (t : Nat) : hasB l s e t = true ↔ hasP l t s e := by simp [hasB]
def Win (l : List Pk) (T k : Int) (m : Nat) : Prop := ∀ s : Nat, s < m → ∀ t : Nat, (t : Int) < T → hasP l t s (s + k)
theorem lastF_iff (l : List Pk) (t s e : Nat) : (s : Int) ≤ lastF l t e ↔ hasP l t s e := by
  induction e with
  | zero =>
    constructor
    · intro h; simp [lastF] at h; omega
    · rintro ⟨j, _, h, _⟩; omega
  | succ e ih =>
    by_cases h : (l.getD e ⟨0, false, 0⟩).t = t
    · rw [lastF, if_pos h]
      constructor
      · intro hs; exact ⟨e, by omega, by omega, h⟩
      · rintro ⟨j, h1, h2, _⟩; omega
    · rw [lastF, if_neg h, ih]
      constructor
      · rintro ⟨j, h1, h2, h3⟩; exact ⟨j, h1, by omega, h3⟩
      · rintro ⟨j, h1, h2, h3⟩
        have : j ≠ e := fun he => h (he ▸ h3)
        exact ⟨j, h1, by omega, h3⟩
theorem win_fair (l : List Pk) (T k : Int) (m : Nat) (hT : 1 ≤ T) (hT4 : T ≤ 4) (hk : 1 ≤ k) (h1 : (l.length : Int) < m + k) (h2 : m = 0 ∨ (m : Int) + k ≤ l.length + 1) : Win l T k m ↔ FairS l T k := by
  constructor
  · intro h
    refine ⟨⟨hT, hT4, hk⟩, fun t ht i hi hki => ?_⟩
    obtain ⟨s, hs⟩ : ∃ s : Nat, (s : Int) = i - k + 1 := ⟨(i - k + 1).toNat, by omega⟩
    have := h s (by omega) t ht
    rw [show (s : Int) + k = ((i + 1 : Nat) : Int) by omega] at this
    rw [← hs]
    exact (lastF_iff l t s (i + 1)).2 this
  · intro h s hs t ht
    obtain ⟨i, hi⟩ : ∃ i : Nat, (i : Int) = s + k - 1 := ⟨(s + k - 1).toNat, by omega⟩
    have := h.2 t ht i (by omega) (by omega)
    rw [show (i : Int) - k + 1 = (s : Int) by omega] at this
    rw [show (s : Int) + k = ((i + 1 : Nat) : Int) by omega]
    exact (lastF_iff l t s (i + 1)).1 this
def FlagAt (w : World) (B : Nat) (f : Nat → Bool) : Prop := B < w.heap.size ∧ ∀ j, j < 4 → w.cell? ⟨B, j, none⟩ = some (.bool (f j)) ∧ w.frozen? ⟨B, j, none⟩ = false
theorem FlagAt.set {w : World} {B : Nat} {f : Nat → Bool} (h : FlagAt w B f) (j : Nat) (hj : j < 4) (v : Bool) : FlagAt (w.setCell ⟨B, j, none⟩ (.bool v)) B (fun x => if x = j then v else f x) := by
  refine ⟨by simpa [World.setCell] using h.1, fun x hx => ?_⟩
  obtain ⟨h1, h2⟩ := h.2 x hx
  by_cases e : x = j
  · subst e
    exact ⟨by rw [World.cell?_setCell_same (h := h1)]; simp, by rw [World.frozen?_setCell]; exact h2⟩
  · exact ⟨by rw [World.cell?_setCell_other (a := ⟨B, j, none⟩) (b := ⟨B, x, none⟩) (h := by intro h; injection h with _ h2; exact e h2.symm)]; simp [e, h1], by rw [World.frozen?_setCell]; exact h2⟩
theorem FlagAt.th {w w' : World} {B : Nat} {f : Nat → Bool} (h : FlagAt w B f) (hb : Below w.heap.size w w') : FlagAt w' B f :=
  ⟨Nat.lt_of_lt_of_le h.1 hb.size, fun j hj => ⟨(hb.cell h.1).trans (h.2 j hj).1, (hb.frozen h.1).trans (h.2 j hj).2⟩⟩
theorem FlagAt.congr {w : World} {B : Nat} {f g : Nat → Bool} (h : FlagAt w B f) (e : ∀ j, j < 4 → f j = g j) : FlagAt w B g :=
  ⟨h.1, fun j hj => by rw [← e j hj]; exact h.2 j hj⟩
theorem has_step {l : List Pk} {m j q : Nat} {p : Pk} (hp : l[j]? = some p) (hq : p.t = q) (hm : m ≤ j) (x : Nat) : (if x = q then true else hasB l m j x) = hasB l m ((j : Int) + 1) x := by
  have hg : l.getD j ⟨0, false, 0⟩ = p := by simp [List.getD, hp]
  by_cases h : x = q
  · subst h
    rw [if_pos rfl]
    exact ((hasB_iff _ _ _ _).2 ⟨j, hm, by omega, by rw [hg]; exact hq⟩).symm
  · rw [if_neg h, Bool.eq_iff_iff, hasB_iff, hasB_iff]
    constructor
    · rintro ⟨a, h1, h2, h3⟩; exact ⟨a, h1, by omega, h3⟩
    · rintro ⟨a, h1, h2, h3⟩
      have : a ≠ j := fun he => h (by rw [he, hg, hq] at h3; omega)
      exact ⟨a, h1, by omega, h3⟩
theorem has_none (l : List Pk) (m x : Nat) : hasB l m m x = false := by
  rw [Bool.eq_false_iff]; intro h
  obtain ⟨j, h1, h2, _⟩ := (hasB_iff _ _ _ _).1 h
  omega
theorem win_step {l : List Pk} {T k : Int} {m : Nat} {c : Bool} (h : c = true ↔ Win l T k m ∧ ∀ t : Nat, (t : Int) < T → hasP l t m (m + k)) : c = true ↔ Win l T k (m + 1) := by
  rw [h]
  constructor
  · rintro ⟨h1, h2⟩ s hs t ht
    by_cases e : s = m
    · subst e; exact h2 t ht
    · exact h1 s (by omega) t ht
  · intro h
    exact ⟨fun s hs t ht => h s (by omega) t ht, fun t ht => h m (by omega) t ht⟩
theorem fairB_of {l : List Pk} {T k : Int} {c : Bool} (h : c = true ↔ FairS l T k) : fairB l T k = c := by
  cases c
  · exact fairB_f (fun hf => by simpa using h.2 hf)
  · exact fairB_t (h.1 rfl)
theorem rd_thr (zs : List Int) (n : Nat) (hl : zs.length = n) (hz : ∀ k, k < n → 0 ≤ zs.getD k 0 ∧ zs.getD k 0 ≤ 255) (i : Nat) (p : Pk) (h : (rd zs n)[i]? = some p) : 0 ≤ p.t ∧ p.t ≤ 3 := by
  have hi : i < n := by rw [← rd_len zs n (by omega)]; exact (List.getElem?_eq_some_iff.1 h).1
  rw [rd_get zs n i hi (by omega)] at h
  obtain rfl := Option.some.inj h
  have := pkOf_ok _ (hz i hi).1 (hz i hi).2
  exact ⟨this.1, this.2.1⟩
theorem fair_long (A : Option Addr) (n cap : Nat) (T0 k0 : Int) (near : Bool) (w : World) (hn : 60 < n) : Calls Try.prog 3 #[.slice A n cap, .int .i64 T0, .int .i64 k0, .bool near] w fun e w' => e = .returned (.bool true) ∧ Below w.heap.size w w' := by
  have hn' : (60 : Int) < (n : Int) := by omega
  go_enter Try.func3, Try.ntmps3
  go_wp2_with (go_at_call 8; refine (told_any _).mono ?_; rintro e w5 ⟨rfl, hb5⟩)
  go_ret
  exact ⟨rfl, hb5⟩
set_option maxHeartbeats 3200000 in
theorem fair_raw (A : Option Addr) (n cap : Nat) (zs : List Int) (T0 k0 : Int) (w : World) (hn : n ≤ 60) (hl : zs.length = n) (hc : ∀ k, k < n → ∃ b off, A = some ⟨b, off, none⟩ ∧ b < w.heap.size ∧ w.cell? ⟨b, off + k, none⟩ = some (.int .u8 (zs.getD k 0)))
    (hz : ∀ k, k < n → 0 ≤ zs.getD k 0 ∧ zs.getD k 0 ≤ 255) (h1 : 1 ≤ T0) (h4 : T0 ≤ 4) (hk : 1 ≤ k0) (hk2 : k0 ≤ 9223372036854775807) :
    Calls Try.prog 3 #[.slice A n cap, .int .i64 T0, .int .i64 k0, .bool false] w fun e w' => e = .returned (.bool true) ∧ Below w.heap.size w w' := by
  have R2 := Lib.hid (fun W h => ref_read A n cap zs W (by omega) hl h hz)
  have HC := Lib.hid hc
  have HTH : Hid (∀ (i : Nat) (p : Pk), (rd zs n)[i]? = some p → 0 ≤ p.t ∧ p.t ≤ 3) := rd_thr zs n hl hz
  have HR : Hid ((rd zs n).length = n) := rd_len zs n (by omega)
  clear hc hz
  go_enter Try.func3, Try.ntmps3
  go_wp2_with fail
  refine (R2.out _ HC.out).mono ?_
  rintro e w1 ⟨v1, rfl, ho1, hb1⟩
  have P1 : Hid (PkAt w1 v1 (rd zs n)) := PkAt.own (base := w.heap.size) (by rw [HR.out]; exact ho1)
  clear ho1 R2
  obtain ⟨l, hll⟩ : ∃ l, rd zs n = l := ⟨_, rfl⟩
  rw [hll] at P1 HTH HR
  clear hll
  have hr := HR.out
  subst hr
  have p1 := P1.out
  obtain ⟨A1, c1, rfl, hu⟩ := p1
  have HU := Lib.hid hu
  clear hu HR
  have RF : Hid (∀ (W : World), Below w1.heap.size w1 W → Calls Try.prog 10 #[.slice A1 l.length c1, .int .i64 T0, .int .i64 k0] W fun e w' => e = .returned (.bool (fairB l T0 k0)) ∧ Below W.heap.size W w') := fun W h => fair_yes _ _ _ _ W (by omega) (P1.out.th h) (by omega) (by omega) (by omega) (by omega)
  have RG : Hid (∀ (W : World), Below w1.heap.size w1 W → Calls Try.prog 11 #[.slice A1 l.length c1, .int .i64 T0, .int .i64 k0] W fun e w' => e = .returned (.bool (fairB l T0 k0)) ∧ W = w') := fun W h => rfair_yes _ _ _ _ W (by omega) (P1.out.th h) (by omega) (by omega) (by omega) (by omega)
  go_wp2_with fail
  go_loopw [10, 11] (fun x i wr => ∃ (m : Nat) (c : Bool), i = .int .i64 m ∧ x = .bool c ∧ (m = 0 ∨ (m : Int) + k0 ≤ l.length + 1) ∧ (c = true ↔ Win l T0 k0 m) ∧ Below w1.heap.size w1 wr) (fun _ i _ => l.length + 1 - (intOf i).toNat)
  case atStart => exact ⟨0, true, rfl, rfl, Or.inl rfl, by simp [Win], Bre _⟩
  case round =>
    obtain ⟨m, c, rfl, rfl, hmk, hcw, hbel⟩ := hrel
    by_cases hlt : (m : Int) + k0 ≤ l.length
    · have HCW := Lib.hid hcw
      have HMK := Lib.hid hmk
      clear hcw hmk
      have hml : m < l.length := by omega
      obtain ⟨wo, rfl⟩ : ∃ wo, wo = wr := ⟨_, rfl⟩
      go_wp2_with fail
      go_loopw [13] (fun i wq => ∃ j : Nat, m ≤ j ∧ (j : Int) ≤ m + k0 ∧ i = .int .i64 j ∧ FlagAt wq wo.heap.size (hasB l m j) ∧ Below w1.heap.size w1 wq) (fun i _ => l.length - (intOf i).toNat)
      case atStart =>
        refine ⟨m, by omega, by omega, rfl, ?_, Bal hbel _⟩
        refine ⟨by simp, fun j hj => ?_⟩
        rw [has_none]
        have : j = 0 ∨ j = 1 ∨ j = 2 ∨ j = 3 := by omega
        rcases this with rfl | rfl | rfl | rfl <;> simp
      case round =>
        obtain ⟨j, hmj, hjk, rfl, hfl, hbel2⟩ := hrel
        have HF := Lib.hid hfl
        clear hfl
        have hBs := HF.out.1
        by_cases hj : (j : Int) < m + k0
        · have hjl : j < l.length := by omega
          obtain ⟨p, hp⟩ : ∃ p, l[j]? = some p := ⟨_, List.getElem?_eq_getElem hjl⟩
          obtain ⟨b, off, rfl, hbb, x1, x2, x3⟩ := HU.out j p hp
          have z1 := (hbel2.cell hbb).trans x1
          obtain ⟨ht0, ht3⟩ := HTH.out j p hp
          obtain ⟨q9, hq⟩ := Int.eq_ofNat_of_zero_le ht0
          have HQ := Lib.hid hq
          have HPP := Lib.hid hp
          have HMJ := Lib.hid hmj
          rw [hq] at z1
          have hq4 : q9 < 4 := by omega
          obtain ⟨c0, f0⟩ := HF.out.2 q9 hq4
          clear x1 x2 x3 hp hq ht0 ht3
          go_wp2_with fail
          refine ⟨⟨j + 1, by omega, by omega, by go_num, (HF.out.set q9 hq4 true).congr fun x _ => ?_, Bset hbel2 (Nat.le_trans hbel.size (Nat.le_refl _)) _⟩, by (simp [intOf]) <;> omega⟩
          have := has_step HPP.out HQ.out HMJ.out x
          simpa using this
        · have hje : (j : Int) = m + k0 := by omega
          have HFE : Hid (FlagAt wr wo.heap.size (hasB l m (m + k0))) := by rw [← hje]; exact HF.out
          clear HF hje
          go_wp2_with fail
          go_loop [10, 14] (fun x i => ∃ (t : Nat) (d : Bool), (t : Int) ≤ T0 ∧ i = .int .i64 t ∧ x = .bool d ∧ (d = true ↔ Win l T0 k0 m ∧ ∀ s : Nat, s < t → hasP l s m (m + k0))) (fun _ i => 4 - (intOf i).toNat)
          case atStart => exact ⟨0, c, by omega, rfl, rfl, by rw [HCW.out]; simp⟩
          case round =>
            obtain ⟨t, d, htT, rfl, rfl, hd⟩ := hrel
            have HD := Lib.hid hd
            clear hd
            by_cases hlt2 : (t : Int) < T0
            · obtain ⟨c2, _⟩ := HFE.out.2 t (by omega)
              obtain ⟨y, hy⟩ : ∃ y, hasB l m (m + k0) t = y := ⟨_, rfl⟩
              rw [hy] at c2
              have HY : Hid (y = true ↔ hasP l t m (m + k0)) := by show _ ↔ _; rw [← hy]; exact hasB_iff _ _ _ _
              clear hy
              have key : Hid ((d && y) = true ↔ Win l T0 k0 m ∧ ∀ s : Nat, s < t + 1 → hasP l s m (m + k0)) := by
                show _ ↔ _
                rw [Bool.and_eq_true, HD.out, HY.out]
                constructor
                · rintro ⟨⟨h1, h2⟩, h3⟩
                  refine ⟨h1, fun s hs => ?_⟩
                  by_cases e : s = t
                  · subst e; exact h3
                  · exact h2 s (by omega)
                · rintro ⟨h1, h2⟩
                  exact ⟨⟨h1, fun s hs => h2 s (by omega)⟩, h2 t (by omega)⟩
              cases d
              · go_wp2_with fail
                go_round
                case rel => exact ⟨t + 1, false, by omega, by go_num, rfl, key.out⟩
                case measure => (simp [intOf]) <;> omega
              · go_wp2_with fail
                go_round
                case rel => exact ⟨t + 1, y, by omega, by go_num, rfl, key.out⟩
                case measure => (simp [intOf]) <;> omega
            · have HW : Hid (d = true ↔ Win l T0 k0 (m + 1)) := win_step (by
                rw [HD.out]
                constructor
                · rintro ⟨h1, h2⟩; exact ⟨h1, fun s hs => h2 s (by omega)⟩
                · rintro ⟨h1, h2⟩; exact ⟨h1, fun s hs => h2 s (by omega)⟩)
              go_wp2_with fail
              exact ⟨⟨m + 1, d, by go_num, rfl, Or.inr (by omega), HW.out, hbel2⟩, by (simp [intOf]) <;> omega⟩
    · have hfb : fairB l T0 k0 = c := fairB_of (hcw.trans (win_fair l _ _ m (by omega) (by omega) (by omega) (by omega) hmk))
      clear hcw
      have HFB := Lib.hid hfb
      clear hfb
      have RF2 := RF
      have RG2 := RG
      rw [HFB.out] at RF2 RG2
      clear RF RG
      cases c
      all_goals
        go_wp2_with (first
          | (go_at_call 8; refine (told_any _).mono ?_; rintro e w2 ⟨rfl, hb2⟩)
          | (go_at_call 10; refine (RF2.out _ (Bth hbel hb2)).mono ?_; rintro e w3 ⟨rfl, hb3⟩)
          | (go_at_call 11; refine (RG2.out _ (Bth (Bth hbel hb2) hb3)).mono ?_; rintro e w4 ⟨rfl, rfl⟩))
        go_ret
        exact ⟨rfl, Bth (Bth (Bth hb1 hbel) hb2) hb3⟩
set_option maxHeartbeats 3200000 in
theorem fair_near (A : Option Addr) (n cap : Nat) (zs : List Int) (T0 k0 : Int) (w : World) (hn : n ≤ 60) (hl : zs.length = n) (hc : ∀ k, k < n → ∃ b off, A = some ⟨b, off, none⟩ ∧ b < w.heap.size ∧ w.cell? ⟨b, off + k, none⟩ = some (.int .u8 (zs.getD k 0)))
    (hz : ∀ k, k < n → 0 ≤ zs.getD k 0 ∧ zs.getD k 0 ≤ 255) :
    Calls Try.prog 3 #[.slice A n cap, .int .i64 T0, .int .i64 k0, .bool true] w fun e w' => e = .returned (.bool true) ∧ Below w.heap.size w w' := by
  obtain ⟨p, hp0, hp1, hpp, _⟩ := umod T0 4 (by omega) (by omega)
  obtain ⟨q, hq0, hq1, hqq, _⟩ := umod k0 20 (by omega) (by omega)
  have R2 := Lib.hid (fun W h => ref_read A n cap zs W (by omega) hl h hz)
  have HC := Lib.hid hc
  have HTH : Hid (∀ (i : Nat) (p : Pk), (rd zs n)[i]? = some p → 0 ≤ p.t ∧ p.t ≤ 3) := rd_thr zs n hl hz
  have HR : Hid ((rd zs n).length = n) := rd_len zs n (by omega)
  clear hc hz
  go_enter Try.func3, Try.ntmps3
  go_wp2_with fail
  refine (R2.out _ HC.out).mono ?_
  rintro e w1 ⟨v1, rfl, ho1, hb1⟩
  have P1 : Hid (PkAt w1 v1 (rd zs n)) := PkAt.own (base := w.heap.size) (by rw [HR.out]; exact ho1)
  clear ho1 R2
  obtain ⟨l, hll⟩ : ∃ l, rd zs n = l := ⟨_, rfl⟩
  rw [hll] at P1 HTH HR
  clear hll
  have hr := HR.out
  subst hr
  have p1 := P1.out
  obtain ⟨A1, c1, rfl, hu⟩ := p1
  have HU := Lib.hid hu
  clear hu HR
  have RF : Hid (∀ (W : World), Below w1.heap.size w1 W → Calls Try.prog 10 #[.slice A1 l.length c1, .int .i64 (1 + p), .int .i64 (1 + q)] W fun e w' => e = .returned (.bool (fairB l (1 + p) (1 + q))) ∧ Below W.heap.size W w') := fun W h => fair_yes _ _ _ _ W (by omega) (P1.out.th h) (by omega) (by omega) (by omega) (by omega)
  have RG : Hid (∀ (W : World), Below w1.heap.size w1 W → Calls Try.prog 11 #[.slice A1 l.length c1, .int .i64 (1 + p), .int .i64 (1 + q)] W fun e w' => e = .returned (.bool (fairB l (1 + p) (1 + q))) ∧ W = w') := fun W h => rfair_yes _ _ _ _ W (by omega) (P1.out.th h) (by omega) (by omega) (by omega) (by omega)
  go_wp2_with fail
  go_loopw [10, 11] (fun x i wr => ∃ (m : Nat) (c : Bool), i = .int .i64 m ∧ x = .bool c ∧ (m = 0 ∨ (m : Int) + (1 + q) ≤ l.length + 1) ∧ (c = true ↔ Win l (1 + p) (1 + q) m) ∧ Below w1.heap.size w1 wr) (fun _ i _ => l.length + 1 - (intOf i).toNat)
  case atStart => exact ⟨0, true, rfl, rfl, Or.inl rfl, by simp [Win], Bre _⟩
  case round =>
    obtain ⟨m, c, rfl, rfl, hmk, hcw, hbel⟩ := hrel
    by_cases hlt : (m : Int) + (1 + q) ≤ l.length
    · have HCW := Lib.hid hcw
      have HMK := Lib.hid hmk
      clear hcw hmk
      have hml : m < l.length := by omega
      obtain ⟨wo, rfl⟩ : ∃ wo, wo = wr := ⟨_, rfl⟩
      go_wp2_with fail
      go_loopw [13] (fun i wq => ∃ j : Nat, m ≤ j ∧ (j : Int) ≤ m + (1 + q) ∧ i = .int .i64 j ∧ FlagAt wq wo.heap.size (hasB l m j) ∧ Below w1.heap.size w1 wq) (fun i _ => l.length - (intOf i).toNat)
      case atStart =>
        refine ⟨m, by omega, by omega, rfl, ?_, Bal hbel _⟩
        refine ⟨by simp, fun j hj => ?_⟩
        rw [has_none]
        have : j = 0 ∨ j = 1 ∨ j = 2 ∨ j = 3 := by omega
        rcases this with rfl | rfl | rfl | rfl <;> simp
      case round =>
        obtain ⟨j, hmj, hjk, rfl, hfl, hbel2⟩ := hrel
        have HF := Lib.hid hfl
        clear hfl
        have hBs := HF.out.1
        by_cases hj : (j : Int) < m + (1 + q)
        · have hjl : j < l.length := by omega
          obtain ⟨p, hp⟩ : ∃ p, l[j]? = some p := ⟨_, List.getElem?_eq_getElem hjl⟩
          obtain ⟨b, off, rfl, hbb, x1, x2, x3⟩ := HU.out j p hp
          have z1 := (hbel2.cell hbb).trans x1
          obtain ⟨ht0, ht3⟩ := HTH.out j p hp
          obtain ⟨q9, hq⟩ := Int.eq_ofNat_of_zero_le ht0
          have HQ := Lib.hid hq
          have HPP := Lib.hid hp
          have HMJ := Lib.hid hmj
          rw [hq] at z1
          have hq4 : q9 < 4 := by omega
          obtain ⟨c0, f0⟩ := HF.out.2 q9 hq4
          clear x1 x2 x3 hp hq ht0 ht3
          go_wp2_with fail
          refine ⟨⟨j + 1, by omega, by omega, by go_num, (HF.out.set q9 hq4 true).congr fun x _ => ?_, Bset hbel2 (Nat.le_trans hbel.size (Nat.le_refl _)) _⟩, by (simp [intOf]) <;> omega⟩
          have := has_step HPP.out HQ.out HMJ.out x
          simpa using this
        · have hje : (j : Int) = m + (1 + q) := by omega
          have HFE : Hid (FlagAt wr wo.heap.size (hasB l m (m + (1 + q)))) := by rw [← hje]; exact HF.out
          clear HF hje
          go_wp2_with fail
          go_loop [10, 14] (fun x i => ∃ (t : Nat) (d : Bool), (t : Int) ≤ (1 + p) ∧ i = .int .i64 t ∧ x = .bool d ∧ (d = true ↔ Win l (1 + p) (1 + q) m ∧ ∀ s : Nat, s < t → hasP l s m (m + (1 + q)))) (fun _ i => 4 - (intOf i).toNat)
          case atStart => exact ⟨0, c, by omega, rfl, rfl, by rw [HCW.out]; simp⟩
          case round =>
            obtain ⟨t, d, htT, rfl, rfl, hd⟩ := hrel
            have HD := Lib.hid hd
            clear hd
            by_cases hlt2 : (t : Int) < (1 + p)
            · obtain ⟨c2, _⟩ := HFE.out.2 t (by omega)
              obtain ⟨y, hy⟩ : ∃ y, hasB l m (m + (1 + q)) t = y := ⟨_, rfl⟩
              rw [hy] at c2
              have HY : Hid (y = true ↔ hasP l t m (m + (1 + q))) := by show _ ↔ _; rw [← hy]; exact hasB_iff _ _ _ _
              clear hy
              have key : Hid ((d && y) = true ↔ Win l (1 + p) (1 + q) m ∧ ∀ s : Nat, s < t + 1 → hasP l s m (m + (1 + q))) := by
                show _ ↔ _
                rw [Bool.and_eq_true, HD.out, HY.out]
                constructor
                · rintro ⟨⟨h1, h2⟩, h3⟩
                  refine ⟨h1, fun s hs => ?_⟩
                  by_cases e : s = t
                  · subst e; exact h3
                  · exact h2 s (by omega)
                · rintro ⟨h1, h2⟩
                  exact ⟨⟨h1, fun s hs => h2 s (by omega)⟩, h2 t (by omega)⟩
              cases d
              · go_wp2_with fail
                go_round
                case rel => exact ⟨t + 1, false, by omega, by go_num, rfl, key.out⟩
                case measure => (simp [intOf]) <;> omega
              · go_wp2_with fail
                go_round
                case rel => exact ⟨t + 1, y, by omega, by go_num, rfl, key.out⟩
                case measure => (simp [intOf]) <;> omega
            · have HW : Hid (d = true ↔ Win l (1 + p) (1 + q) (m + 1)) := win_step (by
                rw [HD.out]
                constructor
                · rintro ⟨h1, h2⟩; exact ⟨h1, fun s hs => h2 s (by omega)⟩
                · rintro ⟨h1, h2⟩; exact ⟨h1, fun s hs => h2 s (by omega)⟩)
              go_wp2_with fail
              exact ⟨⟨m + 1, d, by go_num, rfl, Or.inr (by omega), HW.out, hbel2⟩, by (simp [intOf]) <;> omega⟩
    · have hfb : fairB l (1 + p) (1 + q) = c := fairB_of (hcw.trans (win_fair l _ _ m (by omega) (by omega) (by omega) (by omega) hmk))
      clear hcw
      have HFB := Lib.hid hfb
      clear hfb
      have RF2 := RF
      have RG2 := RG
      rw [HFB.out] at RF2 RG2
      clear RF RG
      cases c
      all_goals
        go_wp2_with (first
          | (go_at_call 8; refine (told_any _).mono ?_; rintro e w2 ⟨rfl, hb2⟩)
          | (go_at_call 10; refine (RF2.out _ (Bth hbel hb2)).mono ?_; rintro e w3 ⟨rfl, hb3⟩)
          | (go_at_call 11; refine (RG2.out _ (Bth (Bth hbel hb2) hb3)).mono ?_; rintro e w4 ⟨rfl, rfl⟩))
        go_ret
        exact ⟨rfl, Bth (Bth (Bth hb1 hbel) hb2) hb3⟩
set_option maxHeartbeats 3200000 in
theorem fair_outk (A : Option Addr) (n cap : Nat) (zs : List Int) (T0 k0 : Int) (w : World) (hn : n ≤ 60) (hl : zs.length = n) (hc : ∀ k, k < n → ∃ b off, A = some ⟨b, off, none⟩ ∧ b < w.heap.size ∧ w.cell? ⟨b, off + k, none⟩ = some (.int .u8 (zs.getD k 0)))
    (hz : ∀ k, k < n → 0 ≤ zs.getD k 0 ∧ zs.getD k 0 ≤ 255) (hk1 : -9223372036854775808 ≤ k0) (hk2 : k0 ≤ 9223372036854775807) (h : k0 < 1) :
    Calls Try.prog 3 #[.slice A n cap, .int .i64 T0, .int .i64 k0, .bool false] w fun e w' => e = .returned (.bool true) ∧ Below w.heap.size w w' := by
  have R2 := Lib.hid (fun W h => ref_read A n cap zs W (by omega) hl h hz)
  have HC := Lib.hid hc
  have HTH : Hid (∀ (i : Nat) (p : Pk), (rd zs n)[i]? = some p → 0 ≤ p.t ∧ p.t ≤ 3) := rd_thr zs n hl hz
  have HR : Hid ((rd zs n).length = n) := rd_len zs n (by omega)
  clear hc hz
  go_enter Try.func3, Try.ntmps3
  go_wp2_with fail
  refine (R2.out _ HC.out).mono ?_
  rintro e w1 ⟨v1, rfl, ho1, hb1⟩
  have P1 : Hid (PkAt w1 v1 (rd zs n)) := PkAt.own (base := w.heap.size) (by rw [HR.out]; exact ho1)
  clear ho1 R2
  obtain ⟨l, hll⟩ : ∃ l, rd zs n = l := ⟨_, rfl⟩
  rw [hll] at P1 HTH HR
  clear hll
  have hr := HR.out
  subst hr
  have p1 := P1.out
  obtain ⟨A1, c1, rfl, hu⟩ := p1
  have HU := Lib.hid hu
  clear hu HR
  have RF : Hid (∀ (W : World), Calls Try.prog 10 #[.slice A1 l.length c1, .int .i64 T0, .int .i64 k0] W fun e w' => e = .returned (.bool false) ∧ W = w') := fun W => fair_no (.bool false) _ _ W _ _ _ (by omega)
  have RG : Hid (∀ (W : World), Calls Try.prog 11 #[.slice A1 l.length c1, .int .i64 T0, .int .i64 k0] W fun e w' => e = .returned (.bool false) ∧ W = w') := fun W => rfair_no _ _ W _ _ _ (by omega)
  clear HU HTH P1

  all_goals
    go_wp2_with fail
    go_loop [10, 11] (fun x i => x = .bool true ∧ i = .int .i64 0) (fun _ _ => 0)
    case atStart => exact ⟨rfl, rfl⟩
    case round =>
      obtain ⟨rfl, rfl⟩ := hrel
      go_wp2_with (first
        | (go_at_call 8; refine (told_any _).mono ?_; rintro e w2 ⟨rfl, hb2⟩)
        | (go_at_call 10; refine (RF.out _).mono ?_; rintro e w3 ⟨rfl, rfl⟩)
        | (go_at_call 11; refine (RG.out _).mono ?_; rintro e w4 ⟨rfl, rfl⟩))
      go_ret
      refine ⟨?_, Bth hb1 hb2⟩
      first | rfl | (rw [hd4]; rfl) | (simp only [hd4]; rfl) | (simp [hd4]; done)
set_option maxHeartbeats 3200000 in
theorem fair_outT1 (A : Option Addr) (n cap : Nat) (zs : List Int) (T0 k0 : Int) (w : World) (hn : n ≤ 60) (hl : zs.length = n) (hc : ∀ k, k < n → ∃ b off, A = some ⟨b, off, none⟩ ∧ b < w.heap.size ∧ w.cell? ⟨b, off + k, none⟩ = some (.int .u8 (zs.getD k 0)))
    (hz : ∀ k, k < n → 0 ≤ zs.getD k 0 ∧ zs.getD k 0 ≤ 255) (hk1 : -9223372036854775808 ≤ k0) (hk2 : k0 ≤ 9223372036854775807) (hk : 1 ≤ k0) (h : T0 < 1) :
    Calls Try.prog 3 #[.slice A n cap, .int .i64 T0, .int .i64 k0, .bool false] w fun e w' => e = .returned (.bool true) ∧ Below w.heap.size w w' := by
  have R2 := Lib.hid (fun W h => ref_read A n cap zs W (by omega) hl h hz)
  have HC := Lib.hid hc
  have HTH : Hid (∀ (i : Nat) (p : Pk), (rd zs n)[i]? = some p → 0 ≤ p.t ∧ p.t ≤ 3) := rd_thr zs n hl hz
  have HR : Hid ((rd zs n).length = n) := rd_len zs n (by omega)
  clear hc hz
  go_enter Try.func3, Try.ntmps3
  go_wp2_with fail
  refine (R2.out _ HC.out).mono ?_
  rintro e w1 ⟨v1, rfl, ho1, hb1⟩
  have P1 : Hid (PkAt w1 v1 (rd zs n)) := PkAt.own (base := w.heap.size) (by rw [HR.out]; exact ho1)
  clear ho1 R2
  obtain ⟨l, hll⟩ : ∃ l, rd zs n = l := ⟨_, rfl⟩
  rw [hll] at P1 HTH HR
  clear hll
  have hr := HR.out
  subst hr
  have p1 := P1.out
  obtain ⟨A1, c1, rfl, hu⟩ := p1
  have HU := Lib.hid hu
  clear hu HR
  have RF : Hid (∀ (W : World), Calls Try.prog 10 #[.slice A1 l.length c1, .int .i64 T0, .int .i64 k0] W fun e w' => e = .returned (.bool false) ∧ W = w') := fun W => fair_no (.bool false) _ _ W _ _ _ (by omega)
  have RG : Hid (∀ (W : World), Calls Try.prog 11 #[.slice A1 l.length c1, .int .i64 T0, .int .i64 k0] W fun e w' => e = .returned (.bool false) ∧ W = w') := fun W => rfair_no _ _ W _ _ _ (by omega)
  clear HU HTH P1
  rcases (show k0 ≤ l.length ∨ (l.length : Int) < k0 by omega) with hkl | hkl
  all_goals
    go_wp2_with fail
    go_loop [10, 11] (fun x i => x = .bool true ∧ i = .int .i64 0) (fun _ _ => 0)
    case atStart => exact ⟨rfl, rfl⟩
    case round =>
      obtain ⟨rfl, rfl⟩ := hrel
      go_wp2_with (first
        | (go_at_call 8; refine (told_any _).mono ?_; rintro e w2 ⟨rfl, hb2⟩)
        | (go_at_call 10; refine (RF.out _).mono ?_; rintro e w3 ⟨rfl, rfl⟩)
        | (go_at_call 11; refine (RG.out _).mono ?_; rintro e w4 ⟨rfl, rfl⟩))
      go_ret
      refine ⟨?_, Bth hb1 hb2⟩
      first | rfl | (rw [hd4]; rfl) | (simp only [hd4]; rfl) | (simp [hd4]; done)
set_option maxHeartbeats 3200000 in
theorem fair_outT4 (A : Option Addr) (n cap : Nat) (zs : List Int) (T0 k0 : Int) (w : World) (hn : n ≤ 60) (hl : zs.length = n) (hc : ∀ k, k < n → ∃ b off, A = some ⟨b, off, none⟩ ∧ b < w.heap.size ∧ w.cell? ⟨b, off + k, none⟩ = some (.int .u8 (zs.getD k 0)))
    (hz : ∀ k, k < n → 0 ≤ zs.getD k 0 ∧ zs.getD k 0 ≤ 255) (hk1 : -9223372036854775808 ≤ k0) (hk2 : k0 ≤ 9223372036854775807) (hk : 1 ≤ k0) (h : 4 < T0) :
    Calls Try.prog 3 #[.slice A n cap, .int .i64 T0, .int .i64 k0, .bool false] w fun e w' => e = .returned (.bool true) ∧ Below w.heap.size w w' := by
  have R2 := Lib.hid (fun W h => ref_read A n cap zs W (by omega) hl h hz)
  have HC := Lib.hid hc
  have HTH : Hid (∀ (i : Nat) (p : Pk), (rd zs n)[i]? = some p → 0 ≤ p.t ∧ p.t ≤ 3) := rd_thr zs n hl hz
  have HR : Hid ((rd zs n).length = n) := rd_len zs n (by omega)
  clear hc hz
  go_enter Try.func3, Try.ntmps3
  go_wp2_with fail
  refine (R2.out _ HC.out).mono ?_
  rintro e w1 ⟨v1, rfl, ho1, hb1⟩
  have P1 : Hid (PkAt w1 v1 (rd zs n)) := PkAt.own (base := w.heap.size) (by rw [HR.out]; exact ho1)
  clear ho1 R2
  obtain ⟨l, hll⟩ : ∃ l, rd zs n = l := ⟨_, rfl⟩
  rw [hll] at P1 HTH HR
  clear hll
  have hr := HR.out
  subst hr
  have p1 := P1.out
  obtain ⟨A1, c1, rfl, hu⟩ := p1
  have HU := Lib.hid hu
  clear hu HR
  have RF : Hid (∀ (W : World), Calls Try.prog 10 #[.slice A1 l.length c1, .int .i64 T0, .int .i64 k0] W fun e w' => e = .returned (.bool false) ∧ W = w') := fun W => fair_no (.bool false) _ _ W _ _ _ (by omega)
  have RG : Hid (∀ (W : World), Calls Try.prog 11 #[.slice A1 l.length c1, .int .i64 T0, .int .i64 k0] W fun e w' => e = .returned (.bool false) ∧ W = w') := fun W => rfair_no _ _ W _ _ _ (by omega)
  clear HU HTH P1
  have hT4 : ¬ T0 ≤ 4 := by omega
  have hd4 : decide (T0 ≤ 4) = false := by simpa using hT4
  have hT1 : 1 ≤ T0 := by omega
  rcases (show k0 ≤ l.length ∨ (l.length : Int) < k0 by omega) with hkl | hkl
  all_goals
    go_wp2_with fail
    go_loop [10, 11] (fun x i => x = .bool true ∧ i = .int .i64 0) (fun _ _ => 0)
    case atStart => exact ⟨rfl, rfl⟩
    case round =>
      obtain ⟨rfl, rfl⟩ := hrel
      go_wp2_with (first
        | (go_at_call 8; refine (told_any _).mono ?_; rintro e w2 ⟨rfl, hb2⟩)
        | (go_at_call 10; refine (RF.out _).mono ?_; rintro e w3 ⟨rfl, rfl⟩)
        | (go_at_call 11; refine (RG.out _).mono ?_; rintro e w4 ⟨rfl, rfl⟩))
      go_ret
      refine ⟨?_, Bth hb1 hb2⟩
      first | rfl | (rw [hd4]; rfl) | (simp only [hd4]; rfl) | (simp [hd4]; done)
theorem law_fair (A : Option Addr) (n cap : Nat) (zs : List Int) (T0 k0 : Int) (near : Bool) (w : World) (hl : zs.length = n) (hc : ∀ k, k < n → ∃ b off, A = some ⟨b, off, none⟩ ∧ b < w.heap.size ∧ w.cell? ⟨b, off + k, none⟩ = some (.int .u8 (zs.getD k 0)))
    (hz : ∀ z ∈ zs, (Lit.int .u8 z).wf = true) (hk : (Lit.int .i64 k0).wf = true) :
    Calls Try.prog 3 #[.slice A n cap, .int .i64 T0, .int .i64 k0, .bool near] w fun e w' => e = .returned (.bool true) ∧ Below w.heap.size w w' := by
  rcases Nat.lt_or_ge 60 n with h | h
  · exact fair_long A n cap T0 k0 near w h
  have hz' : ∀ k, k < n → 0 ≤ zs.getD k 0 ∧ zs.getD k 0 ≤ 255 := fun k hk => by
    have hm : zs.getD k 0 ∈ zs := by simp [List.getD, show k < zs.length by omega]
    have := hz _ hm
    simpa [Lit.wf, IntKind.min, IntKind.max, IntKind.signed, IntKind.bits] using this
  have hk' : -9223372036854775808 ≤ k0 ∧ k0 ≤ 9223372036854775807 := by
    simpa [Lit.wf, IntKind.min, IntKind.max, IntKind.signed, IntKind.bits] using hk
  cases near
  · by_cases a : k0 < 1
    · exact fair_outk A n cap zs T0 k0 w h hl hc hz' hk'.1 hk'.2 a
    · by_cases b : T0 < 1
      · exact fair_outT1 A n cap zs T0 k0 w h hl hc hz' hk'.1 hk'.2 (by omega) b
      · by_cases c : 4 < T0
        · exact fair_outT4 A n cap zs T0 k0 w h hl hc hz' hk'.1 hk'.2 (by omega) c
        · exact fair_raw A n cap zs T0 k0 w h hl hc hz' (by omega) (by omega) (by omega) hk'.2
  · exact fair_near A n cap zs T0 k0 w h hl hc hz'
end Go.Proofs.Ytbfoeinjopgnpaa
