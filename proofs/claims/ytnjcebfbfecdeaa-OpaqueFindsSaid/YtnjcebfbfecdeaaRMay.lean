/-
  Whether an order has each place once: the reference's way is the same.
-/
import Derived.Test.YtnjcebfbfecdeaaAtt
set_option linter.unusedVariables false
namespace Go.Proofs.Ytnjcebfbfecdeaa
open Go.RowKit
def sumC (l : List Int) : Nat → Nat
  | 0 => 0
  | n + 1 => sumC l n + l.count (n : Int)
theorem sumC_nil (n : Nat) : sumC [] n = 0 := by
  induction n with
  | zero => rfl
  | succ n ih => simp [sumC, ih]
theorem sumC_cons (x : Int) (l : List Int) (n : Nat) : sumC (x :: l) n = sumC l n + if 0 ≤ x ∧ x < n then 1 else 0 := by
  induction n with
  | zero => simp [sumC] <;> omega
  | succ n ih =>
    rw [sumC, ih, sumC, List.count_cons]
    by_cases e : x = (n : Int)
    · rw [if_neg (by omega), if_pos (by simpa using e), if_pos (by omega)]; omega
    · rw [if_neg (show ¬ (x == (n : Int)) = true by simpa using e)]
      by_cases h : 0 ≤ x ∧ x < (n : Int)
      · rw [if_pos h, if_pos (by omega)]; omega
      · rw [if_neg h, if_neg (by omega)]; omega
theorem sumC_in (n : Nat) (l : List Int) : sumC l n = (l.filter fun x => decide (0 ≤ x ∧ x < (n : Int))).length := by
  induction l with
  | nil => simp [sumC_nil]
  | cons x l ih =>
    rw [sumC_cons, ih, List.filter_cons]
    by_cases h : 0 ≤ x ∧ x < (n : Int)
    · simp [h]
    · simp [h]
theorem sumC_ones (l : List Int) (n : Nat) (h : ∀ i, i < n → l.count (i : Int) = 1) : sumC l n = n := by
  induction n with
  | zero => rfl
  | succ n ih => rw [sumC, ih (fun i hi => h i (by omega)), h n (by omega)]
theorem sumC_le (l : List Int) (n : Nat) (h : ∀ i, i < n → l.count (i : Int) ≤ 1) : sumC l n ≤ n := by
  induction n with
  | zero => simp [sumC]
  | succ n ih => have := ih (fun i hi => h i (by omega)); have := h n (by omega); rw [sumC]; omega
theorem sumC_all (l : List Int) (n : Nat) (h : ∀ i, i < n → l.count (i : Int) ≤ 1) (hs : sumC l n = n) : ∀ i, i < n → l.count (i : Int) = 1 := by
  induction n with
  | zero => intro i hi; omega
  | succ n ih =>
    rw [sumC] at hs
    have h1 := sumC_le l n (fun i hi => h i (by omega))
    have h2 := h n (by omega)
    intro i hi
    by_cases e : i = n
    · subst e; omega
    · exact ih (fun i hi => h i (by omega)) (by omega) i (by omega)
theorem may_counts (n : Nat) (ord : List Int) (hl : ord.length = n) : MayS n ord ↔ ∀ i, i < n → ord.count (i : Int) = 1 := by
  constructor
  · rintro ⟨_, h2, h3⟩
    refine sumC_all ord n (fun i _ => List.nodup_iff_count.1 h3 _) ?_
    rw [sumC_in, List.length_filter_eq_length_iff.2 (fun a ha => decide_eq_true (h2 a ha)), hl]
  · intro h
    have h1 := sumC_ones ord n h
    rw [sumC_in, ← hl] at h1
    have h2 : ∀ x ∈ ord, 0 ≤ x ∧ x < (n : Int) := fun x hx => by
      have := List.length_filter_eq_length_iff.1 h1 x hx
      rw [hl] at this
      exact of_decide_eq_true this
    refine ⟨hl, h2, List.nodup_iff_count.2 fun a => ?_⟩
    by_cases ha : a ∈ ord
    · obtain ⟨a0, a1⟩ := h2 a ha
      obtain ⟨k, rfl⟩ := Int.eq_ofNat_of_zero_le a0
      rw [h k (by omega)]; exact Nat.le_refl _
    · rw [List.count_eq_zero.2 ha]; omega
theorem count_take (l : List Int) (k : Nat) (x y : Int) (h : l[k]? = some x) : (l.take (k + 1)).count y = (l.take k).count y + if x = y then 1 else 0 := by
  rw [take_snoc l k x h, List.count_append, List.count_cons]
  simp
set_option maxHeartbeats 1600000 in
theorem rmay_any (A : Option Addr) (n c : Nat) (v : Value) (ord : List Int) (w : World) (hn : n ≤ 1048576) (hv : IntsAt w v ord) :
    Calls Try.prog 13 #[.slice A n c, v] w fun e w' => e = .returned (.bool (mayB n ord)) ∧ w = w' := by
  obtain ⟨B, c2, rfl, hcap, hv⟩ := hv
  have HV := Lib.hid hv
  clear hv
  by_cases hlen : ord.length = n
  case neg =>
    have hb : mayB n ord = false := decide_eq_false (fun h => hlen h.1)
    rw [hb]
    have hne : ((ord.length : Int) != (n : Int)) = true := by rw [bne_iff_ne]; omega
    clear hb hlen
    go_enter Try.func13, Try.ntmps13
    go_wp2_with fail
    go_ret
    exact ⟨rfl, rfl⟩
  have HM := Lib.hid (may_counts n ord hlen)
  subst hlen
  go_enter Try.func13, Try.ntmps13
  go_wp2_with fail
  go_loop [5] (fun i => ∃ k : Nat, k ≤ ord.length ∧ i = .int .i64 k ∧ Hid (∀ j, j < k → ord.count (j : Int) = 1)) (fun i => ord.length - (intOf i).toNat)
  case atStart => exact ⟨0, by omega, rfl, by show ∀ j, _; intro j hj; omega⟩
  case round =>
    obtain ⟨k, hk, rfl, hok⟩ := hrel
    by_cases hlt : k < ord.length
    · go_wp2_with fail
      go_loop [6, 7] (fun m i => ∃ q : Nat, q ≤ ord.length ∧ i = .int .i64 q ∧ m = .int .i64 ((ord.take q).count (k : Int) : Nat)) (fun _ i => ord.length - (intOf i).toNat)
      case atStart => exact ⟨0, by omega, rfl, by simp⟩
      case round =>
        obtain ⟨q, hq, rfl, rfl⟩ := hrel
        have hle : (ord.take q).count (k : Int) ≤ q := Nat.le_trans List.count_le_length (List.length_take_le _ _)
        by_cases hqt : q < ord.length
        · obtain ⟨x, hx⟩ : ∃ x, ord[q]? = some x := ⟨_, List.getElem?_eq_getElem hqt⟩
          obtain ⟨b, off, rfl, hb, x1⟩ := HV.out q x hx
          have HT := Lib.hid (count_take ord q x k hx)
          clear hx
          generalize (ord.take q).count (k : Int) = m at *
          by_cases e : x = (k : Int)
          · have e2 : (x == (k : Int)) = true := by simpa using e
            have HE := Lib.hid e
            clear e
            go_wp2_with fail
            exact ⟨⟨q + 1, by omega, by go_num, by rw [HT.out, if_pos HE.out]; go_num⟩, by (simp [intOf]) <;> omega⟩
          · have e2 : (x == (k : Int)) = false := by simpa using e
            have HE := Lib.hid e
            clear e
            go_wp2_with fail
            exact ⟨⟨q + 1, by omega, by go_num, by rw [HT.out, if_neg HE.out]; go_num⟩, by (simp [intOf]) <;> omega⟩
        · have hqe : Hid ((ord.take q).count (k : Int) = ord.count (k : Int)) := by
            show _ = _
            rw [List.take_of_length_le (by omega)]
          by_cases h1 : (ord.take q).count (k : Int) = 1
          · have e2 : (((ord.take q).count (k : Int) : Nat) : Int) = 1 := by omega
            rw [e2]
            have H1 := Lib.hid h1
            clear h1 e2 hle
            go_wp2_with fail
            exact ⟨⟨k + 1, by omega, by go_num, by
              show ∀ j, _
              intro j hj
              by_cases e : j = k
              · subst e; rw [← hqe.out]; exact H1.out
              · exact hok.out j (by omega)⟩, by (simp [intOf]) <;> omega⟩
          · have hb : Hid (mayB ord.length ord = false) := decide_eq_false (fun h => h1 (by rw [hqe.out]; exact HM.out.1 h k (by omega)))
            have e2 : ((((ord.take q).count (k : Int) : Nat) : Int) != 1) = true := by rw [bne_iff_ne]; omega
            generalize (ord.take q).count (k : Int) = m at *
            clear h1
            go_wp2_with fail
            go_ret
            exact ⟨by rw [hb.out]; rfl, rfl⟩
    · have hkn : k = ord.length := by omega
      have hb : Hid (mayB ord.length ord = true) := decide_eq_true (HM.out.2 (by rw [← hkn]; exact hok.out))
      go_wp2_with fail
      go_ret
      exact ⟨by rw [hb.out]; rfl, rfl⟩
end Go.Proofs.Ytnjcebfbfecdeaa
