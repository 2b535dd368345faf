/-
  Where it goes on: part of the proof that Next computes nextF.
-/
import Derived.Test.YtipkaloldlplgaaNextB
import Derived.Test.YtipkaloldlplgaaNextC
set_option linter.unusedVariables false
namespace Go.Proofs.Ytipkaloldlplgaa
open Go.RowKit
theorem next_any (l : List Ins) (u v : Value) (mt : List Int) (at' : Int) (r : Rg) (w : World) (hl : l.length ≤ 1048576) (hu : InsAt w u l) (hv : IntsAt w v mt) :
    Calls Try.prog 18 #[u, v, .int .i64 at', .agg #[.int .i64 r.a, .int .i64 r.b, .int .i64 r.c, .int .i64 r.d]] w fun e w' => e = .returned (outV (nextF l mt at' r)) ∧ Below w.heap.size w w' := by
  by_cases h0 : at' < 0
  · rw [show nextF l mt at' r = (at', r, false) from if_neg (by omega)]
    exact next_neg l u v mt at' r w hl hu hv h0
  by_cases h1 : (l.length : Int) ≤ at'
  · rw [show nextF l mt at' r = (at', r, false) from if_neg (by omega)]
    exact next_out l u v mt at' r w hl hu hv h1
  obtain ⟨k, rfl⟩ := Int.eq_ofNat_of_zero_le (show 0 ≤ at' by omega)
  obtain ⟨p, hp⟩ : ∃ p, l[k]? = some p := ⟨_, List.getElem?_eq_getElem (by omega)⟩
  have hg : l.getD (k : Int).toNat ⟨0, 0, 0, 0, 0⟩ = p := by simp [List.getD, hp]
  have e0 : nextF l mt k r = if mayB p && locB p.op then
      if isJmp p.op then
        if (k : Int) < mt.length ∧ 0 ≤ mt.getD k 0 ∧ mt.getD k 0 < l.length then
          if p.op = 22 then (mt.getD k 0, r, true)
          else if (p.op = 18 ∨ p.op = 21) ∧ r.get p.a ≠ 0 then ((k : Int) + 1, r, true) else (mt.getD k 0 + 1, r, true)
        else ((k : Int), r, false)
      else if p.op = 20 then ((k : Int) + 1, r, true)
      else ((k : Int) + 1, r.set p.a (valF p r), true)
    else ((k : Int), r, false) := by
    unfold nextF
    rw [if_pos (by omega), hg]
    rfl
  rw [e0]
  clear e0 hg
  cases hm : mayB p
  case false => exact next_may l u v mt k p r w hl hu hv hp hm
  cases ho : locB p.op
  case false => exact next_loc l u v mt k p r w hl hu hv hp hm ho
  rw [if_pos (by rfl)]
  cases hj : isJmp p.op
  case true =>
    rw [if_pos rfl]
    by_cases g1 : mt.length ≤ k
    · rw [if_neg (by omega)]
      exact next_m1 l u v mt k p r w hl hu hv hp hm ho hj g1
    obtain ⟨x, hx⟩ : ∃ x, mt[k]? = some x := ⟨_, List.getElem?_eq_getElem (by omega)⟩
    have hx' : mt.getD k 0 = x := by simp [List.getD, hx]
    rw [hx']
    by_cases g2 : x < 0
    · rw [if_neg (by omega)]
      exact next_m2 l u v mt k p r w hl hu hv hp hm ho hj x hx g2
    by_cases g3 : (l.length : Int) ≤ x
    · rw [if_neg (by omega)]
      exact next_m3 l u v mt k p r w hl hu hv hp hm ho hj x hx g2 g3
    rw [if_pos (by omega)]
    obtain ⟨op, pa, pb, pc, pn⟩ := p
    simp only [isJmp, decide_eq_true_eq] at hj
    rcases hj with rfl | rfl | rfl | rfl
    · obtain ⟨a0, a3⟩ := (may_reg _ hm).1 rfl
      simp only at a0 a3
      obtain ⟨a, rfl⟩ := Int.eq_ofNat_of_zero_le a0
      by_cases hr : r.get a = 0
      · exact next_j18n l u v mt k a x pb pc pn r w hl hu hv hp hm hx (by omega) (by omega) (by omega) hr |>.mono fun e w' h => ⟨by rw [h.1]; simp [hr], h.2⟩
      · exact next_j18y l u v mt k a x pb pc pn r w hl hu hv hp hm hx (by omega) (by omega) (by omega) hr |>.mono fun e w' h => ⟨by rw [h.1]; simp [hr], h.2⟩
    · exact next_j19 l u v mt k x pa pb pc pn r w hl hu hv hp hm hx (by omega) (by omega) |>.mono fun e w' h => ⟨by rw [h.1]; simp, h.2⟩
    · obtain ⟨a0, a3⟩ := (may_reg _ hm).1 rfl
      simp only at a0 a3
      obtain ⟨a, rfl⟩ := Int.eq_ofNat_of_zero_le a0
      by_cases hr : r.get a = 0
      · exact next_j21n l u v mt k a x pb pc pn r w hl hu hv hp hm hx (by omega) (by omega) (by omega) hr |>.mono fun e w' h => ⟨by rw [h.1]; simp [hr], h.2⟩
      · exact next_j21y l u v mt k a x pb pc pn r w hl hu hv hp hm hx (by omega) (by omega) (by omega) hr |>.mono fun e w' h => ⟨by rw [h.1]; simp [hr], h.2⟩
    · exact next_j22 l u v mt k x pa pb pc pn r w hl hu hv hp hm hx (by omega) (by omega) |>.mono fun e w' h => ⟨by rw [h.1]; simp, h.2⟩
  · rw [if_neg (by simp)]
    obtain ⟨op, pa, pb, pc, pn⟩ := p
    simp only at ho hj hm hp ⊢
    by_cases g : op = 20
    · subst g
      rw [if_pos rfl]
      exact next_e20 l u v mt k pa pb pc pn r w hl hu hv hp hm
    · rw [if_neg g]
      have h17 : 1 ≤ op ∧ op ≤ 7 := by
        simp only [locB, decide_eq_true_eq] at ho
        simp only [isJmp, decide_eq_false_iff_not] at hj
        omega
      have hs : shA op = 1 := by
        unfold shA
        by_cases e : op = 1
        · rw [if_pos e]
        · rw [if_neg e, if_pos (by omega)]
      obtain ⟨a0, a3⟩ := (may_reg _ hm).1 hs
      simp only at a0 a3
      obtain ⟨a, rfl⟩ := Int.eq_ofNat_of_zero_le a0
      exact next_set l u v mt k a op pb pc pn r w hl hu hv hp hm h17.1 h17.2 (by omega)
end Go.Proofs.Ytipkaloldlplgaa
