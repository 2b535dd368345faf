/-
  Where it goes on: the reference's function computes nextF too.
-/
import Derived.Test.YtipkaloldlplgaaRNextA
import Derived.Test.YtipkaloldlplgaaRNextB
import Derived.Test.YtipkaloldlplgaaRNextC
import Derived.Test.YtipkaloldlplgaaRNextD
import Derived.Test.YtipkaloldlplgaaRNextE
set_option linter.unusedVariables false
namespace Go.Proofs.Ytipkaloldlplgaa
open Go.RowKit
theorem rnext_any (l : List Ins) (u v : Value) (mt : List Int) (at' : Int) (r : Rg) (w : World) (hl : l.length ≤ 1048576) (hu : InsAt w u l) (hv : IntsAt w v mt) :
    Calls Try.prog 19 #[u, v, .int .i64 at', .agg #[.int .i64 r.a, .int .i64 r.b, .int .i64 r.c, .int .i64 r.d]] w fun e w' => e = .returned (outV (nextF l mt at' r)) ∧ Below w.heap.size w w' := by
  by_cases h0 : at' < 0
  · rw [show nextF l mt at' r = (at', r, false) from if_neg (by omega)]
    exact rnext_neg l u v mt at' r w hl hu hv h0
  by_cases h1 : (l.length : Int) ≤ at'
  · rw [show nextF l mt at' r = (at', r, false) from if_neg (by omega)]
    exact rnext_out l u v mt at' r w hl hu hv h1
  obtain ⟨k, rfl⟩ := Int.eq_ofNat_of_zero_le (show 0 ≤ at' by omega)
  obtain ⟨p, hp⟩ : ∃ p, l[k]? = some p := ⟨_, List.getElem?_eq_getElem (by omega)⟩
  have hg : l.getD (k : Int).toNat ⟨0, 0, 0, 0, 0⟩ = p := by simp [List.getD, hp]
  have e0 : nextF l mt k r = if mayB p && locB p.op then
      if isJmp p.op then
        if (k : Int) < mt.length ∧ 0 ≤ mt.getD k 0 ∧ mt.getD k 0 < l.length then
          if p.op = 22 then (mt.getD k 0, r, true)
          else if (p.op = 18 ∨ p.op = 21) ∧ r.get p.a ≠ 0 then ((k : Int) + 1, r, true) else (mt.getD k 0 + 1, r, true)
        else ((k : Int), r, false)
      else if p.op = 20 then ((k : Int) + 1, r, true)
      else ((k : Int) + 1, r.set p.a (valF p r), true)
    else ((k : Int), r, false) := by
    unfold nextF
    rw [if_pos (by omega), hg]
    rfl
  rw [e0]
  clear e0 hg
  cases hm : mayB p
  case false => exact rnext_may l u v mt k p r w hl hu hv hp hm
  cases ho : locB p.op
  case false => exact rnext_loc l u v mt k p r w hl hu hv hp hm ho
  rw [if_pos (by rfl)]
  cases hj : isJmp p.op
  case true =>
    rw [if_pos rfl]
    obtain ⟨op, pa, pb, pc, pn⟩ := p
    simp only [isJmp, decide_eq_true_eq] at hj
    rcases hj with rfl | rfl | rfl | rfl
    · obtain ⟨a0, a3⟩ := (may_reg _ hm).1 rfl
      simp only at a0 a3
      obtain ⟨a, rfl⟩ := Int.eq_ofNat_of_zero_le a0
      by_cases hr : r.get a = 0
      · by_cases g1 : mt.length ≤ k
        · rw [if_neg (by omega)]
          exact rnext_j18n_m1 l u v mt k a pb pc pn r w hl hu hv hp hm (by omega) hr g1
        obtain ⟨x, hx⟩ : ∃ x, mt[k]? = some x := ⟨_, List.getElem?_eq_getElem (by omega)⟩
        have hx' : mt.getD k 0 = x := by simp [List.getD, hx]
        rw [hx']
        by_cases g2 : x < 0
        · rw [if_neg (by omega)]
          exact rnext_j18n_m2 l u v mt k a pb pc pn x r w hl hu hv hp hm (by omega) hr hx g2
        by_cases g3 : (l.length : Int) ≤ x
        · rw [if_neg (by omega)]
          exact rnext_j18n_m3 l u v mt k a pb pc pn x r w hl hu hv hp hm (by omega) hr hx g2 g3
        rw [if_pos (by omega)]
        exact rnext_j18n_ok l u v mt k a pb pc pn x r w hl hu hv hp hm (by omega) hr hx (by omega) (by omega) |>.mono fun e w' h => ⟨by rw [h.1]; simp [hr], h.2⟩
      · by_cases g1 : mt.length ≤ k
        · rw [if_neg (by omega)]
          exact rnext_j18y_m1 l u v mt k a pb pc pn r w hl hu hv hp hm (by omega) hr g1
        obtain ⟨x, hx⟩ : ∃ x, mt[k]? = some x := ⟨_, List.getElem?_eq_getElem (by omega)⟩
        have hx' : mt.getD k 0 = x := by simp [List.getD, hx]
        rw [hx']
        by_cases g2 : x < 0
        · rw [if_neg (by omega)]
          exact rnext_j18y_m2 l u v mt k a pb pc pn x r w hl hu hv hp hm (by omega) hr hx g2
        by_cases g3 : (l.length : Int) ≤ x
        · rw [if_neg (by omega)]
          exact rnext_j18y_m3 l u v mt k a pb pc pn x r w hl hu hv hp hm (by omega) hr hx g2 g3
        rw [if_pos (by omega)]
        exact rnext_j18y_ok l u v mt k a pb pc pn x r w hl hu hv hp hm (by omega) hr hx (by omega) (by omega) |>.mono fun e w' h => ⟨by rw [h.1]; simp [hr], h.2⟩
    · by_cases g1 : mt.length ≤ k
      · rw [if_neg (by omega)]
        exact rnext_j19_m1 l u v mt k pa pb pc pn r w hl hu hv hp hm g1
      obtain ⟨x, hx⟩ : ∃ x, mt[k]? = some x := ⟨_, List.getElem?_eq_getElem (by omega)⟩
      have hx' : mt.getD k 0 = x := by simp [List.getD, hx]
      rw [hx']
      by_cases g2 : x < 0
      · rw [if_neg (by omega)]
        exact rnext_j19_m2 l u v mt k pa pb pc pn x r w hl hu hv hp hm hx g2
      by_cases g3 : (l.length : Int) ≤ x
      · rw [if_neg (by omega)]
        exact rnext_j19_m3 l u v mt k pa pb pc pn x r w hl hu hv hp hm hx g2 g3
      rw [if_pos (by omega)]
      exact rnext_j19_ok l u v mt k pa pb pc pn x r w hl hu hv hp hm hx (by omega) (by omega) |>.mono fun e w' h => ⟨by rw [h.1]; simp, h.2⟩
    · obtain ⟨a0, a3⟩ := (may_reg _ hm).1 rfl
      simp only at a0 a3
      obtain ⟨a, rfl⟩ := Int.eq_ofNat_of_zero_le a0
      by_cases hr : r.get a = 0
      · by_cases g1 : mt.length ≤ k
        · rw [if_neg (by omega)]
          exact rnext_j21n_m1 l u v mt k a pb pc pn r w hl hu hv hp hm (by omega) hr g1
        obtain ⟨x, hx⟩ : ∃ x, mt[k]? = some x := ⟨_, List.getElem?_eq_getElem (by omega)⟩
        have hx' : mt.getD k 0 = x := by simp [List.getD, hx]
        rw [hx']
        by_cases g2 : x < 0
        · rw [if_neg (by omega)]
          exact rnext_j21n_m2 l u v mt k a pb pc pn x r w hl hu hv hp hm (by omega) hr hx g2
        by_cases g3 : (l.length : Int) ≤ x
        · rw [if_neg (by omega)]
          exact rnext_j21n_m3 l u v mt k a pb pc pn x r w hl hu hv hp hm (by omega) hr hx g2 g3
        rw [if_pos (by omega)]
        exact rnext_j21n_ok l u v mt k a pb pc pn x r w hl hu hv hp hm (by omega) hr hx (by omega) (by omega) |>.mono fun e w' h => ⟨by rw [h.1]; simp [hr], h.2⟩
      · by_cases g1 : mt.length ≤ k
        · rw [if_neg (by omega)]
          exact rnext_j21y_m1 l u v mt k a pb pc pn r w hl hu hv hp hm (by omega) hr g1
        obtain ⟨x, hx⟩ : ∃ x, mt[k]? = some x := ⟨_, List.getElem?_eq_getElem (by omega)⟩
        have hx' : mt.getD k 0 = x := by simp [List.getD, hx]
        rw [hx']
        by_cases g2 : x < 0
        · rw [if_neg (by omega)]
          exact rnext_j21y_m2 l u v mt k a pb pc pn x r w hl hu hv hp hm (by omega) hr hx g2
        by_cases g3 : (l.length : Int) ≤ x
        · rw [if_neg (by omega)]
          exact rnext_j21y_m3 l u v mt k a pb pc pn x r w hl hu hv hp hm (by omega) hr hx g2 g3
        rw [if_pos (by omega)]
        exact rnext_j21y_ok l u v mt k a pb pc pn x r w hl hu hv hp hm (by omega) hr hx (by omega) (by omega) |>.mono fun e w' h => ⟨by rw [h.1]; simp [hr], h.2⟩
    · by_cases g1 : mt.length ≤ k
      · rw [if_neg (by omega)]
        exact rnext_j22_m1 l u v mt k pa pb pc pn r w hl hu hv hp hm g1
      obtain ⟨x, hx⟩ : ∃ x, mt[k]? = some x := ⟨_, List.getElem?_eq_getElem (by omega)⟩
      have hx' : mt.getD k 0 = x := by simp [List.getD, hx]
      rw [hx']
      by_cases g2 : x < 0
      · rw [if_neg (by omega)]
        exact rnext_j22_m2 l u v mt k pa pb pc pn x r w hl hu hv hp hm hx g2
      by_cases g3 : (l.length : Int) ≤ x
      · rw [if_neg (by omega)]
        exact rnext_j22_m3 l u v mt k pa pb pc pn x r w hl hu hv hp hm hx g2 g3
      rw [if_pos (by omega)]
      exact rnext_j22_ok l u v mt k pa pb pc pn x r w hl hu hv hp hm hx (by omega) (by omega) |>.mono fun e w' h => ⟨by rw [h.1]; simp, h.2⟩
  · rw [if_neg (by simp)]
    obtain ⟨op, pa, pb, pc, pn⟩ := p
    simp only at ho hj hm hp ⊢
    by_cases g : op = 20
    · subst g
      rw [if_pos rfl]
      exact rnext_e20 l u v mt k pa pb pc pn r w hl hu hv hp hm
    · rw [if_neg g]
      have h17 : 1 ≤ op ∧ op ≤ 7 := by
        simp only [locB, decide_eq_true_eq] at ho
        simp only [isJmp, decide_eq_false_iff_not] at hj
        omega
      have hs : shA op = 1 := by
        unfold shA
        by_cases e : op = 1
        · rw [if_pos e]
        · rw [if_neg e, if_pos (by omega)]
      obtain ⟨a0, a3⟩ := (may_reg _ hm).1 hs
      simp only at a0 a3
      obtain ⟨a, rfl⟩ := Int.eq_ofNat_of_zero_le a0
      by_cases e1 : op = 1
      · subst e1
        exact rnext_s1 l u v mt k a pb pc pn r w hl hu hv hp hm (by omega)
      have hsb : shB op = 1 := by unfold shB; rw [if_pos (by omega)]
      have hsc : shC op = 1 := by unfold shC; rw [if_pos (by omega)]
      obtain ⟨b0, b3⟩ := (may_reg _ hm).2.1 hsb
      obtain ⟨c0, c3⟩ := (may_reg _ hm).2.2.1 hsc
      simp only at b0 b3 c0 c3
      obtain ⟨b, rfl⟩ := Int.eq_ofNat_of_zero_le b0
      obtain ⟨c, rfl⟩ := Int.eq_ofNat_of_zero_le c0
      have : op = 2 ∨ op = 3 ∨ op = 4 ∨ op = 5 ∨ op = 6 ∨ op = 7 := by omega
      rcases this with rfl | rfl | rfl | rfl | rfl | rfl
      · exact rnext_s2 l u v mt k a b c pn r w hl hu hv hp hm (by omega) (by omega) (by omega)
      · exact rnext_s3 l u v mt k a b c pn r w hl hu hv hp hm (by omega) (by omega) (by omega)
      · exact rnext_s4 l u v mt k a b c pn r w hl hu hv hp hm (by omega) (by omega) (by omega)
      · exact rnext_s5 l u v mt k a b c pn r w hl hu hv hp hm (by omega) (by omega) (by omega)
      · exact rnext_s6 l u v mt k a b c pn r w hl hu hv hp hm (by omega) (by omega) (by omega)
      · exact rnext_s7 l u v mt k a b c pn r w hl hu hv hp hm (by omega) (by omega) (by omega)
def addrF (p : Ins) (r : Rg) : Int := if 0 ≤ p.b ∧ p.b ≤ 3 then wrap64 (r.get p.b + p.n) else -1
set_option maxHeartbeats 800000 in
theorem addr_any (op a b c n : Int) (r : Rg) (w : World) : Calls Try.prog 20 #[.agg #[.int .i64 op, .int .i64 a, .int .i64 b, .int .i64 c, .int .i64 n], .agg #[.int .i64 r.a, .int .i64 r.b, .int .i64 r.c, .int .i64 r.d]] w fun e w' => e = .returned (.int .i64 (addrF ⟨op, a, b, c, n⟩ r)) ∧ Below w.heap.size w w' := by
  by_cases h : 0 ≤ b ∧ b ≤ 3
  · obtain ⟨q, rfl⟩ := Int.eq_ofNat_of_zero_le h.1
    have hf : fitB 1 (q : Int) = true := decide_eq_true (by simp [fitM]; omega)
    have hv : addrF ⟨op, a, (q : Int), c, n⟩ r = wrap64 (r.get q + n) := if_pos h
    rw [hv]
    have x1 := rg_at r q (by omega)
    have q1 : (q : Int) < 4 := by omega
    have q2 : q < 4 := by omega
    generalize r.get q = u at x1 ⊢
    obtain ⟨s, hs⟩ : ∃ s, IntKind.i64.wrap (u + n) = s := ⟨_, rfl⟩
    have hs2 : wrap64 (u + n) = s := by rw [← hs, IntWalk.i64_left]
    rw [hs2]
    clear hv
    go_enter Try.func20, Try.ntmps20
    go_wp2_with (go_at_call 23; refine (fits_any _ _ _ (by omega) (by omega)).mono ?_; rintro e w' ⟨rfl, rfl⟩)
    go_quiet (fail)
    go_wp2_with fail
    go_ret
    exact ⟨rfl, drewN_below (Bal (Bal (Bre _) _) _) _⟩
  · have hf : fitB 1 b = false := decide_eq_false (by simp [fitM]; omega)
    have hv : addrF ⟨op, a, b, c, n⟩ r = -1 := if_neg h
    rw [hv]
    clear hv h
    go_enter Try.func20, Try.ntmps20
    go_wp2_with (go_at_call 23; refine (fits_any _ _ _ (by omega) (by omega)).mono ?_; rintro e w' ⟨rfl, rfl⟩)
    go_ret
    exact ⟨rfl, Bal (Bal (Bre _) _) _⟩
set_option maxHeartbeats 800000 in
theorem raddr_any (op a b c n : Int) (r : Rg) (w : World) : Calls Try.prog 21 #[.agg #[.int .i64 op, .int .i64 a, .int .i64 b, .int .i64 c, .int .i64 n], .agg #[.int .i64 r.a, .int .i64 r.b, .int .i64 r.c, .int .i64 r.d]] w fun e w' => e = .returned (.int .i64 (addrF ⟨op, a, b, c, n⟩ r)) ∧ Below w.heap.size w w' := by
  by_cases h1 : b < 0
  · have hv : addrF ⟨op, a, b, c, n⟩ r = -1 := if_neg (by intro h; have := h.1; simp only at this; omega)
    rw [hv]
    clear hv
    go_enter Try.func21, Try.ntmps21
    go_wp2_with fail
    go_ret
    exact ⟨rfl, Bal (Bal (Bre _) _) _⟩
  by_cases h2 : 4 ≤ b
  · have hv : addrF ⟨op, a, b, c, n⟩ r = -1 := if_neg (by intro h; have := h.2; simp only at this; omega)
    rw [hv]
    clear hv
    go_enter Try.func21, Try.ntmps21
    go_wp2_with fail
    go_ret
    exact ⟨rfl, Bal (Bal (Bre _) _) _⟩
  obtain ⟨q, rfl⟩ := Int.eq_ofNat_of_zero_le (show 0 ≤ b by omega)
  have hv : addrF ⟨op, a, (q : Int), c, n⟩ r = wrap64 (r.get q + n) := if_pos (by show 0 ≤ (q : Int) ∧ (q : Int) ≤ 3; omega)
  rw [hv]
  have x1 := rg_at r q (by omega)
  have q1 : (q : Int) < 4 := by omega
  have q2 : q < 4 := by omega
  generalize r.get q = u at x1 ⊢
  obtain ⟨s, hs⟩ : ∃ s, IntKind.i64.wrap (u + n) = s := ⟨_, rfl⟩
  have hs2 : wrap64 (u + n) = s := by rw [← hs, IntWalk.i64_left]
  rw [hs2]
  clear hv
  go_enter Try.func21, Try.ntmps21
  go_wp2_with fail
  go_quiet (fail)
  go_wp2_with fail
  go_ret
  exact ⟨rfl, drewN_below (Bal (Bal (Bre _) _) _) _⟩
end Go.Proofs.Ytipkaloldlplgaa
