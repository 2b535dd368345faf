/-
  Who ended ahead of another one's beginning stands ahead of it: two attempts.
-/
import Derived.Test.YtnjcebfbfecdeaaAtts
set_option linter.unusedVariables false
namespace Go.Proofs.Ytnjcebfbfecdeaa
open Go.RowKit Go.Maps
theorem ints2 {w : World} {b : Nat} {x y : Int} (hb : b < w.heap.size) (h : w.cell? ⟨b, 0, none⟩ = some (.int .i64 x)) (h' : w.cell? ⟨b, 1, none⟩ = some (.int .i64 y)) : IntsAt w (.slice (some ⟨b, 0, none⟩) 2 2) [x, y] := by
  refine ⟨_, _, rfl, by simp, fun i z hi => ?_⟩
  match i, hi with
  | 0, hi => simp at hi; subst hi; exact ⟨b, 0, rfl, hb, h⟩
  | 1, hi => simp at hi; subst hi; exact ⟨b, 0, rfl, hb, h'⟩
theorem time01 (p q : Att) (h : ¬ q.un < p.fr) : timeB [p, q] [0, 1] = true := by
  refine timeB_t ⟨by simp [MayS], fun k m hm hk => ?_⟩
  have h1 : k = 1 := by simp at hk; omega
  have h2 : m = 0 := by omega
  subst h1 h2
  simp [behB, h]
theorem time10 (p q : Att) (b : Bool) (h : behB p q = b) : timeB [p, q] [1, 0] = !b := by
  cases b with
  | true =>
    refine timeB_f (fun h0 => ?_)
    have := h0.2 1 0 (by omega) (by simp)
    simp at this
    rw [h] at this
    cases this
  | false =>
    refine timeB_t ⟨by simp [MayS], fun k m hm hk => ?_⟩
    have h1 : k = 1 := by simp at hk; omega
    have h2 : m = 0 := by omega
    subst h1 h2
    simpa using h
theorem time00 (p q : Att) : timeB [p, q] [0, 0] = false := timeB_f (fun h => absurd h.1 (by simp [MayS]))
theorem time0 (p q : Att) : timeB [p, q] [0] = false := timeB_f (fun h => absurd h.1 (by simp [MayS]))
set_option maxRecDepth 100000 in
set_option maxHeartbeats 6400000 in
theorem law_time (th fr lg en : Int) (real : Bool) (ops : Value) (m : Nat) (th' fr' lg' en' : Int) (real' : Bool) (ops' : Value) (m' : Nat) (gap : Int) (w : World)
    (w1 : wf64 th) (w2 : wf64 fr) (w3 : wf64 lg) (w4 : wf64 en) (ho : OpsAt w ops m) (w1' : wf64 th') (w2' : wf64 fr') (w3' : wf64 lg') (w4' : wf64 en') (ho' : OpsAt w ops' m') :
    Calls Try.prog 4 #[.agg #[.int .i64 th, .int .i64 fr, .int .i64 lg, .int .i64 en, .bool real, ops, .int .i64 th', .int .i64 fr', .int .i64 lg', .int .i64 en', .bool real', ops'], .int .i64 gap] w fun e w' => e = .returned (.bool true) ∧ Below w.heap.size w w' := by
  have HO := Lib.hid ho
  have HO' := Lib.hid ho'
  obtain ⟨Ao, co, rfl, hco, _⟩ := ho
  obtain ⟨Ao', co', rfl, hco', _⟩ := ho'
  by_cases hm : 6 < m
  case pos =>
    clear HO HO'
    go_enter Try.func4, Try.ntmps4
    go_wp2_with (go_at_call 9; refine (told_any _).mono ?_; rintro e w1 ⟨rfl, hb⟩)
    go_ret
    exact ⟨rfl, Bth (Bal (Bre _) _) hb⟩
  by_cases hm' : 6 < m'
  case pos =>
    clear HO HO'
    go_enter Try.func4, Try.ntmps4
    go_wp2_with (go_at_call 9; refine (told_any _).mono ?_; rintro e w1 ⟨rfl, hb⟩)
    go_ret
    exact ⟨rfl, Bth (Bal (Bre _) _) hb⟩
  obtain ⟨t, ht, e1, e2⟩ := umodI gap 11 11 rfl (by omega) (by omega)
  go_enter Try.func4, Try.ntmps4
  go_wp2_with fail
  · have htr : TrysAt (w.alloc (.cells #[.int .i64 th, .int .i64 fr, .int .i64 lg, .int .i64 en, .bool real, .slice Ao m co, .int .i64 th', .int .i64 fr', .int .i64 lg', .int .i64 en', .bool real', .slice Ao' m' co'] 41)) (.slice (some ⟨w.heap.size, 0, none⟩) 2 2) 2 (fun i => if i = 0 then m else m') := by
      refine ⟨_, _, rfl, Nat.le_refl _, fun i hi => ?_⟩
      rcases (by omega : i = 0 ∨ i = 1) with rfl | rfl
      · exact ⟨_, 0, th, fr, lg, en, real, _, rfl, by simp, w1, w2, w3, w4, HO.out.th (Bal (Bre _) _), by go_simp, by go_simp, by go_simp, by go_simp, by go_simp, by go_simp⟩
      · exact ⟨_, 0, th', fr', lg', en', real', _, rfl, by simp, w1', w2', w3', w4', HO'.out.th (Bal (Bre _) _), by go_simp, by go_simp, by go_simp, by go_simp, by go_simp, by go_simp⟩
    refine (attempts_any _ 2 _ 0 0 0 true _ htr (by decide) (fun i hi => by show (if i = 0 then m else m') ≤ 6; split <;> omega)).mono ?_
    clear htr
    rintro e W ⟨v, rows, rfl, hO, hlen, hB, hG⟩
    dsimp only
    have hb1 := Bth (Bal (Bre w) _) hB
    have hO := hO.mono (base' := w.heap.size) (by simp)
    match rows, hlen with
    | [r0, r1], _ =>
      obtain ⟨A, c, rfl, hc⟩ := own_form hO.out
      obtain ⟨b, hvb, hA, hbl, -⟩ := own_at hO.out 0 (by simp)
      obtain rfl := hA _ _ _ rfl
      have ht0 : r0.p.tr = 1 := (hG 0 r0.p rfl).tr
      have ht1 : r1.p.tr = 2 := (hG 1 r1.p rfl).tr
      have hwb := (hO.out.lt b rfl).1
      have hl2 : [r0, r1].length = 2 := rfl
      rw [hl2] at hO
      rw [hl2]
      have f3 := hO.out.frozenAt 3
      have f4 := hO.out.frozenAt 4
      have f15 := hO.out.frozenAt 15
      have f16 := hO.out.frozenAt 16
      have c3 : W.cell? ⟨b, 3, none⟩ = some (.int .i64 r0.p.fr) := hO.out.cellAt 3 (by decide)
      have c4 : W.cell? ⟨b, 4, none⟩ = some (.int .i64 r0.p.un) := hO.out.cellAt 4 (by decide)
      have c15 : W.cell? ⟨b, 15, none⟩ = some (.int .i64 r1.p.fr) := hO.out.cellAt 15 (by decide)
      have c16 : W.cell? ⟨b, 16, none⟩ = some (.int .i64 r1.p.un) := hO.out.cellAt 16 (by decide)
      have c5 : W.cell? ⟨b, 5, none⟩ = some (.int .i64 r0.p.en) := hO.out.cellAt 5 (by decide)
      have ew : wrap64 (t + 20) = t + 20 := w64_in (by clear e1 e2; omega)
      have htw : IntKind.i64.wrap t = t := IntWalk.i64_in _ (by clear e1 e2 ew; omega)
      have H1 := hO.put hvb 0 3 r0 { r0.p with fr := 0 } (.int .i64 0) rfl (by decide) rfl rfl rfl rfl
      have H2 := H1.put hvb 0 4 _ { r0.p with fr := 0, un := 5 } (.int .i64 5) rfl (by decide) rfl rfl rfl rfl
      have H3 := H2.put hvb 1 3 r1 { r1.p with fr := t } (.int .i64 t) rfl (by decide) rfl rfl rfl rfl
      have H4 := H3.put hvb 1 4 _ { r1.p with fr := t, un := t + 20 } (.int .i64 (t + 20)) rfl (by decide) rfl rfl rfl rfl
      have HAT : Hid (AttsAt ((((W.setCell ⟨b, 3, none⟩ (.int .i64 0)).setCell ⟨b, 4, none⟩ (.int .i64 5)).setCell ⟨b, 15, none⟩ (.int .i64 t)).setCell ⟨b, 16, none⟩ (.int .i64 (t + 20))) (.slice (some ⟨b, 0, none⟩) 2 c) [{ r0.p with fr := 0, un := 5 }, { r1.p with fr := t, un := t + 20 }]) := H4.atts
      have HBW : Hid (Below w.heap.size w ((((W.setCell ⟨b, 3, none⟩ (.int .i64 0)).setCell ⟨b, 4, none⟩ (.int .i64 5)).setCell ⟨b, 15, none⟩ (.int .i64 t)).setCell ⟨b, 16, none⟩ (.int .i64 (t + 20)))) := Bset (Bset (Bset (Bset hb1 hwb _) hwb _) hwb _) hwb _
      have hT01 := Lib.hid (time01 { r0.p with fr := 0, un := 5 } { r1.p with fr := t, un := t + 20 } (by show ¬ t + 20 < 0; clear e1 e2 ew htw; omega))
      have hT00 := Lib.hid (time00 { r0.p with fr := 0, un := 5 } { r1.p with fr := t, un := t + 20 })
      have hT0 := Lib.hid (time0 { r0.p with fr := 0, un := 5 } { r1.p with fr := t, un := t + 20 })
      have key : ((r0.p.en != 0) = true ∧ 5 < t ∧ Hid (timeB [{ r0.p with fr := 0, un := 5 }, { r1.p with fr := t, un := t + 20 }] [1, 0] = false)) ∨ ((r0.p.en != 0) = true ∧ ¬ 5 < t ∧ Hid (timeB [{ r0.p with fr := 0, un := 5 }, { r1.p with fr := t, un := t + 20 }] [1, 0] = true)) ∨ ((r0.p.en != 0) = false ∧ Hid (timeB [{ r0.p with fr := 0, un := 5 }, { r1.p with fr := t, un := t + 20 }] [1, 0] = true)) := by
        by_cases h0 : r0.p.en = 0
        · exact Or.inr (Or.inr ⟨by simp [h0], time10 _ _ false (by simp [behB, h0])⟩)
        · by_cases h5 : 5 < t
          · exact Or.inl ⟨by simp [h0], h5, time10 _ _ true (by simp [behB, h0, h5, ht0, ht1])⟩
          · exact Or.inr (Or.inl ⟨by simp [h0], h5, time10 _ _ false (by simp [behB, h5])⟩)
      clear H1 H2 H3 H4 hO hG hB HO HO' hvb hA hlen hc ht0 ht1
      rcases key with ⟨h0, h5, hT10⟩ | ⟨h0, h5, hT10⟩ | ⟨h0, hT10⟩
      all_goals
        go_wp2_with fail
        clear f3 f4 f15 f16 c3 c4 c15 c16 c5 ew htw e1 e2
        generalize ((((W.setCell ⟨b, 3, none⟩ (.int .i64 0)).setCell ⟨b, 4, none⟩ (.int .i64 5)).setCell ⟨b, 15, none⟩ (.int .i64 t)).setCell ⟨b, 16, none⟩ (.int .i64 (t + 20))) = W4 at *
        refine (told_any _).mono ?_
        rintro e W5 ⟨rfl, hb5⟩
        dsimp only
        have k5 := hb5
        clear hb5
        go_wp2_with fail
        refine (timely_any _ _ _ [0, 1] _ (by simp) (HAT.out.th (Bal k5 _)) (ints2 (by go_simp) (by go_simp) (by go_simp))).mono ?_
        rintro e W6 ⟨rfl, hb6⟩
        rw [hT01.out]
        dsimp only
        have k6 := Bth (Bal k5 _) hb6
        clear hb6
        go_wp2_with fail
        refine (timely_any _ _ _ [1, 0] _ (by simp) (HAT.out.th (Bal k6 _)) (ints2 (by go_simp) (by go_simp) (by go_simp))).mono ?_
        rintro e W7 ⟨rfl, hb7⟩
        rw [hT10.out]
        dsimp only
        have k7 := Bth (Bal k6 _) hb7
        clear hb7
        go_wp2_with fail
        refine (timely_any _ _ _ [0, 0] _ (by simp) (HAT.out.th (Bal k7 _)) (ints2 (by go_simp) (by go_simp) (by go_simp))).mono ?_
        rintro e W8 ⟨rfl, hb8⟩
        rw [hT00.out]
        dsimp only
        have k8 := Bth (Bal k7 _) hb8
        clear hb8
        go_wp2_with fail
        refine (timely_any _ _ _ [0] _ (by simp) (HAT.out.th (Bal k8 _)) (ints1 (by go_simp) (by go_simp))).mono ?_
        rintro e W9 ⟨rfl, hb9⟩
        rw [hT0.out]
        dsimp only
        have k9 := Bth (Bal k8 _) hb9
        clear hb9
        go_wp2_with fail
        go_ret
        exact ⟨rfl, Bth HBW.out k9⟩
end Go.Proofs.Ytnjcebfbfecdeaa
