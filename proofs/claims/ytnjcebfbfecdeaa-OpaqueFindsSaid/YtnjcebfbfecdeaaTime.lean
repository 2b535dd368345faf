/-
  Who must be ahead of whom; whether an order keeps time: the program's and the reference's functions.
-/
import Derived.Test.YtnjcebfbfecdeaaRMay
set_option linter.unusedVariables false
namespace Go.Proofs.Ytnjcebfbfecdeaa
open Go.RowKit
def behB (p q : Att) : Bool := decide (0 < p.tr ∧ 0 < q.tr ∧ p.en ≠ 0 ∧ p.un < q.fr)
set_option maxHeartbeats 800000 in
theorem beh_any (p q : Att) (v1 v2 v3 v4 v5 v6 : Value) (w : World) :
    Calls Try.prog 24 #[.agg #[.int .i64 p.th, .int .i64 p.tr, .bool p.real, .int .i64 p.fr, .int .i64 p.un, .int .i64 p.en, .int .i64 p.st, .int .i64 p.sp, v1, v2, v3, .slice none 0 0],
      .agg #[.int .i64 q.th, .int .i64 q.tr, .bool q.real, .int .i64 q.fr, .int .i64 q.un, .int .i64 q.en, .int .i64 q.st, .int .i64 q.sp, v4, v5, v6, .slice none 0 0]] w fun e w' => e = .returned (.bool (behB p q)) ∧ Below w.heap.size w w' := by
  by_cases h1 : 0 < p.tr
  case neg =>
    have hb : behB p q = false := decide_eq_false (fun h => h1 h.1)
    rw [hb]; clear hb
    go_enter Try.func24, Try.ntmps24
    go_wp2_with fail
    go_ret
    exact ⟨rfl, Bal (Bal (Bre _) _) _⟩
  by_cases h2 : 0 < q.tr
  case neg =>
    have hb : behB p q = false := decide_eq_false (fun h => h2 h.2.1)
    rw [hb]; clear hb
    go_enter Try.func24, Try.ntmps24
    go_wp2_with fail
    go_ret
    exact ⟨rfl, Bal (Bal (Bre _) _) _⟩
  by_cases h3 : p.en = 0
  case pos =>
    have hb : behB p q = false := decide_eq_false (fun h => h.2.2.1 h3)
    have h4 : (p.en != 0) = false := by simp [h3]
    rw [hb]; clear hb h3
    go_enter Try.func24, Try.ntmps24
    go_wp2_with fail
    go_ret
    exact ⟨rfl, Bal (Bal (Bre _) _) _⟩
  have h4 : (p.en != 0) = true := by rw [bne_iff_ne]; exact h3
  by_cases h5 : p.un < q.fr
  case neg =>
    have hb : behB p q = false := decide_eq_false (fun h => h5 h.2.2.2)
    rw [hb]; clear hb h3
    go_enter Try.func24, Try.ntmps24
    go_wp2_with fail
    go_ret
    exact ⟨rfl, Bal (Bal (Bre _) _) _⟩
  have hb : behB p q = true := decide_eq_true ⟨h1, h2, h3, h5⟩
  rw [hb]; clear hb h3
  go_enter Try.func24, Try.ntmps24
  go_wp2_with fail
  go_ret
  exact ⟨rfl, Bal (Bal (Bre _) _) _⟩
def dA : Att := ⟨0, 0, false, 0, 0, 0, 0, 0, [], [], []⟩
def TimeS (l : List Att) (ord : List Int) : Prop := MayS l.length ord ∧ ∀ k m : Nat, m < k → k < ord.length → behB (l.getD (ord.getD k 0).toNat dA) (l.getD (ord.getD m 0).toNat dA) = false
open Classical in
noncomputable def timeB (l : List Att) (ord : List Int) : Bool := decide (TimeS l ord)
theorem timeB_t {l : List Att} {ord : List Int} (h : TimeS l ord) : timeB l ord = true := by simp [timeB, h]
theorem timeB_f {l : List Att} {ord : List Int} (h : ¬ TimeS l ord) : timeB l ord = false := by simp [timeB, h]
theorem ord_at {n : Nat} {ord : List Int} (h : MayS n ord) (k : Nat) (hk : k < ord.length) : ∃ q : Nat, ord[k]? = some (q : Int) ∧ q < n := by
  have hx := List.getElem?_eq_getElem hk
  obtain ⟨a, b⟩ := h.2.1 _ (List.getElem_mem hk)
  obtain ⟨q, hq⟩ := Int.eq_ofNat_of_zero_le a
  exact ⟨q, by rw [hx, hq], by omega⟩
theorem att_at (l : List Att) (ord : List Int) (k q : Nat) (p : Att) (h1 : ord[k]? = some (q : Int)) (h2 : l[q]? = some p) : l.getD (ord.getD k 0).toNat dA = p := by
  simp [List.getD, h1, h2]
set_option maxHeartbeats 3200000 in
theorem timely_any (u v : Value) (l : List Att) (ord : List Int) (w : World) (hl : l.length ≤ 1048576) (hu : AttsAt w u l) (hv : IntsAt w v ord) :
    Calls Try.prog 16 #[u, v] w fun e w' => e = .returned (.bool (timeB l ord)) ∧ Below w.heap.size w w' := by
  obtain ⟨A, c1, rfl, hc1, hu⟩ := hu
  have HV0 := Lib.hid hv
  obtain ⟨B, c2, rfl, hc2, hv⟩ := hv
  have HV := Lib.hid hv
  have HU := Lib.hid hu
  clear hv hu
  by_cases hm : MayS l.length ord
  case neg =>
    have hb : mayB l.length ord = false := decide_eq_false hm
    have ht : Hid (timeB l ord = false) := timeB_f (fun h => hm h.1)
    clear hm
    go_enter Try.func16, Try.ntmps16
    go_wp2_with (go_at_call 12; refine (may_any _ _ _ _ ord _ hl HV0.out).mono ?_; rintro e w1 ⟨rfl, hb1⟩)
    go_ret
    exact ⟨by rw [ht.out]; rfl, hb1⟩
  have hb : mayB l.length ord = true := decide_eq_true hm
  have hlo : ord.length = l.length := hm.1
  have HM := Lib.hid hm
  clear hm
  have hol : ord.length ≤ 1048576 := by omega
  have HLO := Lib.hid hlo
  clear hlo
  go_enter Try.func16, Try.ntmps16
  go_wp2_with (go_at_call 12; refine (may_any _ _ _ _ ord _ hl HV0.out).mono ?_; rintro e w1 ⟨rfl, hb1⟩)
  clear hb
  go_loopw [15] (fun i wr => ∃ k : Nat, k ≤ ord.length ∧ i = .int .i64 k ∧ Below w.heap.size w wr ∧ Hid (∀ a m : Nat, m < a → a < k → behB (l.getD (ord.getD a 0).toNat dA) (l.getD (ord.getD m 0).toNat dA) = false)) (fun i _ => ord.length - (intOf i).toNat)
  case atStart => exact ⟨0, by omega, rfl, hb1, by show ∀ a m, _; intro a m h1 h2; omega⟩
  case round =>
    obtain ⟨k, hk, rfl, hbel, hok⟩ := hrel
    by_cases hlt : k < ord.length
    · obtain ⟨x, hx, hxl⟩ := ord_at HM.out k hlt
      obtain ⟨p, hp⟩ : ∃ p, l[x]? = some p := ⟨_, List.getElem?_eq_getElem hxl⟩
      obtain ⟨b, off, rfl, hbb, o1⟩ := HV.out k _ hx
      obtain ⟨b2, off2, vr, vw, vs, rfl, hb2, _, hc⟩ := HU.out x p hp
      have HA := Lib.hid (att_at l ord k x p hx hp)
      have HC := Lib.hid hc
      have o2 := (hbel.cell (p := ⟨b, off + k, none⟩) hbb).trans o1
      have hkc : (k : Int) ≤ c2 := by omega
      clear o1 hx hp hc
      go_wp2_with fail
      go_loopw [24] (fun i wr => ∃ m : Nat, m ≤ k ∧ i = .int .i64 m ∧ Below w.heap.size w wr ∧ Hid (∀ a : Nat, a < m → behB p (l.getD (ord.getD a 0).toNat dA) = false)) (fun i _ => k - (intOf i).toNat)
      case atStart => exact ⟨0, by omega, rfl, hbel, by show ∀ a, _; intro a h1; omega⟩
      case round =>
        obtain ⟨m, hm, rfl, hbel2, hok2⟩ := hrel
        by_cases hmk : m < k
        · obtain ⟨y, hy, hyl⟩ := ord_at HM.out m (by omega)
          obtain ⟨q, hq⟩ : ∃ q, l[y]? = some q := ⟨_, List.getElem?_eq_getElem hyl⟩
          obtain ⟨b', off', hbe, hbb', o3⟩ := HV.out m _ hy
          injection hbe with hbe
          injection hbe with e1 e2
          subst e1 e2
          obtain ⟨b2', off2', vr', vw', vs', hbe2, hb2', _, hc'⟩ := HU.out y q hq
          injection hbe2 with hbe2
          injection hbe2 with e3 e4
          subst e3 e4
          have HA' := Lib.hid (att_at l ord m y q hy hq)
          have HC' := Lib.hid hc'
          have o4 := (hbel2.cell (p := ⟨b, off + m, none⟩) hbb).trans o3
          have hxi : (x : Int) < l.length := by omega
          have hyi : (y : Int) < l.length := by omega
          have hb2r : b2 < wr.heap.size := Nat.lt_of_lt_of_le hb2 hbel2.size
          clear o3 hy hq hc' o2
          have x0 : wr.cell? ⟨b2, off2 + x * 12, none⟩ = some (.int .i64 p.th) := (hbel2.cell (p := ⟨b2, off2 + x * 12, none⟩) hb2).trans (HC.out 0 _ rfl)
          have x1 : wr.cell? ⟨b2, off2 + x * 12 + 1, none⟩ = some (.int .i64 p.tr) := (hbel2.cell (p := ⟨b2, off2 + x * 12 + 1, none⟩) hb2).trans (HC.out 1 _ rfl)
          have x2 : wr.cell? ⟨b2, off2 + x * 12 + 2, none⟩ = some (.bool p.real) := (hbel2.cell (p := ⟨b2, off2 + x * 12 + 2, none⟩) hb2).trans (HC.out 2 _ rfl)
          have x3 : wr.cell? ⟨b2, off2 + x * 12 + 3, none⟩ = some (.int .i64 p.fr) := (hbel2.cell (p := ⟨b2, off2 + x * 12 + 3, none⟩) hb2).trans (HC.out 3 _ rfl)
          have x4 : wr.cell? ⟨b2, off2 + x * 12 + 4, none⟩ = some (.int .i64 p.un) := (hbel2.cell (p := ⟨b2, off2 + x * 12 + 4, none⟩) hb2).trans (HC.out 4 _ rfl)
          have x5 : wr.cell? ⟨b2, off2 + x * 12 + 5, none⟩ = some (.int .i64 p.en) := (hbel2.cell (p := ⟨b2, off2 + x * 12 + 5, none⟩) hb2).trans (HC.out 5 _ rfl)
          have x6 : wr.cell? ⟨b2, off2 + x * 12 + 6, none⟩ = some (.int .i64 p.st) := (hbel2.cell (p := ⟨b2, off2 + x * 12 + 6, none⟩) hb2).trans (HC.out 6 _ rfl)
          have x7 : wr.cell? ⟨b2, off2 + x * 12 + 7, none⟩ = some (.int .i64 p.sp) := (hbel2.cell (p := ⟨b2, off2 + x * 12 + 7, none⟩) hb2).trans (HC.out 7 _ rfl)
          have x8 : wr.cell? ⟨b2, off2 + x * 12 + 8, none⟩ = some (vr) := (hbel2.cell (p := ⟨b2, off2 + x * 12 + 8, none⟩) hb2).trans (HC.out 8 _ rfl)
          have x9 : wr.cell? ⟨b2, off2 + x * 12 + 9, none⟩ = some (vw) := (hbel2.cell (p := ⟨b2, off2 + x * 12 + 9, none⟩) hb2).trans (HC.out 9 _ rfl)
          have x10 : wr.cell? ⟨b2, off2 + x * 12 + 10, none⟩ = some (vs) := (hbel2.cell (p := ⟨b2, off2 + x * 12 + 10, none⟩) hb2).trans (HC.out 10 _ rfl)
          have x11 : wr.cell? ⟨b2, off2 + x * 12 + 11, none⟩ = some (.slice none 0 0) := (hbel2.cell (p := ⟨b2, off2 + x * 12 + 11, none⟩) hb2).trans (HC.out 11 _ rfl)
          have y0 : wr.cell? ⟨b2, off2 + y * 12, none⟩ = some (.int .i64 q.th) := (hbel2.cell (p := ⟨b2, off2 + y * 12, none⟩) hb2).trans (HC'.out 0 _ rfl)
          have y1 : wr.cell? ⟨b2, off2 + y * 12 + 1, none⟩ = some (.int .i64 q.tr) := (hbel2.cell (p := ⟨b2, off2 + y * 12 + 1, none⟩) hb2).trans (HC'.out 1 _ rfl)
          have y2 : wr.cell? ⟨b2, off2 + y * 12 + 2, none⟩ = some (.bool q.real) := (hbel2.cell (p := ⟨b2, off2 + y * 12 + 2, none⟩) hb2).trans (HC'.out 2 _ rfl)
          have y3 : wr.cell? ⟨b2, off2 + y * 12 + 3, none⟩ = some (.int .i64 q.fr) := (hbel2.cell (p := ⟨b2, off2 + y * 12 + 3, none⟩) hb2).trans (HC'.out 3 _ rfl)
          have y4 : wr.cell? ⟨b2, off2 + y * 12 + 4, none⟩ = some (.int .i64 q.un) := (hbel2.cell (p := ⟨b2, off2 + y * 12 + 4, none⟩) hb2).trans (HC'.out 4 _ rfl)
          have y5 : wr.cell? ⟨b2, off2 + y * 12 + 5, none⟩ = some (.int .i64 q.en) := (hbel2.cell (p := ⟨b2, off2 + y * 12 + 5, none⟩) hb2).trans (HC'.out 5 _ rfl)
          have y6 : wr.cell? ⟨b2, off2 + y * 12 + 6, none⟩ = some (.int .i64 q.st) := (hbel2.cell (p := ⟨b2, off2 + y * 12 + 6, none⟩) hb2).trans (HC'.out 6 _ rfl)
          have y7 : wr.cell? ⟨b2, off2 + y * 12 + 7, none⟩ = some (.int .i64 q.sp) := (hbel2.cell (p := ⟨b2, off2 + y * 12 + 7, none⟩) hb2).trans (HC'.out 7 _ rfl)
          have y8 : wr.cell? ⟨b2, off2 + y * 12 + 8, none⟩ = some (vr') := (hbel2.cell (p := ⟨b2, off2 + y * 12 + 8, none⟩) hb2).trans (HC'.out 8 _ rfl)
          have y9 : wr.cell? ⟨b2, off2 + y * 12 + 9, none⟩ = some (vw') := (hbel2.cell (p := ⟨b2, off2 + y * 12 + 9, none⟩) hb2).trans (HC'.out 9 _ rfl)
          have y10 : wr.cell? ⟨b2, off2 + y * 12 + 10, none⟩ = some (vs') := (hbel2.cell (p := ⟨b2, off2 + y * 12 + 10, none⟩) hb2).trans (HC'.out 10 _ rfl)
          have y11 : wr.cell? ⟨b2, off2 + y * 12 + 11, none⟩ = some (.slice none 0 0) := (hbel2.cell (p := ⟨b2, off2 + y * 12 + 11, none⟩) hb2).trans (HC'.out 11 _ rfl)
          go_wp2_with fail
          refine wp_region_aft_lit (by kernel_rfl) (by kernel_rfl) ?_
          repeat (go_big_quiet_step ((go_at_call 24; exact Calls.aft_of _ (beh_any _ _ _ _ _ _ _ _ _))))
          refine wpQuiet_nil ?_
          rintro _ ⟨z, rfl⟩
          have hbz : Below w.heap.size w z.w := Bth hbel2 z.h
          cases hbq : behB p q
          case true =>
            have ht : Hid (timeB l ord = false) := timeB_f (fun h => by
              have := h.2 k m hmk hlt
              rw [HA.out, HA'.out, hbq] at this
              exact absurd this (by decide))
            go_wp2_with fail
            go_ret
            exact ⟨by rw [ht.out]; rfl, hbz⟩
          case false =>
            have hnx : Hid (∀ a : Nat, a < m + 1 → behB p (l.getD (ord.getD a 0).toNat dA) = false) := by
              show ∀ a, _
              intro a ha
              by_cases e : a = m
              · subst e; rw [HA'.out]; exact hbq
              · exact hok2.out a (by omega)
            go_wp2_with fail
            exact ⟨⟨m + 1, by omega, by go_num, hbz, hnx⟩, by (simp [intOf]) <;> omega⟩
        · have hnx : Hid (∀ a m : Nat, m < a → a < k + 1 → behB (l.getD (ord.getD a 0).toNat dA) (l.getD (ord.getD m 0).toNat dA) = false) := by
            show ∀ a m, _
            intro a m' h1 h2
            by_cases e : a = k
            · subst e; rw [HA.out]; exact hok2.out m' (by omega)
            · exact hok.out a m' h1 (by omega)
          go_wp2_with fail
          exact ⟨⟨k + 1, by omega, by go_num, hbel2, hnx⟩, by (simp [intOf]) <;> omega⟩
    · have ht : Hid (timeB l ord = true) := timeB_t ⟨HM.out, fun a m h1 h2 => hok.out a m h1 (by omega)⟩
      go_wp2_with fail
      go_ret
      exact ⟨by rw [ht.out]; rfl, hbel⟩
end Go.Proofs.Ytnjcebfbfecdeaa
