/-
  Whether an order keeps time: the reference's function.
-/
import Derived.Test.YtnjcebfbfecdeaaTime
import Derived.Deep.RegionHeld3
set_option linter.unusedVariables false
namespace Go.Proofs.Ytnjcebfbfecdeaa
open Go.RowKit
set_option maxRecDepth 100000 in
set_option maxHeartbeats 6400000 in
theorem rtimely_any (u v : Value) (l : List Att) (ord : List Int) (w : World) (hl : l.length ≤ 1048576) (hu : AttsAt w u l) (hv : IntsAt w v ord) :
    Calls Try.prog 17 #[u, v] w fun e w' => e = .returned (.bool (timeB l ord)) ∧ Below w.heap.size w w' := by
  obtain ⟨A, c1, rfl, hc1, hu⟩ := hu
  have HV0 := Lib.hid hv
  obtain ⟨B, c2, rfl, hc2, hv⟩ := hv
  have HV := Lib.hid hv
  have HU := Lib.hid hu
  clear hv hu
  by_cases hm : MayS l.length ord
  case neg =>
    have hb : mayB l.length ord = false := decide_eq_false hm
    have ht : Hid (timeB l ord = false) := timeB_f (fun h => hm h.1)
    clear hm
    go_enter Try.func17, Try.ntmps17
    go_wp2_with (go_at_call 13; refine (rmay_any _ _ _ _ ord _ hl HV0.out).mono ?_; rintro e w1 ⟨rfl, rfl⟩)
    go_ret
    exact ⟨by rw [ht.out]; rfl, Bre _⟩
  have hb : mayB l.length ord = true := decide_eq_true hm
  have hlo : ord.length = l.length := hm.1
  have HM := Lib.hid hm
  clear hm
  have hol : ord.length ≤ 1048576 := by omega
  have HLO := Lib.hid hlo
  clear hlo
  go_enter Try.func17, Try.ntmps17
  go_wp2_with (go_at_call 13; refine (rmay_any _ _ _ _ ord _ hl HV0.out).mono ?_; rintro e w1 ⟨rfl, rfl⟩)
  clear hb
  go_loopw [5] (fun i wr => ∃ k : Nat, k ≤ ord.length ∧ i = .int .i64 k ∧ Below w.heap.size w wr ∧ Hid (∀ a m : Nat, m < a → a < k → behB (l.getD (ord.getD a 0).toNat dA) (l.getD (ord.getD m 0).toNat dA) = false)) (fun i _ => ord.length - (intOf i).toNat)
  case atStart => exact ⟨0, by omega, rfl, Bre _, by show ∀ a m, _; intro a m h1 h2; omega⟩
  case round =>
    obtain ⟨k, hk, rfl, hbel, hok⟩ := hrel
    by_cases hlt : k < ord.length
    · obtain ⟨x, hx, hxl⟩ := ord_at HM.out k hlt
      obtain ⟨p, hp⟩ : ∃ p, l[x]? = some p := ⟨_, List.getElem?_eq_getElem hxl⟩
      obtain ⟨b, off, rfl, hbb, o1⟩ := HV.out k _ hx
      obtain ⟨b2, off2, vr, vw, vs, rfl, hb2, hav, hc⟩ := HU.out x p hp
      obtain ⟨⟨Ar, cr, rfl, _, _⟩, ⟨Aw, cw, rfl, _, _⟩, ⟨As, cs, rfl, _, _⟩⟩ := hav
      have HA := Lib.hid (att_at l ord k x p hx hp)
      have HC := Lib.hid hc
      have HO1 := Lib.hid o1
      clear o1 hx hp hc
      go_wp2_with fail
      go_loopw [6] (fun i wr => ∃ m : Nat, m ≤ k ∧ i = .int .i64 m ∧ Below w.heap.size w wr ∧ Hid (∀ a : Nat, a < m → behB p (l.getD (ord.getD a 0).toNat dA) = false)) (fun i _ => k - (intOf i).toNat)
      case atStart => exact ⟨0, by omega, rfl, hbel, by show ∀ a, _; intro a h1; omega⟩
      case round =>
        obtain ⟨m, hm, rfl, hbel2, hok2⟩ := hrel
        by_cases hmk : m < k
        · obtain ⟨y, hy, hyl⟩ := ord_at HM.out m (by omega)
          obtain ⟨q, hq⟩ : ∃ q, l[y]? = some q := ⟨_, List.getElem?_eq_getElem hyl⟩
          obtain ⟨b', off', hbe, hbb', o3⟩ := HV.out m _ hy
          injection hbe with hbe
          injection hbe with e1 e2
          subst e1 e2
          obtain ⟨b2', off2', vr', vw', vs', hbe2, hb2', hav, hc'⟩ := HU.out y q hq
          obtain ⟨⟨Ar', cr', rfl, _, _⟩, ⟨Aw', cw', rfl, _, _⟩, ⟨As', cs', rfl, _, _⟩⟩ := hav
          injection hbe2 with hbe2
          injection hbe2 with e3 e4
          subst e3 e4
          have HA' := Lib.hid (att_at l ord m y q hy hq)
          have HC' := Lib.hid hc'
          have o2 := (hbel2.cell (p := ⟨b, off + k, none⟩) hbb).trans HO1.out
          have o4 := (hbel2.cell (p := ⟨b, off + m, none⟩) hbb).trans o3
          have hx0 : (0 : Int) ≤ x := by omega
          have hy0 : (0 : Int) ≤ y := by omega
          have hk0 : (0 : Int) ≤ k := by omega
          have hm0 : (0 : Int) ≤ m := by omega
          have hki : (k : Int) < ord.length := by omega
          have hmi : (m : Int) < ord.length := by omega
          have hxi : (x : Int) < l.length := by omega
          have hyi : (y : Int) < l.length := by omega
          have hb2r : b2 < wr.heap.size := Nat.lt_of_lt_of_le hb2 hbel2.size
          have hbbr : b < wr.heap.size := Nat.lt_of_lt_of_le hbb hbel2.size
          clear o3 hy hq hc'
          have x0 : wr.cell? ⟨b2, off2 + x * 12, none⟩ = some (.int .i64 p.th) := (hbel2.cell (p := ⟨b2, off2 + x * 12, none⟩) hb2).trans (HC.out 0 _ rfl)
          have x1 : wr.cell? ⟨b2, off2 + x * 12 + 1, none⟩ = some (.int .i64 p.tr) := (hbel2.cell (p := ⟨b2, off2 + x * 12 + 1, none⟩) hb2).trans (HC.out 1 _ rfl)
          have x2 : wr.cell? ⟨b2, off2 + x * 12 + 2, none⟩ = some (.bool p.real) := (hbel2.cell (p := ⟨b2, off2 + x * 12 + 2, none⟩) hb2).trans (HC.out 2 _ rfl)
          have x3 : wr.cell? ⟨b2, off2 + x * 12 + 3, none⟩ = some (.int .i64 p.fr) := (hbel2.cell (p := ⟨b2, off2 + x * 12 + 3, none⟩) hb2).trans (HC.out 3 _ rfl)
          have x4 : wr.cell? ⟨b2, off2 + x * 12 + 4, none⟩ = some (.int .i64 p.un) := (hbel2.cell (p := ⟨b2, off2 + x * 12 + 4, none⟩) hb2).trans (HC.out 4 _ rfl)
          have x5 : wr.cell? ⟨b2, off2 + x * 12 + 5, none⟩ = some (.int .i64 p.en) := (hbel2.cell (p := ⟨b2, off2 + x * 12 + 5, none⟩) hb2).trans (HC.out 5 _ rfl)
          have x6 : wr.cell? ⟨b2, off2 + x * 12 + 6, none⟩ = some (.int .i64 p.st) := (hbel2.cell (p := ⟨b2, off2 + x * 12 + 6, none⟩) hb2).trans (HC.out 6 _ rfl)
          have x7 : wr.cell? ⟨b2, off2 + x * 12 + 7, none⟩ = some (.int .i64 p.sp) := (hbel2.cell (p := ⟨b2, off2 + x * 12 + 7, none⟩) hb2).trans (HC.out 7 _ rfl)
          have x8 : wr.cell? ⟨b2, off2 + x * 12 + 8, none⟩ = some (.slice Ar p.reads.length cr) := (hbel2.cell (p := ⟨b2, off2 + x * 12 + 8, none⟩) hb2).trans (HC.out 8 _ rfl)
          have x9 : wr.cell? ⟨b2, off2 + x * 12 + 9, none⟩ = some (.slice Aw p.writes.length cw) := (hbel2.cell (p := ⟨b2, off2 + x * 12 + 9, none⟩) hb2).trans (HC.out 9 _ rfl)
          have x10 : wr.cell? ⟨b2, off2 + x * 12 + 10, none⟩ = some (.slice As p.seen.length cs) := (hbel2.cell (p := ⟨b2, off2 + x * 12 + 10, none⟩) hb2).trans (HC.out 10 _ rfl)
          have x11 : wr.cell? ⟨b2, off2 + x * 12 + 11, none⟩ = some (.slice none 0 0) := (hbel2.cell (p := ⟨b2, off2 + x * 12 + 11, none⟩) hb2).trans (HC.out 11 _ rfl)
          have y0 : wr.cell? ⟨b2, off2 + y * 12, none⟩ = some (.int .i64 q.th) := (hbel2.cell (p := ⟨b2, off2 + y * 12, none⟩) hb2).trans (HC'.out 0 _ rfl)
          have y1 : wr.cell? ⟨b2, off2 + y * 12 + 1, none⟩ = some (.int .i64 q.tr) := (hbel2.cell (p := ⟨b2, off2 + y * 12 + 1, none⟩) hb2).trans (HC'.out 1 _ rfl)
          have y2 : wr.cell? ⟨b2, off2 + y * 12 + 2, none⟩ = some (.bool q.real) := (hbel2.cell (p := ⟨b2, off2 + y * 12 + 2, none⟩) hb2).trans (HC'.out 2 _ rfl)
          have y3 : wr.cell? ⟨b2, off2 + y * 12 + 3, none⟩ = some (.int .i64 q.fr) := (hbel2.cell (p := ⟨b2, off2 + y * 12 + 3, none⟩) hb2).trans (HC'.out 3 _ rfl)
          have y4 : wr.cell? ⟨b2, off2 + y * 12 + 4, none⟩ = some (.int .i64 q.un) := (hbel2.cell (p := ⟨b2, off2 + y * 12 + 4, none⟩) hb2).trans (HC'.out 4 _ rfl)
          have y5 : wr.cell? ⟨b2, off2 + y * 12 + 5, none⟩ = some (.int .i64 q.en) := (hbel2.cell (p := ⟨b2, off2 + y * 12 + 5, none⟩) hb2).trans (HC'.out 5 _ rfl)
          have y6 : wr.cell? ⟨b2, off2 + y * 12 + 6, none⟩ = some (.int .i64 q.st) := (hbel2.cell (p := ⟨b2, off2 + y * 12 + 6, none⟩) hb2).trans (HC'.out 6 _ rfl)
          have y7 : wr.cell? ⟨b2, off2 + y * 12 + 7, none⟩ = some (.int .i64 q.sp) := (hbel2.cell (p := ⟨b2, off2 + y * 12 + 7, none⟩) hb2).trans (HC'.out 7 _ rfl)
          have y8 : wr.cell? ⟨b2, off2 + y * 12 + 8, none⟩ = some (.slice Ar' q.reads.length cr') := (hbel2.cell (p := ⟨b2, off2 + y * 12 + 8, none⟩) hb2).trans (HC'.out 8 _ rfl)
          have y9 : wr.cell? ⟨b2, off2 + y * 12 + 9, none⟩ = some (.slice Aw' q.writes.length cw') := (hbel2.cell (p := ⟨b2, off2 + y * 12 + 9, none⟩) hb2).trans (HC'.out 9 _ rfl)
          have y10 : wr.cell? ⟨b2, off2 + y * 12 + 10, none⟩ = some (.slice As' q.seen.length cs') := (hbel2.cell (p := ⟨b2, off2 + y * 12 + 10, none⟩) hb2).trans (HC'.out 10 _ rfl)
          have y11 : wr.cell? ⟨b2, off2 + y * 12 + 11, none⟩ = some (.slice none 0 0) := (hbel2.cell (p := ⟨b2, off2 + y * 12 + 11, none⟩) hb2).trans (HC'.out 11 _ rfl)
          have no2 := World.new_ne _ _ o2
          have no4 := World.new_ne _ _ o4
          have nx0 := World.new_ne _ _ x0
          have nx1 := World.new_ne _ _ x1
          have nx2 := World.new_ne _ _ x2
          have nx3 := World.new_ne _ _ x3
          have nx4 := World.new_ne _ _ x4
          have nx5 := World.new_ne _ _ x5
          have nx6 := World.new_ne _ _ x6
          have nx7 := World.new_ne _ _ x7
          have nx8 := World.new_ne _ _ x8
          have nx9 := World.new_ne _ _ x9
          have nx10 := World.new_ne _ _ x10
          have nx11 := World.new_ne _ _ x11
          have ny0 := World.new_ne _ _ y0
          have ny1 := World.new_ne _ _ y1
          have ny2 := World.new_ne _ _ y2
          have ny3 := World.new_ne _ _ y3
          have ny4 := World.new_ne _ _ y4
          have ny5 := World.new_ne _ _ y5
          have ny6 := World.new_ne _ _ y6
          have ny7 := World.new_ne _ _ y7
          have ny8 := World.new_ne _ _ y8
          have ny9 := World.new_ne _ _ y9
          have ny10 := World.new_ne _ _ y10
          have ny11 := World.new_ne _ _ y11
          go_wp2_with fail
          go_region_held3 (fun w' => w'.cell? ⟨b, off + k, none⟩ = some (.int .i64 (x : Int)) ∧ w'.cell? ⟨b, off + m, none⟩ = some (.int .i64 (y : Int)) ∧ w'.cell? ⟨b2, off2 + x * 12 , none⟩ = some (.int .i64 p.th) ∧ w'.cell? ⟨b2, off2 + x * 12 + 1, none⟩ = some (.int .i64 p.tr) ∧ w'.cell? ⟨b2, off2 + x * 12 + 2, none⟩ = some (.bool p.real) ∧ w'.cell? ⟨b2, off2 + x * 12 + 3, none⟩ = some (.int .i64 p.fr) ∧ w'.cell? ⟨b2, off2 + x * 12 + 4, none⟩ = some (.int .i64 p.un) ∧ w'.cell? ⟨b2, off2 + x * 12 + 5, none⟩ = some (.int .i64 p.en) ∧ w'.cell? ⟨b2, off2 + x * 12 + 6, none⟩ = some (.int .i64 p.st) ∧ w'.cell? ⟨b2, off2 + x * 12 + 7, none⟩ = some (.int .i64 p.sp) ∧ w'.cell? ⟨b2, off2 + x * 12 + 8, none⟩ = some (.slice Ar p.reads.length cr) ∧ w'.cell? ⟨b2, off2 + x * 12 + 9, none⟩ = some (.slice Aw p.writes.length cw) ∧ w'.cell? ⟨b2, off2 + x * 12 + 10, none⟩ = some (.slice As p.seen.length cs) ∧ w'.cell? ⟨b2, off2 + x * 12 + 11, none⟩ = some (.slice none 0 0) ∧ w'.cell? ⟨b2, off2 + y * 12 , none⟩ = some (.int .i64 q.th) ∧ w'.cell? ⟨b2, off2 + y * 12 + 1, none⟩ = some (.int .i64 q.tr) ∧ w'.cell? ⟨b2, off2 + y * 12 + 2, none⟩ = some (.bool q.real) ∧ w'.cell? ⟨b2, off2 + y * 12 + 3, none⟩ = some (.int .i64 q.fr) ∧ w'.cell? ⟨b2, off2 + y * 12 + 4, none⟩ = some (.int .i64 q.un) ∧ w'.cell? ⟨b2, off2 + y * 12 + 5, none⟩ = some (.int .i64 q.en) ∧ w'.cell? ⟨b2, off2 + y * 12 + 6, none⟩ = some (.int .i64 q.st) ∧ w'.cell? ⟨b2, off2 + y * 12 + 7, none⟩ = some (.int .i64 q.sp) ∧ w'.cell? ⟨b2, off2 + y * 12 + 8, none⟩ = some (.slice Ar' q.reads.length cr') ∧ w'.cell? ⟨b2, off2 + y * 12 + 9, none⟩ = some (.slice Aw' q.writes.length cw') ∧ w'.cell? ⟨b2, off2 + y * 12 + 10, none⟩ = some (.slice As' q.seen.length cs') ∧ w'.cell? ⟨b2, off2 + y * 12 + 11, none⟩ = some (.slice none 0 0)) (go_keep) (fail)
          all_goals
            by_cases h1 : 0 < p.tr
            case neg =>
              have hbq : behB p q = false := decide_eq_false (by intro h; omega)
              have hnx : Hid (∀ a : Nat, a < m + 1 → behB p (l.getD (ord.getD a 0).toNat dA) = false) := by
                show ∀ a, _
                intro a ha
                by_cases e : a = m
                · subst e; rw [HA'.out]; exact hbq
                · exact hok2.out a (by omega)
              clear hbq
              go_wp2_with fail
              exact ⟨⟨m + 1, by omega, by go_num, (by repeat (first | exact hbel2 | refine Bdrew ?_ | refine Bal ?_ _ | refine Bset ?_ (by simp <;> omega) _)), hnx⟩, by (simp [intOf]) <;> omega⟩
            by_cases h2 : 0 < q.tr
            case neg =>
              have hbq : behB p q = false := decide_eq_false (by intro h; omega)
              have hnx : Hid (∀ a : Nat, a < m + 1 → behB p (l.getD (ord.getD a 0).toNat dA) = false) := by
                show ∀ a, _
                intro a ha
                by_cases e : a = m
                · subst e; rw [HA'.out]; exact hbq
                · exact hok2.out a (by omega)
              clear hbq
              go_wp2_with fail
              exact ⟨⟨m + 1, by omega, by go_num, (by repeat (first | exact hbel2 | refine Bdrew ?_ | refine Bal ?_ _ | refine Bset ?_ (by simp <;> omega) _)), hnx⟩, by (simp [intOf]) <;> omega⟩
            by_cases h3 : p.en = 0
            case pos =>
              have hbq : behB p q = false := decide_eq_false (by intro h; omega)
              have hnx : Hid (∀ a : Nat, a < m + 1 → behB p (l.getD (ord.getD a 0).toNat dA) = false) := by
                show ∀ a, _
                intro a ha
                by_cases e : a = m
                · subst e; rw [HA'.out]; exact hbq
                · exact hok2.out a (by omega)
              clear hbq
              have h4 : (p.en != 0) = false := by simp [h3]
              clear h3
              go_wp2_with fail
              exact ⟨⟨m + 1, by omega, by go_num, (by repeat (first | exact hbel2 | refine Bdrew ?_ | refine Bal ?_ _ | refine Bset ?_ (by simp <;> omega) _)), hnx⟩, by (simp [intOf]) <;> omega⟩
            have h4 : (p.en != 0) = true := by rw [bne_iff_ne]; exact h3
            by_cases h5 : p.un < q.fr
            case neg =>
              have hbq : behB p q = false := decide_eq_false (by intro h; omega)
              have hnx : Hid (∀ a : Nat, a < m + 1 → behB p (l.getD (ord.getD a 0).toNat dA) = false) := by
                show ∀ a, _
                intro a ha
                by_cases e : a = m
                · subst e; rw [HA'.out]; exact hbq
                · exact hok2.out a (by omega)
              clear hbq
              clear h3
              go_wp2_with fail
              exact ⟨⟨m + 1, by omega, by go_num, (by repeat (first | exact hbel2 | refine Bdrew ?_ | refine Bal ?_ _ | refine Bset ?_ (by simp <;> omega) _)), hnx⟩, by (simp [intOf]) <;> omega⟩
            have hbq : behB p q = true := decide_eq_true ⟨h1, h2, h3, h5⟩
            have ht : Hid (timeB l ord = false) := timeB_f (fun h => by
              have := h.2 k m hmk hlt
              rw [HA.out, HA'.out, hbq] at this
              exact absurd this (by decide))
            clear hbq h3
            go_wp2_with fail
            go_ret
            exact ⟨by rw [ht.out]; rfl, (by repeat (first | exact hbel2 | refine Bdrew ?_ | refine Bal ?_ _ | refine Bset ?_ (by simp <;> omega) _))⟩
        · have hnx : Hid (∀ a m : Nat, m < a → a < k + 1 → behB (l.getD (ord.getD a 0).toNat dA) (l.getD (ord.getD m 0).toNat dA) = false) := by
            show ∀ a m, _
            intro a m' h1 h2
            by_cases e : a = k
            · subst e; rw [HA.out]; exact hok2.out m' (by omega)
            · exact hok.out a m' h1 (by omega)
          go_wp2_with fail
          exact ⟨⟨k + 1, by omega, by go_num, hbel2, hnx⟩, by (simp [intOf]) <;> omega⟩
    · have ht : Hid (timeB l ord = true) := timeB_t ⟨HM.out, fun a m h1 h2 => hok.out a m h1 (by omega)⟩
      go_wp2_with fail
      go_ret
      exact ⟨by rw [ht.out]; rfl, hbel⟩
end Go.Proofs.Ytnjcebfbfecdeaa
