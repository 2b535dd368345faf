/-
  Fair, the program's and the reference's.
-/
import Derived.Test.YtbfoeinjopgnpaaSame
set_option linter.unusedVariables false
namespace Go.Proofs.Ytbfoeinjopgnpaa
open Go.RowKit
/-- Where thread t was picked last ahead of i; -1. -/
def lastF (l : List Pk) (t : Int) : Nat → Int
  | 0 => -1
  | i + 1 => if (l.getD i ⟨0, false, 0⟩).t = t then i else lastF l t i
theorem lastF_bd (l : List Pk) (t : Int) (i : Nat) : -1 ≤ lastF l t i ∧ lastF l t i < i := by
  induction i with
  | zero => simp [lastF]
  | succ i ih => unfold lastF; split <;> omega
/-- Each window of k has each thread. -/
def FairS (l : List Pk) (T k : Int) : Prop := (1 ≤ T ∧ T ≤ 4 ∧ 1 ≤ k) ∧ ∀ (t : Nat), (t : Int) < T → ∀ i : Nat, i < l.length → k - 1 ≤ i → (i : Int) - k + 1 ≤ lastF l t (i + 1)
open Classical in
noncomputable def fairB (l : List Pk) (T k : Int) : Bool := decide (FairS l T k)
theorem fairB_t {l : List Pk} {T k : Int} (h : FairS l T k) : fairB l T k = true := by simp [fairB, h]
theorem fairB_f {l : List Pk} {T k : Int} (h : ¬ FairS l T k) : fairB l T k = false := by simp [fairB, h]
def LastAt (w : World) (B : Nat) (f : Nat → Int) : Prop := B < w.heap.size ∧ ∀ j, j < 4 → w.cell? ⟨B, j, none⟩ = some (.int .i64 (f j)) ∧ w.frozen? ⟨B, j, none⟩ = false
theorem LastAt.set {w : World} {B : Nat} {f : Nat → Int} (h : LastAt w B f) (j : Nat) (hj : j < 4) (v : Int) : LastAt (w.setCell ⟨B, j, none⟩ (.int .i64 v)) B (fun x => if x = j then v else f x) := by
  refine ⟨by simpa [World.setCell] using h.1, fun x hx => ?_⟩
  obtain ⟨h1, h2⟩ := h.2 x hx
  by_cases e : x = j
  · subst e
    exact ⟨by rw [World.cell?_setCell_same (h := h1)]; simp, by rw [World.frozen?_setCell]; exact h2⟩
  · exact ⟨by rw [World.cell?_setCell_other (a := ⟨B, j, none⟩) (b := ⟨B, x, none⟩) (h := by intro h; injection h with _ h2; exact e h2.symm)]; simp [e, h1], by rw [World.frozen?_setCell]; exact h2⟩
theorem LastAt.th {w w' : World} {B : Nat} {f : Nat → Int} (h : LastAt w B f) (hb : Below w.heap.size w w') : LastAt w' B f :=
  ⟨Nat.lt_of_lt_of_le h.1 hb.size, fun j hj => ⟨(hb.cell h.1).trans (h.2 j hj).1, (hb.frozen h.1).trans (h.2 j hj).2⟩⟩
theorem LastAt.congr {w : World} {B : Nat} {f g : Nat → Int} (h : LastAt w B f) (e : ∀ j, j < 4 → f j = g j) : LastAt w B g :=
  ⟨h.1, fun j hj => by rw [← e j hj]; exact h.2 j hj⟩
def LF (l : List Pk) (T : Int) (i : Nat) (t : Nat) : Int := if (t : Int) < T then lastF l t i else -1
theorem LF_in {l : List Pk} {T : Int} {m q : Nat} {p : Pk} (hp : l[m]? = some p) (hq : p.t = q) (hT : (q : Int) < T) (x : Nat) : (if x = q then (m : Int) else LF l T m x) = LF l T (m + 1) x := by
  have hg : l.getD m ⟨0, false, 0⟩ = p := by simp [List.getD, hp]
  unfold LF
  by_cases h : x = q
  · subst h; simp only [hT, if_true]; rw [lastF, hg, if_pos hq]
  · by_cases hx : (x : Int) < T
    · simp only [h, hx, if_true, if_false]
      rw [lastF, hg, hq, if_neg (by omega)]
    · simp [h, hx]
theorem LF_out {l : List Pk} {T : Int} {m : Nat} {p : Pk} (hp : l[m]? = some p) (hn : ¬ (0 ≤ p.t ∧ p.t < T)) (x : Nat) : LF l T m x = LF l T (m + 1) x := by
  have hg : l.getD m ⟨0, false, 0⟩ = p := by simp [List.getD, hp]
  unfold LF
  by_cases hx : (x : Int) < T
  · simp only [hx, if_true]
    rw [lastF, hg, if_neg (by omega)]
  · simp [hx]
theorem fair_no (u : Value) (T k : Int) (w : World) (A : Option Addr) (n c : Nat) (h : T < 1 ∨ 4 < T ∨ k < 1) :
    Calls Try.prog 10 #[.slice A n c, .int .i64 T, .int .i64 k] w fun e w' => e = .returned (.bool false) ∧ w = w' := by
  by_cases h1 : T < 1
  · go_enter Try.func10, Try.ntmps10
    go_wp2_with fail
    go_ret
    exact ⟨rfl, rfl⟩
  · by_cases h2 : 4 < T
    · go_enter Try.func10, Try.ntmps10
      go_wp2_with fail
      go_ret
      exact ⟨rfl, rfl⟩
    · have h3 : k < 1 := by omega
      clear h
      go_enter Try.func10, Try.ntmps10
      go_wp2_with fail
      go_ret
      exact ⟨rfl, rfl⟩
set_option maxHeartbeats 1600000 in
theorem fair_yes (u : Value) (l : List Pk) (T k : Int) (w : World) (hl : l.length ≤ 1048576) (hu : PkAt w u l) (hT : 1 ≤ T) (hT4 : T ≤ 4) (hk : 1 ≤ k) (hk2 : k ≤ 9223372036854775807) :
    Calls Try.prog 10 #[u, .int .i64 T, .int .i64 k] w fun e w' => e = .returned (.bool (fairB l T k)) ∧ Below w.heap.size w w' := by
  obtain ⟨A, c1, rfl, hu⟩ := hu
  have HU := Lib.hid hu
  clear hu
  go_enter Try.func10, Try.ntmps10
  go_wp2_with fail
  go_loopw [22] (fun i wr => ∃ j : Nat, j ≤ 4 ∧ i = .int .i64 j ∧ LastAt wr w.heap.size (fun x => if x < j then -1 else 0) ∧ Below w.heap.size w wr) (fun i _ => 4 - (intOf i).toNat)
  case atStart =>
    refine ⟨0, by omega, rfl, ?_, Bal (Bre _) _⟩
    refine ⟨by simp, fun j hj => ?_⟩
    have : j = 0 ∨ j = 1 ∨ j = 2 ∨ j = 3 := by omega
    rcases this with rfl | rfl | rfl | rfl <;> simp
  case round =>
    obtain ⟨j, hj, rfl, hla, hbel⟩ := hrel
    by_cases hjl : j < 4
    · obtain ⟨c0, f0⟩ := hla.2 j hjl
      have HL := Lib.hid hla
      clear hla
      go_wp2_with fail
      refine ⟨⟨j + 1, by omega, by go_num, (HL.out.set j hjl (-1)).congr fun x hx => ?_, Bset hbel (Nat.le_refl _) _⟩, by simp [intOf]; omega⟩
      by_cases h1 : x = j
      · simp [h1]
      · simp [h1]; split <;> split <;> omega
    · have hj4 : j = 4 := by omega
      subst hj4
      have HL : Hid (LastAt wr w.heap.size (LF l T 0)) := hla.congr fun x hx => by simp [hx, LF, lastF]
      clear hla
      go_wp2_with fail
      go_loopw [30] (fun i wr => ∃ m : Nat, m ≤ l.length ∧ i = .int .i64 m ∧ LastAt wr w.heap.size (LF l T m) ∧ Below w.heap.size w wr ∧
        (∀ (t : Nat), (t : Int) < T → ∀ e : Nat, e < m → k - 1 ≤ e → (e : Int) - k + 1 ≤ lastF l t (e + 1))) (fun i _ => l.length - (intOf i).toNat)
      case atStart => exact ⟨0, Nat.zero_le _, rfl, HL.out, hbel, fun _ _ e he => by omega⟩
      case round =>
        obtain ⟨m, hm, rfl, hla, hbel, hw⟩ := hrel
        have HLA := Lib.hid hla
        have HW := Lib.hid hw
        have hB := hla.1
        clear hla hw HL
        by_cases hlt : m < l.length
        · obtain ⟨p, hp⟩ : ∃ p, l[m]? = some p := ⟨_, List.getElem?_eq_getElem hlt⟩
          obtain ⟨b, off, rfl, hb, x1, x2, x3⟩ := HU.out m p hp
          have z1 := (hbel.cell hb).trans x1
          have z2 := (hbel.cell hb).trans x2
          have z3 := (hbel.cell hb).trans x3
          have HPP := Lib.hid hp
          clear x1 x2 x3 hp
          have hB1 : w.heap.size < wr.heap.size + 1 := by omega
          have hB2 : w.heap.size ≤ wr.heap.size := by omega
          by_cases ht : 0 ≤ p.t ∧ p.t < T
          · obtain ⟨ht0, ht1⟩ := ht
            obtain ⟨q, hq⟩ := Int.eq_ofNat_of_zero_le ht0
            have HQ := Lib.hid hq
            rw [hq] at z1 ht0 ht1
            have hq4 : q < 4 := by omega
            obtain ⟨c0, f0⟩ := HLA.out.2 q hq4
            have HT := Lib.hid ht1
            have HA : Hid (LastAt ((wr.setCell ⟨w.heap.size, q, none⟩ (.int .i64 m)).alloc (.cells #[.int .i64 q, .bool p.a, .int .i64 p.d] 29)) w.heap.size (LF l T (m + 1))) := ((HLA.out.set q hq4 m).th (Bal (Bre _) _)).congr fun x _ => LF_in HPP.out HQ.out HT.out x
            have HB : Hid (Below w.heap.size w ((wr.setCell ⟨w.heap.size, q, none⟩ (.int .i64 m)).alloc (.cells #[.int .i64 q, .bool p.a, .int .i64 p.d] 29))) := Bal (Bset hbel (Nat.le_refl _) _) _
            clear hq
            go_wp2_with fail
            go_loop [11] (fun i => ∃ j : Nat, (j : Int) ≤ T ∧ i = .int .i64 j ∧ ∀ (t : Nat), t < j → k - 1 ≤ m → (m : Int) - k + 1 ≤ lastF l t (m + 1)) (fun i => 4 - (intOf i).toNat)
            case atStart => exact ⟨0, by omega, rfl, fun t ht => by omega⟩
            case round =>
              obtain ⟨j, hj, rfl, hjw⟩ := hrel
              have HJ := Lib.hid hjw
              clear hjw
              by_cases hjT : (j : Int) < T
              · by_cases hmk : k - 1 ≤ m
                · obtain ⟨c1, _⟩ := HA.out.2 j (by omega)
                  have hbd := lastF_bd l j (m + 1)
                  rw [LF, if_pos hjT] at c1
                  obtain ⟨x, hx⟩ : ∃ x, lastF l j (m + 1) = x := ⟨_, rfl⟩
                  rw [hx] at c1 hbd
                  have HX := Lib.hid hx
                  clear hx
                  by_cases hlow : x < m - k + 1
                  · go_wp2_with fail
                    go_ret
                    refine ⟨?_, HB.out⟩
                    rw [fairB_f]
                    · rfl
                    · intro hf
                      have := hf.2 j hjT m hlt hmk
                      rw [HX.out] at this
                      omega
                  · go_wp2_with fail
                    go_round
                    case rel =>
                      refine ⟨j + 1, by omega, by go_num, fun t ht hk => ?_⟩
                      by_cases e : t = j
                      · subst e; rw [HX.out]; omega
                      · exact HJ.out t (by omega) hk
                    case measure => simp [intOf]; omega
                · have HN : Hid (∀ (t : Nat), (t : Int) < T → ∀ e : Nat, e < m + 1 → k - 1 ≤ e → (e : Int) - k + 1 ≤ lastF l t (e + 1)) := by
                    intro t ht e he hke
                    by_cases h : e = m
                    · subst h; omega
                    · exact HW.out t ht e (by omega) hke
                  go_wp2_with fail
                  first | exact ⟨⟨m + 1, by omega, by go_num, HA.out, HB.out, HN.out⟩, by (simp [intOf]) <;> omega⟩ | (refine ⟨?_, by (simp [intOf]) <;> omega⟩; (repeat apply Exists.intro); exact ⟨⟨m + 1, by omega, by go_num, HA.out, HB.out, HN.out⟩, by repeat' (first | rfl | apply And.intro)⟩)
              · have HN : Hid (∀ (t : Nat), (t : Int) < T → ∀ e : Nat, e < m + 1 → k - 1 ≤ e → (e : Int) - k + 1 ≤ lastF l t (e + 1)) := by
                  intro t ht e he hke
                  by_cases h : e = m
                  · subst h; exact HJ.out t (by omega) hke
                  · exact HW.out t ht e (by omega) hke
                go_wp2_with fail
                first | exact ⟨⟨m + 1, by omega, by go_num, HA.out, HB.out, HN.out⟩, by (simp [intOf]) <;> omega⟩ | (refine ⟨?_, by (simp [intOf]) <;> omega⟩; (repeat apply Exists.intro); exact ⟨⟨m + 1, by omega, by go_num, HA.out, HB.out, HN.out⟩, by repeat' (first | rfl | apply And.intro)⟩)

          · have HT := Lib.hid ht
            have HA : Hid (LastAt (wr.alloc (.cells #[.int .i64 p.t, .bool p.a, .int .i64 p.d] 29)) w.heap.size (LF l T (m + 1))) := (HLA.out.th (Bal (Bre _) _)).congr fun x _ => LF_out HPP.out HT.out x
            have HB : Hid (Below w.heap.size w (wr.alloc (.cells #[.int .i64 p.t, .bool p.a, .int .i64 p.d] 29))) := Bal hbel _
            have hq : p.t < 0 ∨ T ≤ p.t := by omega
            clear ht
            rcases hq with ht0 | ht0
            all_goals
              go_wp2_with fail
              go_loop [11] (fun i => ∃ j : Nat, (j : Int) ≤ T ∧ i = .int .i64 j ∧ ∀ (t : Nat), t < j → k - 1 ≤ m → (m : Int) - k + 1 ≤ lastF l t (m + 1)) (fun i => 4 - (intOf i).toNat)
              case atStart => exact ⟨0, by omega, rfl, fun t ht => by omega⟩
              case round =>
                obtain ⟨j, hj, rfl, hjw⟩ := hrel
                have HJ := Lib.hid hjw
                clear hjw
                by_cases hjT : (j : Int) < T
                · by_cases hmk : k - 1 ≤ m
                  · obtain ⟨c1, _⟩ := HA.out.2 j (by omega)
                    have hbd := lastF_bd l j (m + 1)
                    rw [LF, if_pos hjT] at c1
                    obtain ⟨x, hx⟩ : ∃ x, lastF l j (m + 1) = x := ⟨_, rfl⟩
                    rw [hx] at c1 hbd
                    have HX := Lib.hid hx
                    clear hx
                    by_cases hlow : x < m - k + 1
                    · go_wp2_with fail
                      go_ret
                      refine ⟨?_, HB.out⟩
                      rw [fairB_f]
                      · rfl
                      · intro hf
                        have := hf.2 j hjT m hlt hmk
                        rw [HX.out] at this
                        omega
                    · go_wp2_with fail
                      go_round
                      case rel =>
                        refine ⟨j + 1, by omega, by go_num, fun t ht hk => ?_⟩
                        by_cases e : t = j
                        · subst e; rw [HX.out]; omega
                        · exact HJ.out t (by omega) hk
                      case measure => simp [intOf]; omega
                  · have HN : Hid (∀ (t : Nat), (t : Int) < T → ∀ e : Nat, e < m + 1 → k - 1 ≤ e → (e : Int) - k + 1 ≤ lastF l t (e + 1)) := by
                      intro t ht e he hke
                      by_cases h : e = m
                      · subst h; omega
                      · exact HW.out t ht e (by omega) hke
                    go_wp2_with fail
                    first | exact ⟨⟨m + 1, by omega, by go_num, HA.out, HB.out, HN.out⟩, by (simp [intOf]) <;> omega⟩ | (refine ⟨?_, by (simp [intOf]) <;> omega⟩; (repeat apply Exists.intro); exact ⟨⟨m + 1, by omega, by go_num, HA.out, HB.out, HN.out⟩, by repeat' (first | rfl | apply And.intro)⟩)
                · have HN : Hid (∀ (t : Nat), (t : Int) < T → ∀ e : Nat, e < m + 1 → k - 1 ≤ e → (e : Int) - k + 1 ≤ lastF l t (e + 1)) := by
                    intro t ht e he hke
                    by_cases h : e = m
                    · subst h; exact HJ.out t (by omega) hke
                    · exact HW.out t ht e (by omega) hke
                  go_wp2_with fail
                  first | exact ⟨⟨m + 1, by omega, by go_num, HA.out, HB.out, HN.out⟩, by (simp [intOf]) <;> omega⟩ | (refine ⟨?_, by (simp [intOf]) <;> omega⟩; (repeat apply Exists.intro); exact ⟨⟨m + 1, by omega, by go_num, HA.out, HB.out, HN.out⟩, by repeat' (first | rfl | apply And.intro)⟩)
        · have hml : m = l.length := by omega
          go_wp2_with fail
          go_ret
          refine ⟨?_, hbel⟩
          rw [fairB_t]
          · rfl
          · exact ⟨⟨hT, hT4, hk⟩, fun t ht i hi hki => HW.out t ht i (by omega) hki⟩
end Go.Proofs.Ytbfoeinjopgnpaa
