/-
  Attempts, words and numbers in memory; whether an order has each place once.
-/
import Derived.Test.YtnjcebfbfecdeaaProg
import Derived.Test.YtnjcebfbfecdeaaReg
import Derived.Laws.OwnMore
import Derived.Deep.OwnRows
set_option linter.unusedVariables false
namespace Go.Proofs.Ytnjcebfbfecdeaa
open Go.RowKit
structure Wd where
  pl : Int
  val : Int
  deriving DecidableEq
structure Att where
  th : Int
  tr : Int
  real : Bool
  fr : Int
  un : Int
  en : Int
  st : Int
  sp : Int
  reads : List Wd
  writes : List Wd
  seen : List Int
def IntsAt (w : World) (v : Value) (zs : List Int) : Prop :=
  ∃ A cap, v = .slice A zs.length cap ∧ zs.length ≤ cap ∧ ∀ i x, zs[i]? = some x → ∃ b off, A = some ⟨b, off, none⟩ ∧ b < w.heap.size ∧ w.cell? ⟨b, off + i, none⟩ = some (.int .i64 x)
theorem IntsAt.th {w w' : World} {v : Value} {l : List Int} (h : IntsAt w v l) (hb : Below w.heap.size w w') : IntsAt w' v l := by
  obtain ⟨A, cap, rfl, hcap, h⟩ := h
  refine ⟨A, cap, rfl, hcap, fun i p hi => ?_⟩
  obtain ⟨b, off, rfl, hlt, h1⟩ := h i p hi
  exact ⟨b, off, rfl, Nat.lt_of_lt_of_le hlt hb.size, (hb.cell hlt).trans h1⟩
def WdsAt (w : World) (v : Value) (l : List Wd) : Prop :=
  ∃ A cap, v = .slice A l.length cap ∧ l.length ≤ cap ∧ ∀ i p, l[i]? = some p → ∃ b off, A = some ⟨b, off, none⟩ ∧ b < w.heap.size ∧
    w.cell? ⟨b, off + i * 2, none⟩ = some (.int .i64 p.pl) ∧ w.cell? ⟨b, off + i * 2 + 1, none⟩ = some (.int .i64 p.val)
theorem WdsAt.th {w w' : World} {v : Value} {l : List Wd} (h : WdsAt w v l) (hb : Below w.heap.size w w') : WdsAt w' v l := by
  obtain ⟨A, cap, rfl, hcap, h⟩ := h
  refine ⟨A, cap, rfl, hcap, fun i p hi => ?_⟩
  obtain ⟨b, off, rfl, hlt, h1, h2⟩ := h i p hi
  exact ⟨b, off, rfl, Nat.lt_of_lt_of_le hlt hb.size, (hb.cell hlt).trans h1, (hb.cell hlt).trans h2⟩
def AttV (w : World) (p : Att) (vr vw vs : Value) : Prop := WdsAt w vr p.reads ∧ WdsAt w vw p.writes ∧ IntsAt w vs p.seen
theorem AttV.th {w w' : World} {p : Att} {vr vw vs : Value} (h : AttV w p vr vw vs) (hb : Below w.heap.size w w') : AttV w' p vr vw vs := ⟨h.1.th hb, h.2.1.th hb, h.2.2.th hb⟩
def attCells (p : Att) (vr vw vs : Value) : List Value := [.int .i64 p.th, .int .i64 p.tr, .bool p.real, .int .i64 p.fr, .int .i64 p.un, .int .i64 p.en, .int .i64 p.st, .int .i64 p.sp, vr, vw, vs, .slice none 0 0]
def AttsAt (w : World) (v : Value) (l : List Att) : Prop :=
  ∃ A cap, v = .slice A l.length cap ∧ l.length ≤ cap ∧ ∀ i p, l[i]? = some p → ∃ b off vr vw vs, A = some ⟨b, off, none⟩ ∧ b < w.heap.size ∧ AttV w p vr vw vs ∧
    ∀ j u, (attCells p vr vw vs)[j]? = some u → w.cell? ⟨b, off + i * 12 + j, none⟩ = some u
theorem AttsAt.th {w w' : World} {v : Value} {l : List Att} (h : AttsAt w v l) (hb : Below w.heap.size w w') : AttsAt w' v l := by
  obtain ⟨A, cap, rfl, hcap, h⟩ := h
  refine ⟨A, cap, rfl, hcap, fun i p hi => ?_⟩
  obtain ⟨b, off, vr, vw, vs, rfl, hlt, h1, h2⟩ := h i p hi
  exact ⟨b, off, vr, vw, vs, rfl, Nat.lt_of_lt_of_le hlt hb.size, h1.th hb, fun j u hu => (hb.cell hlt).trans (h2 j u hu)⟩
theorem drewN_below {B : Nat} {a w : World} (h : Below B a w) (n : Nat) : Below B a (w.drewN n) := ⟨h.os, h.tape, h.output, h.size, h.block⟩
theorem bne_of {a b : Int} (h : a ≠ b) : (a == b) = false := by simpa using h
/-- An order has each place once. -/
def MayS (n : Nat) (ord : List Int) : Prop := ord.length = n ∧ (∀ x ∈ ord, 0 ≤ x ∧ x < n) ∧ ord.Nodup
instance (n : Nat) (ord : List Int) : Decidable (MayS n ord) := by unfold MayS; infer_instance
def mayB (n : Nat) (ord : List Int) : Bool := decide (MayS n ord)
theorem info4 : (Try.prog.info? 4).map (fun i => (i.zero, i.size, i.bytes)) = some (some (.bool false), 1, 1) := by kernel_rfl
theorem take_snoc {α : Type} (l : List α) (k : Nat) (x : α) (h : l[k]? = some x) : l.take (k + 1) = l.take k ++ [x] := by
  rw [List.take_add_one, h]; rfl
set_option maxHeartbeats 1600000 in
theorem may_any (A : Option Addr) (n c : Nat) (v : Value) (ord : List Int) (w : World) (hn : n ≤ 1048576) (hv : IntsAt w v ord) :
    Calls Try.prog 12 #[.slice A n c, v] w fun e w' => e = .returned (.bool (mayB n ord)) ∧ Below w.heap.size w w' := by
  obtain ⟨B, c2, rfl, hcap, hv⟩ := hv
  have HV := Lib.hid hv
  clear hv
  by_cases hlen : ord.length = n
  case neg =>
    have hb : mayB n ord = false := decide_eq_false (fun h => hlen h.1)
    rw [hb]
    have hne : ((ord.length : Int) != (n : Int)) = true := by rw [bne_iff_ne]; omega
    clear hb hlen
    go_enter Try.func12, Try.ntmps12
    go_wp2_with fail
    go_ret
    exact ⟨rfl, Bre _⟩
  subst hlen
  have hmk := fun w => run_make_row' (P := Try.prog) 56 4 (.bool false) 1 Try.underlying56 info4 rfl .i64 .i64 ord.length (by omega) (by omega) w
  go_enter Try.func12, Try.ntmps12
  go_wp2_with fail
  clear hmk
  go_loopw [18] (fun i wr => ∃ k : Nat, k ≤ ord.length ∧ i = .int .i64 k ∧ wr.rowIs w.heap.size 4 ord.length (fun i => .bool ((ord.take k).contains (i : Int))) ∧ Below w.heap.size w wr ∧ Hid ((∀ x ∈ ord.take k, 0 ≤ x ∧ x < ord.length) ∧ (ord.take k).Nodup)) (fun i _ => ord.length - (intOf i).toNat)
  case atStart =>
    exact ⟨0, by omega, rfl, (World.rowIs_made w (.bool false) ord.length 4).congr (fun i hi => by simp), Bal (Bre _) _, by show _ ∧ _; simp⟩
  case round =>
    obtain ⟨k, hk, rfl, hrow, hbel, hok⟩ := hrel
    by_cases hlt : k < ord.length
    · obtain ⟨x, hx⟩ : ∃ x, ord[k]? = some x := ⟨_, List.getElem?_eq_getElem hlt⟩
      obtain ⟨b, off, rfl, hb, x1⟩ := HV.out k x hx
      have z1 := (hbel.cell (p := ⟨b, off + k, none⟩) hb).trans x1
      have HT := Lib.hid (take_snoc ord k x hx)
      have hmem : Hid (x ∈ ord) := List.mem_of_getElem? hx
      have HR := Lib.hid hrow
      clear x1 hx hrow
      by_cases h0 : x < 0
      · have hb : Hid (mayB ord.length ord = false) := decide_eq_false (fun h => by have := h.2.1 x hmem.out; omega)
        go_wp2_with fail
        go_ret
        exact ⟨by rw [hb.out]; rfl, hbel⟩
      by_cases h1 : (ord.length : Int) ≤ x
      · have hb : Hid (mayB ord.length ord = false) := decide_eq_false (fun h => by have := h.2.1 x hmem.out; omega)
        go_wp2_with fail
        go_ret
        exact ⟨by rw [hb.out]; rfl, hbel⟩
      obtain ⟨q, rfl⟩ := Int.eq_ofNat_of_zero_le (show 0 ≤ x by omega)
      have hq : q < ord.length := by omega
      have z2 := HR.out.cell hq
      have z3 := HR.out.frozen q
      cases hc : (ord.take k).contains (q : Int)
      case true =>
        rw [hc] at z2
        have hb : Hid (mayB ord.length ord = false) := decide_eq_false (fun h => by
          have h3 : (ord.take (k + 1)).Nodup := h.2.2.sublist (List.take_sublist _ _)
          rw [HT.out, List.nodup_append] at h3
          have := h3.2.2 (q : Int) (by simpa using hc) (q : Int) (by simp)
          exact this rfl)
        clear hc
        go_wp2_with fail
        go_ret
        exact ⟨by rw [hb.out]; rfl, hbel⟩
      case false =>
        rw [hc] at z2
        have HC := Lib.hid hc
        clear hc
        go_wp2_with fail
        exact ⟨⟨k + 1, by omega, by go_num, (HR.out.set q (.bool true)).congr (fun j hj => by
            rw [HT.out]
            by_cases e : j = q
            · subst e; simp
            · simp [e]
              intro h; omega), Bset hbel (Nat.le_refl _) _, by
            show _ ∧ _
            rw [HT.out]
            refine ⟨fun y hy => ?_, ?_⟩
            · rcases List.mem_append.1 hy with h | h
              · exact hok.out.1 y h
              · simp at h; subst h; omega
            · rw [List.nodup_append]
              refine ⟨hok.out.2, by simp, fun a ha b hb e => ?_⟩
              simp at hb
              subst hb e
              have := HC.out
              simp at this
              exact this ha⟩, by (simp [intOf]) <;> omega⟩
    · have hkn : k = ord.length := by omega
      have hb : Hid (mayB ord.length ord = true) := decide_eq_true (by
        have h := hok.out
        rw [hkn, List.take_length] at h
        exact ⟨rfl, h.1, h.2⟩)
      go_wp2_with fail
      go_ret
      exact ⟨by rw [hb.out]; rfl, hbel⟩
end Go.Proofs.Ytnjcebfbfecdeaa
