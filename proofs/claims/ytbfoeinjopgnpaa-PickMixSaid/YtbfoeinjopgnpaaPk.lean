/-
  Picks as a plain list; slices of picks, made and read.
-/
import Derived.Test.YtbfoeinjopgnpaaProg
import Derived.Test.YtbfoeinjopgnpaaReg
set_option linter.unusedVariables false
namespace Go.Proofs.Ytbfoeinjopgnpaa
open Go.RowKit
structure Pk where
  t : Int
  a : Bool
  d : Int
  deriving DecidableEq
def Pk.cells (p : Pk) : List Value := [.int .i64 p.t, .bool p.a, .int .i64 p.d]
def pkCells (l : List Pk) : List Value := l.flatMap Pk.cells
theorem pkCells_len (l : List Pk) : (pkCells l).length = l.length * 3 := by
  induction l with
  | nil => rfl
  | cons p l ih => simp only [pkCells, List.flatMap_cons, List.length_append, List.length_cons] at *; rw [ih]; simp [Pk.cells]; omega
theorem pkCells_snoc (l : List Pk) (p : Pk) : pkCells (l ++ [p]) = pkCells l ++ p.cells := by simp [pkCells]
theorem pkCells_get (l : List Pk) (i : Nat) (p : Pk) (h : l[i]? = some p) (j : Nat) (hj : j < 3) : (pkCells l)[i * 3 + j]? = p.cells[j]? := by
  induction l generalizing i with
  | nil => simp at h
  | cons q l ih =>
    simp only [pkCells, List.flatMap_cons]
    cases i with
    | zero =>
      simp at h; subst h
      rw [List.getElem?_append_left (by simp [Pk.cells]; omega)]; simp
    | succ i =>
      rw [List.getElem?_append_right (by simp [Pk.cells]; omega)]
      have := ih i (by simpa using h)
      rw [← this]
      simp only [pkCells, Pk.cells, List.length_cons, List.length_nil]
      congr 1; omega
/-- A slice value reads as these picks. -/
def PkAt (w : World) (v : Value) (l : List Pk) : Prop :=
  ∃ A cap, v = .slice A l.length cap ∧ ∀ i p, l[i]? = some p → ∃ b off, A = some ⟨b, off, none⟩ ∧ b < w.heap.size ∧
    w.cell? ⟨b, off + i * 3, none⟩ = some (.int .i64 p.t) ∧ w.cell? ⟨b, off + i * 3 + 1, none⟩ = some (.bool p.a) ∧ w.cell? ⟨b, off + i * 3 + 2, none⟩ = some (.int .i64 p.d)
theorem PkAt.th {w w' : World} {v : Value} {l : List Pk} (h : PkAt w v l) (hb : Below w.heap.size w w') : PkAt w' v l := by
  obtain ⟨A, cap, rfl, h⟩ := h
  refine ⟨A, cap, rfl, fun i p hi => ?_⟩
  obtain ⟨b, off, rfl, hlt, h1, h2, h3⟩ := h i p hi
  exact ⟨b, off, rfl, Nat.lt_of_lt_of_le hlt hb.size, (hb.cell hlt).trans h1, (hb.cell hlt).trans h2, (hb.cell hlt).trans h3⟩
theorem PkAt.own {w : World} {base : Nat} {v : Value} {l : List Pk} (h : w.ownsRow base 29 3 v l.length (pkCells l)) : PkAt w v l := by
  rcases h.2 with ⟨rfl, h0⟩ | ⟨g, cap, cur, rfl, hb, hg, hc1, hc2, hs, ht⟩
  · have : l = [] := List.eq_nil_of_length_eq_zero h0
    subst this
    exact ⟨none, 0, rfl, fun i p hi => by simp at hi⟩
  · refine ⟨some ⟨g, 0, none⟩, cap, rfl, fun i p hi => ⟨g, 0, rfl, (h.lt g rfl).2, ?_, ?_, ?_⟩⟩
    all_goals have hil : i < l.length := (List.getElem?_eq_some_iff.1 hi).1
    · rw [h.cellAt _ (by omega), Nat.zero_add, show i * 3 = i * 3 + 0 from rfl, pkCells_get l i p hi 0 (by omega)]; rfl
    · rw [h.cellAt _ (by omega), Nat.zero_add, pkCells_get l i p hi 1 (by omega)]; rfl
    · rw [h.cellAt _ (by omega), Nat.zero_add, pkCells_get l i p hi 2 (by omega)]; rfl
def pkOf (x : Int) : Pk := ⟨x % 4, decide (x / 4 % 2 = 1), x / 16⟩
def rd (zs : List Int) (k : Nat) : List Pk := (zs.take k).map pkOf
theorem rd_succ (zs : List Int) (k : Nat) (h : k < zs.length) : rd zs (k + 1) = rd zs k ++ [pkOf (zs.getD k 0)] := by
  unfold rd
  rw [List.take_succ_eq_append_getElem h, List.map_append]
  simp [List.getD, h]
theorem rd_len (zs : List Int) (k : Nat) (h : k ≤ zs.length) : (rd zs k).length = k := by simp [rd]; omega
theorem byte_bits (x : Int) (h0 : 0 ≤ x) (h1 : x ≤ 255) : bits .and .u8 x 3 = x % 4 ∧ (bits .and .u8 x 4 != 0) = decide (x / 4 % 2 = 1) := by
  obtain ⟨n, rfl⟩ := Int.eq_ofNat_of_zero_le h0
  have hn : n < 256 := by omega
  have key : ∀ m : Fin 256, bits .and .u8 (m.val : Int) 3 = (m.val : Int) % 4 ∧ (bits .and .u8 (m.val : Int) 4 != 0) = decide ((m.val : Int) / 4 % 2 = 1) := by decide +kernel
  exact key ⟨n, hn⟩
theorem info29 : (Try.prog.info? 29).map (fun i => (i.zero, i.size, i.bytes)) = some (some (.agg #[.int .i64 0, .bool false, .int .i64 0]), 3, 24) := by kernel_rfl
theorem news3 (w : World) (p : Pk) : ∀ j u, p.cells[j]? = some u → (w.alloc (.cells #[.int .i64 p.t, .bool p.a, .int .i64 p.d] 29)).cell? ((⟨w.heap.size, 0, none⟩ : Addr).add j) = some u := by
  intro j u hu
  match j, hu with
  | 0, hu => simp [Pk.cells] at hu; subst hu; simp [Addr.add]
  | 1, hu => simp [Pk.cells] at hu; subst hu; simp [Addr.add]
  | 2, hu => simp [Pk.cells] at hu; subst hu; simp [Addr.add]
theorem one3 (p : Pk) : ∀ u ∈ p.cells, u.oneCell' = true := by
  intro u hu
  simp [Pk.cells] at hu
  rcases hu with rfl | rfl | rfl <;> rfl
theorem read_any (A : Option Addr) (n cap : Nat) (zs : List Int) (w : World) (hn : n ≤ 1048576) (hl : zs.length = n) (hc : ∀ k, k < n → ∃ b off, A = some ⟨b, off, none⟩ ∧ b < w.heap.size ∧ w.cell? ⟨b, off + k, none⟩ = some (.int .u8 (zs.getD k 0)))
    (hz : ∀ k, k < n → 0 ≤ zs.getD k 0 ∧ zs.getD k 0 ≤ 255) :
    Calls Try.prog 16 #[.slice A n cap] w fun e w' => ∃ v, e = .returned v ∧ w'.ownsRow w.heap.size 29 3 v n (pkCells (rd zs n)) ∧ Below w.heap.size w w' := by
  have HC := Lib.hid hc
  have HZ := Lib.hid hz
  have HL := Lib.hid hl
  clear hc hz hl
  obtain ⟨i0, hi, hz0, hz1, hz2⟩ := info_parts info29
  go_enter Try.func16, Try.ntmps16
  go_wp2_with fail
  go_loopw [3, 8] (fun v i wr => ∃ k : Nat, k ≤ n ∧ i = .int .i64 k ∧ wr.ownsRow w.heap.size 29 3 v k (pkCells (rd zs k)) ∧ Below w.heap.size w wr) (fun _ i _ => n - (intOf i).toNat)
  case atStart => exact ⟨0, Nat.zero_le _, rfl, World.ownsRow_nil _ _ _ _, Bre _⟩
  case round =>
    obtain ⟨k, hk, rfl, hown, hbel⟩ := hrel
    by_cases hlt : k < n
    · obtain ⟨b, off, rfl, hbs, hcell⟩ := HC.out k hlt
      have hx : wr.cell? ⟨b, off + k, none⟩ = some (.int .u8 (zs.getD k 0)) := (hbel.cell hbs).trans hcell
      obtain ⟨hx0, hx1⟩ := HZ.out k hlt
      have HR := Lib.hid (rd_succ zs k (by rw [HL.out]; exact hlt))
      have HP := Lib.hid hown
      clear hcell hown
      generalize zs.getD k 0 = x at *
      obtain ⟨b1, b2⟩ := byte_bits x hx0 hx1
      have hbs' : w.heap.size ≤ wr.heap.size + 1 := by have := hbel.size; omega
      go_wp2_with (at_builtin; refine wpList_append_own _ rfl (.tmp 12) (.tmp 23) 25 rfl w.heap.size 29 i0 _ 3 24 Try.underlying25 hi hz0 hz1 hz2 rfl (by omega) _ k (pkCells (rd zs k)) rfl (HP.out.alloc _) ⟨wr.heap.size, 0, none⟩ 1 1 (pkOf x).cells rfl rfl (news3 wr (pkOf x)) (one3 _) (by unfold maxLen; omega) (by omega) (by simpa using hbs') ?_; intro v' w1 hown' hgrow _)
      go_roundw
      case rel => exact ⟨k + 1, by omega, by go_num, by rw [HR.out, pkCells_snoc]; exact hown', ((Bal hbel _).grown hgrow (Bal hbel _).size (fun g hg => (HP.out.lt g hg).1))⟩
      case measure => simp [intOf]; omega
    · have hkn : k = n := by omega
      subst hkn
      have HP := Lib.hid hown
      clear hown
      go_wp2_with fail
      go_ret
      exact ⟨_, rfl, HP.out, hbel⟩
end Go.Proofs.Ytbfoeinjopgnpaa
