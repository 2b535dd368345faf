/-
  A map from places to words in memory; what an attempt read and left, in plain Lean.
-/
import Derived.Test.YtnjcebfbfecdeaaTime
import Derived.Maps.OwnSet
import Derived.Maps.OwnOps
import Derived.WalkKit
set_option linter.unusedVariables false
namespace Go.Proofs.Ytnjcebfbfecdeaa
open Go.RowKit Go.Maps
theorem key3 : Keyed Try.prog 3 := int_keyed Try.underlying3
theorem zero2 (w : World) : (zeroValue 2).run Try.prog w = .ok (.int .i64 0) w := by kernel_rfl
def upd (f : Int → Int) (x v : Int) : Int → Int := fun y => if y = x then v else f y
/-- Block b is a map that answers as f. -/
def MapIs (w : World) (b n : Nat) (f : Int → Int) : Prop :=
  ∃ D : DataW Unit, w.ownsMap Try.prog 3 (plainElem Try.prog 2) b n D ∧ ∀ x, D.atKey (.int .i64 x) (.lit (.int .i64 0)) = .lit (.int .i64 (f x))
theorem MapIs.made (w : World) : MapIs (w.alloc (.map #[] 0)) w.heap.size 0 (fun _ => 0) :=
  ⟨.map [], World.ownsMap_made _ _ _ _, fun x => rfl⟩
theorem MapIs.lt {w : World} {b n : Nat} {f : Int → Int} (h : MapIs w b n f) : b < w.heap.size := by
  obtain ⟨D, h, _⟩ := h; exact h.lt
theorem MapIs.th {w w' : World} {b n : Nat} {f : Int → Int} (h : MapIs w b n f) (hb : Below w.heap.size w w') : MapIs w' b n f := by
  have hlt := h.lt
  obtain ⟨D, ⟨es, clock, h1, h2⟩, h3⟩ := h
  exact ⟨D, ⟨es, clock, (hb.block b hlt).trans h1, h2⟩, h3⟩
theorem MapIs.mono {w : World} {b n n' : Nat} {f : Int → Int} (h : MapIs w b n f) (hn : n ≤ n') : MapIs w b n' f := by
  obtain ⟨D, h, h3⟩ := h
  exact ⟨D, h.mono hn, h3⟩
theorem put_is {D : DataW Unit} {f : Int → Int} {k v : Int} (hD : IsMap D) (h : ∀ x, D.atKey (.int .i64 x) (.lit (.int .i64 0)) = .lit (.int .i64 (f x))) :
    ∀ x, (D.put (.int .i64 k) (.lit (.int .i64 v))).atKey (.int .i64 x) (.lit (.int .i64 0)) = .lit (.int .i64 (upd f k v x)) := by
  intro x
  by_cases e : x = k
  · subst e
    rw [atKey_put_same hD (by simp [WideAt.IsKeyLit])]
    simp [upd]
  · rw [atKey_put_other (by simpa using e), h]
    simp [upd, e]
def wf64 (x : Int) : Prop := (Lit.int .i64 x).wf = true
theorem wpList_look_mapIs {w : World} {ops : Array Oper} {rest : List Oper} {o : Oper} {a : Act} {Q : Exit → Act → World → Prop} (hg : o.guard = none) (m x : Operand) (hop : o.op = Op.lookup 57 m x false)
    (b n : Nat) (f : Int → Int) (hm : a.eval m = .map (some b)) (z : Int) (hx : a.eval x = .int .i64 z) (hown : MapIs w b n f) (hwf : wf64 z)
    (hK : wpList Try.prog ops Q rest (a.put o.dst (.int .i64 (f z))) w) : wpList Try.prog ops Q (o :: rest) a w := by
  obtain ⟨D, h1, h2⟩ := hown
  refine wpList_lookup_own_int w hg m x 57 hop 3 2 .i64 key3 Try.underlying57 Try.underlying2 (zero2 _) b n D hm h1 _ _ hx (keyOf_int_mk Try.underlying3 hwf) ?_
  intro c hat hwc
  have h3 := hat.symm.trans (h2 z)
  injection h3 with h3
  injection h3 with _ h3
  rw [h3]
  exact hK
theorem wpList_put_mapIs {w : World} {ops : Array Oper} {rest : List Oper} {o : Oper} {a : Act} {Q : Exit → Act → World → Prop} (hg : o.guard = none) (m x v : Operand) (hop : o.op = Op.mapUpdate 57 m x v)
    (b n : Nat) (f : Int → Int) (hm : a.eval m = .map (some b)) (z y : Int) (hx : a.eval x = .int .i64 z) (hv : a.eval v = .int .i64 y) (hown : MapIs w b n f) (hn : n < maxLen) (hwf : wf64 z) (hwy : wf64 y)
    (hK : ∀ w', MapIs w' b (n + 1) (upd f z y) → w.grownBy w' (some b) → wpList Try.prog ops Q rest (a.put o.dst undef) w') : wpList Try.prog ops Q (o :: rest) a w := by
  obtain ⟨D, h1, h2⟩ := hown
  refine wpList_mapUpdate_own w hg m x v 57 hop 3 2 key3 Try.underlying57 _ b n D hm h1 hn _ _ _ hx hv (keyOf_int_mk Try.underlying3 hwf) _ [] (plainElem_int Try.underlying2 hwy) ?_
  intro w1 hown1 hgrow1
  exact hK w1 ⟨_, hown1, put_is h1.isMap h2⟩ hgrow1
/-- What a read of at sees behind the writes ws. -/
def wantS (f : Int → Int) (ws : List Wd) (at_ : Int) : Int := ws.foldl (fun acc p => if p.pl = at_ then p.val else acc) (f at_)
def seenN (p : Att) (k : Nat) : Nat := match p.seen[k]? with
  | some x => min x.toNat p.writes.length
  | none => 0
def dW : Wd := ⟨0, 0⟩
def legK (f : Int → Int) (p : Att) (k : Nat) : Prop := (p.reads.getD k dW).val = wantS f (p.writes.take (seenN p k)) (p.reads.getD k dW).pl
def LegS (f : Int → Int) (p : Att) : Prop := ∀ k, k < p.reads.length → legK f p k
open Classical in
noncomputable def legB (f : Int → Int) (p : Att) : Bool := decide (LegS f p)
theorem legB_t {f : Int → Int} {p : Att} (h : LegS f p) : legB f p = true := by simp [legB, h]
theorem legB_f {f : Int → Int} {p : Att} (h : ¬ LegS f p) : legB f p = false := by simp [legB, h]
def putS (f : Int → Int) (ws : List Wd) : Int → Int := ws.foldl (fun g x => upd g x.pl x.val) f
def appS (f : Int → Int) (p : Att) : Int → Int := if p.en = 6 then putS f p.writes else f
def startS (s : List Int) : Int → Int := fun x => if 0 ≤ x ∧ x < s.length then s.getD x.toNat 0 else 0
def wordsS (f : Int → Int) (l : List Att) (ord : List Int) (k : Nat) : Int → Int := (ord.take k).foldl (fun g x => appS g (l.getD x.toNat dA)) f
/-- Legal: -2, the place of the first attempt that is not as it may be, or -1. -/
def LegalS (s : List Int) (l : List Att) (ord : List Int) (r : Int) : Prop :=
  (¬ MayS l.length ord ∧ r = -2) ∨ (MayS l.length ord ∧ (
    (∃ k : Nat, k < ord.length ∧ r = k ∧ (∀ m, m < k → LegS (wordsS (startS s) l ord m) (l.getD (ord.getD m 0).toNat dA)) ∧ ¬ LegS (wordsS (startS s) l ord k) (l.getD (ord.getD k 0).toNat dA)) ∨
    (r = -1 ∧ ∀ m, m < ord.length → LegS (wordsS (startS s) l ord m) (l.getD (ord.getD m 0).toNat dA))))
theorem LegalS.unique {s : List Int} {l : List Att} {ord : List Int} {r r' : Int} (h : LegalS s l ord r) (h' : LegalS s l ord r') : r = r' := by
  rcases h with ⟨h1, rfl⟩ | ⟨h1, h⟩ <;> rcases h' with ⟨h1', rfl⟩ | ⟨h1', h'⟩
  · rfl
  · exact absurd h1' h1
  · exact absurd h1 h1'
  · rcases h with ⟨k, hk, rfl, ha, hb⟩ | ⟨rfl, ha⟩ <;> rcases h' with ⟨k', hk', rfl, ha', hb'⟩ | ⟨rfl, ha'⟩
    · rcases Nat.lt_trichotomy k k' with h | h | h
      · exact absurd (ha' k h) hb
      · rw [h]
      · exact absurd (ha k' h) hb'
    · exact absurd (ha' k hk) hb
    · exact absurd (ha k' hk') hb'
    · rfl
end Go.Proofs.Ytnjcebfbfecdeaa
