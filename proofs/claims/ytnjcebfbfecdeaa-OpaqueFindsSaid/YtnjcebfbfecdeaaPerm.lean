/-
  The next order in the order of words; the search finds the first that is right of all of them.
-/
import Derived.Test.YtnjcebfbfecdeaaSerial
set_option linter.unusedVariables false
namespace Go.Proofs.Ytnjcebfbfecdeaa
open Go.RowKit Go.Maps
def ext (n : Nat) : Nat → List Int → List (List Int)
  | 0, o => [o]
  | f + 1, o => (List.range n).flatMap fun (i : Nat) => if (i : Int) ∈ o then [] else ext n f (o ++ [(i : Int)])
def allP (n : Nat) : List (List Int) := ext n n []
def piv (o : List Int) : Nat → Option Nat
  | 0 => none
  | c + 1 => if o.getD (c + 1) 0 < o.getD c 0 then piv o c else some c
def kk (o : List Int) (x : Int) : Nat → Nat
  | 0 => 0
  | c + 1 => if o.getD (c + 1) 0 < x then kk o x c else c + 1
def swp (o : List Int) (i k : Nat) : List Int := (o.set i (o.getD k 0)).set k (o.getD i 0)
def rev : Nat → Nat → Nat → List Int → List Int
  | 0, _, _, o => o
  | f + 1, a, b, o => if a < b then rev f (a + 1) (b - 1) (swp o a b) else o
def nxt (o : List Int) : Option (List Int) := match piv o (o.length - 1) with
  | none => none
  | some i => some (rev o.length (i + 1) (o.length - 1) (swp o i (kk o (o.getD i 0) (o.length - 1))))
theorem nxt_tab : ∀ n, n < 6 → ∀ q, q < (allP n).length → nxt ((allP n).getD q []) = (allP n)[q + 1]? := by decide +kernel
theorem all_first : ∀ n, n < 6 → (allP n)[0]? = some (idn n) := by decide +kernel
theorem all_len : ∀ n, n < 6 → ∀ r ∈ allP n, r.length = n := by decide +kernel
theorem next_of {n q : Nat} {o : List Int} (hn : n < 6) (h : (allP n)[q]? = some o) : nxt o = (allP n)[q + 1]? := by
  have hq := (List.getElem?_eq_some_iff.1 h).1
  have := nxt_tab n hn q hq
  rwa [List.getD, h] at this
open Classical in
theorem find_ext (s : List Int) (l : List Att) (f : Nat) : ∀ o, findF s l f o = (ext l.length f o).find? (fun r => decide (Right s l r)) := by
  induction f with
  | zero =>
    intro o
    by_cases h : Right s l o
    · rw [findF_zero_t h]; simp [ext, h]
    · rw [findF_zero_f h]; simp [ext, h]
  | succ f ih =>
    intro o
    unfold findF ext
    rw [List.find?_flatMap]
    congr 1
    funext i
    by_cases e : (i : Int) ∈ o
    · rw [if_pos e, if_pos e]; rfl
    · rw [if_neg e, if_neg e, ih]
theorem find_hit {s : List Int} {l : List Att} {q : Nat} {o : List Int} (h : (allP l.length)[q]? = some o) (hr : Right s l o) (hno : ∀ j r, j < q → (allP l.length)[j]? = some r → ¬ Right s l r) : findF s l l.length [] = some o := by
  rw [find_ext, show ext l.length l.length [] = allP l.length from rfl, List.find?_eq_some_iff_getElem]
  obtain ⟨hq, he⟩ := List.getElem?_eq_some_iff.1 h
  refine ⟨by simpa using hr, q, hq, he, fun j hj => ?_⟩
  have := hno j _ hj (List.getElem?_eq_getElem (by omega))
  simpa using this
theorem find_miss {s : List Int} {l : List Att} (hno : ∀ (j : Nat) r, (allP l.length)[j]? = some r → ¬ Right s l r) : findF s l l.length [] = none := by
  rw [find_ext, show ext l.length l.length [] = allP l.length from rfl, List.find?_eq_none]
  intro r hr
  obtain ⟨j, hj⟩ := List.getElem?_of_mem hr
  simpa using hno j r hj
theorem right_nil (s : List Int) : Right s [] [] := by
  have hm : MayS 0 [] := by decide
  exact ⟨⟨hm, fun k m _ hk => by simp at hk⟩, Or.inr ⟨hm, Or.inr ⟨rfl, fun m hm => by simp at hm⟩⟩⟩
theorem rev_step {f a b : Nat} {o : List Int} (h : a < b) : rev (f + 1) a b o = rev f (a + 1) (b - 1) (swp o a b) := by rw [rev, if_pos h]
theorem rev_done {f a b : Nat} {o : List Int} (h : ¬ a < b) : rev f a b o = o := by
  cases f with
  | zero => rfl
  | succ f => rw [rev, if_neg h]
theorem swp_len (o : List Int) (i k : Nat) : (swp o i k).length = o.length := by simp [swp]
theorem swp_at (o : List Int) (i k j : Nat) (hi : i < o.length) (hk : k < o.length) : (swp o i k).getD j 0 = if j = k then o.getD i 0 else if j = i then o.getD k 0 else o.getD j 0 := by
  unfold swp
  by_cases e : j = k
  · subst e
    rw [if_pos rfl, List.getD, List.getElem?_set_self (by simpa using hk)]; rfl
  · rw [if_neg e, List.getD, List.getElem?_set_ne (fun h => e h.symm)]
    by_cases e2 : j = i
    · subst e2
      rw [if_pos rfl, List.getElem?_set_self hi]; rfl
    · rw [if_neg e2, List.getElem?_set_ne (fun h => e2 h.symm)]; rfl
end Go.Proofs.Ytnjcebfbfecdeaa
