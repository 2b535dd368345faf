/-
  No cell of these rows narrows 'for every input' (looked for: loops, veiled, ifaces, maps, wideKeys, modest, calm, conditions, laid).
  DERIVED. THE GIVEN ROWS OF THIS SEAT. 6 by the template 'for every input the law returns true; each argument reads behind the call as it read before'; 0 by the template 'total and deterministic' (their statements: YtipkaloldlplgaaTotals.lean).
  GIVEN WITH THE SEED: the statements are not yours to turn. If you find one false, say at which input.
  Laid BY PROGRAM, IN A SANDBOX (cutbox-rows.mjs): the forced cells as the released guide's own fill.sh prints them over the translation 6d003ab21ce9e1d2… (all of the seat's roots in one cut). By AI agents, Wed Nov 11 2026. No macro, syntax, notation, axiom, sorry.
-/
import Derived.Test.YtipkaloldlplgaaChecked
import GoSem.Claim
import GoSem.ClaimJoined
import GoSem.ClaimMapViews
import Derived.JoinedTies
import Derived.KernelRfl
namespace Go.Proofs.Ytipkaloldlplgaa
/- THE CELL 'sum', in the pinned program and in every row, IS THE sha256 OF THE DUMP (.gsa) THAT YtipkaloldlplgaaProg.lean LOADS. Nothing in Lean hashes anything: it is a label: what it is worth is what the hold of that sum in a sandbox is worth. -/
noncomputable def Try.pinned : Pinned := { name := "ytipkaloldlplgaa", sum := "6d003ab21ce9e1d2957e881f9824a9ede0a1ceeaae88d0668607b32924e61f94", checked := Try.checked }
namespace Rows
def none {H : Type} : Left H := { results := [], args := [] }

/-- 'syncopelaw4.EvalMay': WHATEVER THE INPUT: true; the input reads as it did. -/
def evalMaySpec : ChangeSpec := { name := "evalMay", fn := fun _ => fun
  | [d1, d2, d3, d4, d5] => { results := [.lit (.bool true)], args := [d1, d2, d3, d4, d5] }
  | _ => none }
def evalMayRow : OpenClaim := { program := "ytipkaloldlplgaa", sum := "6d003ab21ce9e1d2957e881f9824a9ede0a1ceeaae88d0668607b32924e61f94", func := "syncope/syncopelaw4.EvalMay", spec := "evalMay", apart := false }
def EvalMaySaid : Prop := evalMayRow.holds Try.pinned (OpenSpec.ofChange evalMaySpec)

/-- ITS FALSE NEIGHBOUR: 'it returns false'. Refute it at one input. -/
def evalMayWrong : ChangeSpec := { name := "evalMay", fn := fun _ => fun
  | [d1, d2, d3, d4, d5] => { results := [.lit (.bool false)], args := [d1, d2, d3, d4, d5] }
  | _ => none }
def EvalMayWrongFalsely : Prop := evalMayRow.holds Try.pinned (OpenSpec.ofChange evalMayWrong)

/-- 'syncopelaw4.EvalMates': WHATEVER THE INPUT: true; the input reads as it did. -/
def evalMatesSpec : ChangeSpec := { name := "evalMates", fn := fun _ => fun
  | [d] => { results := [.lit (.bool true)], args := [d] }
  | _ => none }
def evalMatesRow : OpenClaim := { program := "ytipkaloldlplgaa", sum := "6d003ab21ce9e1d2957e881f9824a9ede0a1ceeaae88d0668607b32924e61f94", func := "syncope/syncopelaw4.EvalMates", spec := "evalMates", apart := false }
def EvalMatesSaid : Prop := evalMatesRow.holds Try.pinned (OpenSpec.ofChange evalMatesSpec)

/-- ITS FALSE NEIGHBOUR: 'it returns false'. Refute it at one input. -/
def evalMatesWrong : ChangeSpec := { name := "evalMates", fn := fun _ => fun
  | [d] => { results := [.lit (.bool false)], args := [d] }
  | _ => none }
def EvalMatesWrongFalsely : Prop := evalMatesRow.holds Try.pinned (OpenSpec.ofChange evalMatesWrong)

/-- 'syncopelaw4.EvalNest': WHATEVER THE INPUT: true; the input reads as it did. -/
def evalNestSpec : ChangeSpec := { name := "evalNest", fn := fun _ => fun
  | [d1, d2] => { results := [.lit (.bool true)], args := [d1, d2] }
  | _ => none }
def evalNestRow : OpenClaim := { program := "ytipkaloldlplgaa", sum := "6d003ab21ce9e1d2957e881f9824a9ede0a1ceeaae88d0668607b32924e61f94", func := "syncope/syncopelaw4.EvalNest", spec := "evalNest", apart := false }
def EvalNestSaid : Prop := evalNestRow.holds Try.pinned (OpenSpec.ofChange evalNestSpec)

/-- ITS FALSE NEIGHBOUR: 'it returns false'. Refute it at one input. -/
def evalNestWrong : ChangeSpec := { name := "evalNest", fn := fun _ => fun
  | [d1, d2] => { results := [.lit (.bool false)], args := [d1, d2] }
  | _ => none }
def EvalNestWrongFalsely : Prop := evalNestRow.holds Try.pinned (OpenSpec.ofChange evalNestWrong)

/-- 'syncopelaw4.EvalSums': WHATEVER THE INPUT: true; the input reads as it did. -/
def evalSumsSpec : ChangeSpec := { name := "evalSums", fn := fun _ => fun
  | [d] => { results := [.lit (.bool true)], args := [d] }
  | _ => none }
def evalSumsRow : OpenClaim := { program := "ytipkaloldlplgaa", sum := "6d003ab21ce9e1d2957e881f9824a9ede0a1ceeaae88d0668607b32924e61f94", func := "syncope/syncopelaw4.EvalSums", spec := "evalSums", apart := false }
def EvalSumsSaid : Prop := evalSumsRow.holds Try.pinned (OpenSpec.ofChange evalSumsSpec)

/-- ITS FALSE NEIGHBOUR: 'it returns false'. Refute it at one input. -/
def evalSumsWrong : ChangeSpec := { name := "evalSums", fn := fun _ => fun
  | [d] => { results := [.lit (.bool false)], args := [d] }
  | _ => none }
def EvalSumsWrongFalsely : Prop := evalSumsRow.holds Try.pinned (OpenSpec.ofChange evalSumsWrong)

/-- 'syncopelaw4.EvalLoops': WHATEVER THE INPUT: true; the input reads as it did. -/
def evalLoopsSpec : ChangeSpec := { name := "evalLoops", fn := fun _ => fun
  | [d1, d2, d3] => { results := [.lit (.bool true)], args := [d1, d2, d3] }
  | _ => none }
def evalLoopsRow : OpenClaim := { program := "ytipkaloldlplgaa", sum := "6d003ab21ce9e1d2957e881f9824a9ede0a1ceeaae88d0668607b32924e61f94", func := "syncope/syncopelaw4.EvalLoops", spec := "evalLoops", apart := false }
def EvalLoopsSaid : Prop := evalLoopsRow.holds Try.pinned (OpenSpec.ofChange evalLoopsSpec)

/-- ITS FALSE NEIGHBOUR: 'it returns false'. Refute it at one input. -/
def evalLoopsWrong : ChangeSpec := { name := "evalLoops", fn := fun _ => fun
  | [d1, d2, d3] => { results := [.lit (.bool false)], args := [d1, d2, d3] }
  | _ => none }
def EvalLoopsWrongFalsely : Prop := evalLoopsRow.holds Try.pinned (OpenSpec.ofChange evalLoopsWrong)

/-- 'syncopelaw4.EvalNext': WHATEVER THE INPUT: true; the input reads as it did. -/
def evalNextSpec : ChangeSpec := { name := "evalNext", fn := fun _ => fun
  | [d1, d2, d3, d4, d5, d6] => { results := [.lit (.bool true)], args := [d1, d2, d3, d4, d5, d6] }
  | _ => none }
def evalNextRow : OpenClaim := { program := "ytipkaloldlplgaa", sum := "6d003ab21ce9e1d2957e881f9824a9ede0a1ceeaae88d0668607b32924e61f94", func := "syncope/syncopelaw4.EvalNext", spec := "evalNext", apart := false }
def EvalNextSaid : Prop := evalNextRow.holds Try.pinned (OpenSpec.ofChange evalNextSpec)

/-- ITS FALSE NEIGHBOUR: 'it returns false'. Refute it at one input. -/
def evalNextWrong : ChangeSpec := { name := "evalNext", fn := fun _ => fun
  | [d1, d2, d3, d4, d5, d6] => { results := [.lit (.bool false)], args := [d1, d2, d3, d4, d5, d6] }
  | _ => none }
def EvalNextWrongFalsely : Prop := evalNextRow.holds Try.pinned (OpenSpec.ofChange evalNextWrong)

/- THE SECOND FORM. 'bulk': how many values and letters a reading holds, each counted each time it is reached (what is shared counts as often as it is met; a slice's spare places count too). A statement '..UptoSaid' is the law's where the arguments, and the package variables that the reading takes, are together of bulk at most 1048576: NARROWER than '..Said'. Prove '..Said' where nothing that the law and all that it calls make is longer than what came in: it says more and counts as full. Else prove '..UptoSaid'. A law counts once. -/
mutual
def uptoBulk {H : Type} : DataW H → Nat
  | .lit (.string bytes) => bytes.length + 1
  | .lit _ => 1
  | .nil => 1
  | .ptr d => uptoBulk d + 1
  | .slice elems spare => uptoBulkAll elems + uptoBulkAll spare + 1
  | .agg parts => uptoBulkAll parts + 1
  | .iface _ d => uptoBulk d + 1
  | .map entries => uptoBulkEntries entries + 1
  | .held _ => 1
def uptoBulkAll {H : Type} : List (DataW H) → Nat
  | [] => 0
  | d :: r => uptoBulk d + uptoBulkAll r
def uptoBulkEntries {H : Type} : List (Lit × DataW H) → Nat
  | [] => 0
  | x :: r => uptoBulkEntry x + uptoBulkEntries r
def uptoBulkEntry {H : Type} : Lit × DataW H → Nat
  | (.string bytes, d) => bytes.length + uptoBulk d + 1
  | (_, d) => uptoBulk d + 1
 end
def uptoSmall : (H : Type) → List (DataW H) → Bool := fun _ ds => decide (uptoBulkAll ds ≤ 1048576)
def OpenSpec.upto (s : _root_.Go.ChangeSpec) : _root_.Go.OpenSpec := { _root_.Go.OpenSpec.ofChange s with cond := some uptoSmall }

/-- 'syncopelaw4.EvalMay', WHERE WHAT IT READS IS OF BULK AT MOST 1048576: true; the input reads as it did. -/
def evalMayUptoRow : OpenClaim := { program := "ytipkaloldlplgaa", sum := "6d003ab21ce9e1d2957e881f9824a9ede0a1ceeaae88d0668607b32924e61f94", func := "syncope/syncopelaw4.EvalMay", spec := "evalMay", apart := false, narrowed := true }
def EvalMayUptoSaid : Prop := evalMayUptoRow.holds Try.pinned (OpenSpec.upto evalMaySpec)

/-- 'syncopelaw4.EvalMates', WHERE WHAT IT READS IS OF BULK AT MOST 1048576: true; the input reads as it did. -/
def evalMatesUptoRow : OpenClaim := { program := "ytipkaloldlplgaa", sum := "6d003ab21ce9e1d2957e881f9824a9ede0a1ceeaae88d0668607b32924e61f94", func := "syncope/syncopelaw4.EvalMates", spec := "evalMates", apart := false, narrowed := true }
def EvalMatesUptoSaid : Prop := evalMatesUptoRow.holds Try.pinned (OpenSpec.upto evalMatesSpec)

/-- 'syncopelaw4.EvalNest', WHERE WHAT IT READS IS OF BULK AT MOST 1048576: true; the input reads as it did. -/
def evalNestUptoRow : OpenClaim := { program := "ytipkaloldlplgaa", sum := "6d003ab21ce9e1d2957e881f9824a9ede0a1ceeaae88d0668607b32924e61f94", func := "syncope/syncopelaw4.EvalNest", spec := "evalNest", apart := false, narrowed := true }
def EvalNestUptoSaid : Prop := evalNestUptoRow.holds Try.pinned (OpenSpec.upto evalNestSpec)

/-- 'syncopelaw4.EvalSums', WHERE WHAT IT READS IS OF BULK AT MOST 1048576: true; the input reads as it did. -/
def evalSumsUptoRow : OpenClaim := { program := "ytipkaloldlplgaa", sum := "6d003ab21ce9e1d2957e881f9824a9ede0a1ceeaae88d0668607b32924e61f94", func := "syncope/syncopelaw4.EvalSums", spec := "evalSums", apart := false, narrowed := true }
def EvalSumsUptoSaid : Prop := evalSumsUptoRow.holds Try.pinned (OpenSpec.upto evalSumsSpec)

/-- 'syncopelaw4.EvalLoops', WHERE WHAT IT READS IS OF BULK AT MOST 1048576: true; the input reads as it did. -/
def evalLoopsUptoRow : OpenClaim := { program := "ytipkaloldlplgaa", sum := "6d003ab21ce9e1d2957e881f9824a9ede0a1ceeaae88d0668607b32924e61f94", func := "syncope/syncopelaw4.EvalLoops", spec := "evalLoops", apart := false, narrowed := true }
def EvalLoopsUptoSaid : Prop := evalLoopsUptoRow.holds Try.pinned (OpenSpec.upto evalLoopsSpec)

/-- 'syncopelaw4.EvalNext', WHERE WHAT IT READS IS OF BULK AT MOST 1048576: true; the input reads as it did. -/
def evalNextUptoRow : OpenClaim := { program := "ytipkaloldlplgaa", sum := "6d003ab21ce9e1d2957e881f9824a9ede0a1ceeaae88d0668607b32924e61f94", func := "syncope/syncopelaw4.EvalNext", spec := "evalNext", apart := false, narrowed := true }
def EvalNextUptoSaid : Prop := evalNextUptoRow.holds Try.pinned (OpenSpec.upto evalNextSpec)

end Rows
end Go.Proofs.Ytipkaloldlplgaa
