/-
  No cell of these rows narrows 'for every input' (looked for: loops, veiled, ifaces, maps, wideKeys, modest, calm, conditions, laid).
  DERIVED. THE GIVEN ROWS OF THIS SEAT. 5 by the template 'for every input the law returns true; each argument reads behind the call as it read before'; 0 by the template 'total and deterministic' (their statements: YtbfoeinjopgnpaaTotals.lean).
  GIVEN WITH THE SEED: the statements are not yours to turn. If you find one false, say at which input.
  Laid BY PROGRAM, IN A SANDBOX (cutbox-rows.mjs): the forced cells as the released guide's own fill.sh prints them over the translation 97a61fc9f929ec5b… (all of the seat's roots in one cut). By AI agents, Wed Nov 11 2026. No macro, syntax, notation, axiom, sorry.
-/
import Derived.Test.YtbfoeinjopgnpaaChecked
import GoSem.Claim
import GoSem.ClaimJoined
import GoSem.ClaimMapViews
import Derived.JoinedTies
import Derived.KernelRfl
namespace Go.Proofs.Ytbfoeinjopgnpaa
/- THE CELL 'sum', in the pinned program and in every row, IS THE sha256 OF THE DUMP (.gsa) THAT YtbfoeinjopgnpaaProg.lean LOADS. Nothing in Lean hashes anything: it is a label: what it is worth is what the hold of that sum in a sandbox is worth. -/
noncomputable def Try.pinned : Pinned := { name := "ytbfoeinjopgnpaa", sum := "97a61fc9f929ec5b769be855d0c22af33b93cf1022ff6b6075a3380d73902e47", checked := Try.checked }
namespace Rows
def none {H : Type} : Left H := { results := [], args := [] }

/-- 'syncopelaw7.PickFair': WHATEVER THE INPUT: true; the input reads as it did. -/
def pickFairSpec : ChangeSpec := { name := "pickFair", fn := fun _ => fun
  | [d1, d2, d3, d4] => { results := [.lit (.bool true)], args := [d1, d2, d3, d4] }
  | _ => none }
def pickFairRow : OpenClaim := { program := "ytbfoeinjopgnpaa", sum := "97a61fc9f929ec5b769be855d0c22af33b93cf1022ff6b6075a3380d73902e47", func := "syncope/syncopelaw7.PickFair", spec := "pickFair", apart := false }
def PickFairSaid : Prop := pickFairRow.holds Try.pinned (OpenSpec.ofChange pickFairSpec)

/-- ITS FALSE NEIGHBOUR: 'it returns false'. Refute it at one input. -/
def pickFairWrong : ChangeSpec := { name := "pickFair", fn := fun _ => fun
  | [d1, d2, d3, d4] => { results := [.lit (.bool false)], args := [d1, d2, d3, d4] }
  | _ => none }
def PickFairWrongFalsely : Prop := pickFairRow.holds Try.pinned (OpenSpec.ofChange pickFairWrong)

/-- 'syncopelaw7.PickRound': WHATEVER THE INPUT: true; the input reads as it did. -/
def pickRoundSpec : ChangeSpec := { name := "pickRound", fn := fun _ => fun
  | [d1, d2, d3] => { results := [.lit (.bool true)], args := [d1, d2, d3] }
  | _ => none }
def pickRoundRow : OpenClaim := { program := "ytbfoeinjopgnpaa", sum := "97a61fc9f929ec5b769be855d0c22af33b93cf1022ff6b6075a3380d73902e47", func := "syncope/syncopelaw7.PickRound", spec := "pickRound", apart := false }
def PickRoundSaid : Prop := pickRoundRow.holds Try.pinned (OpenSpec.ofChange pickRoundSpec)

/-- ITS FALSE NEIGHBOUR: 'it returns false'. Refute it at one input. -/
def pickRoundWrong : ChangeSpec := { name := "pickRound", fn := fun _ => fun
  | [d1, d2, d3] => { results := [.lit (.bool false)], args := [d1, d2, d3] }
  | _ => none }
def PickRoundWrongFalsely : Prop := pickRoundRow.holds Try.pinned (OpenSpec.ofChange pickRoundWrong)

/-- 'syncopelaw7.PickMix': WHATEVER THE INPUT: true; the input reads as it did. -/
def pickMixSpec : ChangeSpec := { name := "pickMix", fn := fun _ => fun
  | [d1, d2, d3, d4] => { results := [.lit (.bool true)], args := [d1, d2, d3, d4] }
  | _ => none }
def pickMixRow : OpenClaim := { program := "ytbfoeinjopgnpaa", sum := "97a61fc9f929ec5b769be855d0c22af33b93cf1022ff6b6075a3380d73902e47", func := "syncope/syncopelaw7.PickMix", spec := "pickMix", apart := false }
def PickMixSaid : Prop := pickMixRow.holds Try.pinned (OpenSpec.ofChange pickMixSpec)

/-- ITS FALSE NEIGHBOUR: 'it returns false'. Refute it at one input. -/
def pickMixWrong : ChangeSpec := { name := "pickMix", fn := fun _ => fun
  | [d1, d2, d3, d4] => { results := [.lit (.bool false)], args := [d1, d2, d3, d4] }
  | _ => none }
def PickMixWrongFalsely : Prop := pickMixRow.holds Try.pinned (OpenSpec.ofChange pickMixWrong)

/-- 'syncopelaw7.PickReads': WHATEVER THE INPUT: true; the input reads as it did. -/
def pickReadsSpec : ChangeSpec := { name := "pickReads", fn := fun _ => fun
  | [d] => { results := [.lit (.bool true)], args := [d] }
  | _ => none }
def pickReadsRow : OpenClaim := { program := "ytbfoeinjopgnpaa", sum := "97a61fc9f929ec5b769be855d0c22af33b93cf1022ff6b6075a3380d73902e47", func := "syncope/syncopelaw7.PickReads", spec := "pickReads", apart := false }
def PickReadsSaid : Prop := pickReadsRow.holds Try.pinned (OpenSpec.ofChange pickReadsSpec)

/-- ITS FALSE NEIGHBOUR: 'it returns false'. Refute it at one input. -/
def pickReadsWrong : ChangeSpec := { name := "pickReads", fn := fun _ => fun
  | [d] => { results := [.lit (.bool false)], args := [d] }
  | _ => none }
def PickReadsWrongFalsely : Prop := pickReadsRow.holds Try.pinned (OpenSpec.ofChange pickReadsWrong)

/-- 'syncopelaw7.PickPuts': WHATEVER THE INPUT: true; the input reads as it did. -/
def pickPutsSpec : ChangeSpec := { name := "pickPuts", fn := fun _ => fun
  | [d1, d2] => { results := [.lit (.bool true)], args := [d1, d2] }
  | _ => none }
def pickPutsRow : OpenClaim := { program := "ytbfoeinjopgnpaa", sum := "97a61fc9f929ec5b769be855d0c22af33b93cf1022ff6b6075a3380d73902e47", func := "syncope/syncopelaw7.PickPuts", spec := "pickPuts", apart := false }
def PickPutsSaid : Prop := pickPutsRow.holds Try.pinned (OpenSpec.ofChange pickPutsSpec)

/-- ITS FALSE NEIGHBOUR: 'it returns false'. Refute it at one input. -/
def pickPutsWrong : ChangeSpec := { name := "pickPuts", fn := fun _ => fun
  | [d1, d2] => { results := [.lit (.bool false)], args := [d1, d2] }
  | _ => none }
def PickPutsWrongFalsely : Prop := pickPutsRow.holds Try.pinned (OpenSpec.ofChange pickPutsWrong)

/- THE SECOND FORM. 'bulk': how many values and letters a reading holds, each counted each time it is reached (what is shared counts as often as it is met; a slice's spare places count too). A statement '..UptoSaid' is the law's where the arguments, and the package variables that the reading takes, are together of bulk at most 1048576: NARROWER than '..Said'. Prove '..Said' where nothing that the law and all that it calls make is longer than what came in: it says more and counts as full. Else prove '..UptoSaid'. A law counts once. -/
mutual
def uptoBulk {H : Type} : DataW H → Nat
  | .lit (.string bytes) => bytes.length + 1
  | .lit _ => 1
  | .nil => 1
  | .ptr d => uptoBulk d + 1
  | .slice elems spare => uptoBulkAll elems + uptoBulkAll spare + 1
  | .agg parts => uptoBulkAll parts + 1
  | .iface _ d => uptoBulk d + 1
  | .map entries => uptoBulkEntries entries + 1
  | .held _ => 1
def uptoBulkAll {H : Type} : List (DataW H) → Nat
  | [] => 0
  | d :: r => uptoBulk d + uptoBulkAll r
def uptoBulkEntries {H : Type} : List (Lit × DataW H) → Nat
  | [] => 0
  | x :: r => uptoBulkEntry x + uptoBulkEntries r
def uptoBulkEntry {H : Type} : Lit × DataW H → Nat
  | (.string bytes, d) => bytes.length + uptoBulk d + 1
  | (_, d) => uptoBulk d + 1
 end
def uptoSmall : (H : Type) → List (DataW H) → Bool := fun _ ds => decide (uptoBulkAll ds ≤ 1048576)
def OpenSpec.upto (s : _root_.Go.ChangeSpec) : _root_.Go.OpenSpec := { _root_.Go.OpenSpec.ofChange s with cond := some uptoSmall }

/-- 'syncopelaw7.PickFair', WHERE WHAT IT READS IS OF BULK AT MOST 1048576: true; the input reads as it did. -/
def pickFairUptoRow : OpenClaim := { program := "ytbfoeinjopgnpaa", sum := "97a61fc9f929ec5b769be855d0c22af33b93cf1022ff6b6075a3380d73902e47", func := "syncope/syncopelaw7.PickFair", spec := "pickFair", apart := false, narrowed := true }
def PickFairUptoSaid : Prop := pickFairUptoRow.holds Try.pinned (OpenSpec.upto pickFairSpec)

/-- 'syncopelaw7.PickRound', WHERE WHAT IT READS IS OF BULK AT MOST 1048576: true; the input reads as it did. -/
def pickRoundUptoRow : OpenClaim := { program := "ytbfoeinjopgnpaa", sum := "97a61fc9f929ec5b769be855d0c22af33b93cf1022ff6b6075a3380d73902e47", func := "syncope/syncopelaw7.PickRound", spec := "pickRound", apart := false, narrowed := true }
def PickRoundUptoSaid : Prop := pickRoundUptoRow.holds Try.pinned (OpenSpec.upto pickRoundSpec)

/-- 'syncopelaw7.PickMix', WHERE WHAT IT READS IS OF BULK AT MOST 1048576: true; the input reads as it did. -/
def pickMixUptoRow : OpenClaim := { program := "ytbfoeinjopgnpaa", sum := "97a61fc9f929ec5b769be855d0c22af33b93cf1022ff6b6075a3380d73902e47", func := "syncope/syncopelaw7.PickMix", spec := "pickMix", apart := false, narrowed := true }
def PickMixUptoSaid : Prop := pickMixUptoRow.holds Try.pinned (OpenSpec.upto pickMixSpec)

/-- 'syncopelaw7.PickReads', WHERE WHAT IT READS IS OF BULK AT MOST 1048576: true; the input reads as it did. -/
def pickReadsUptoRow : OpenClaim := { program := "ytbfoeinjopgnpaa", sum := "97a61fc9f929ec5b769be855d0c22af33b93cf1022ff6b6075a3380d73902e47", func := "syncope/syncopelaw7.PickReads", spec := "pickReads", apart := false, narrowed := true }
def PickReadsUptoSaid : Prop := pickReadsUptoRow.holds Try.pinned (OpenSpec.upto pickReadsSpec)

/-- 'syncopelaw7.PickPuts', WHERE WHAT IT READS IS OF BULK AT MOST 1048576: true; the input reads as it did. -/
def pickPutsUptoRow : OpenClaim := { program := "ytbfoeinjopgnpaa", sum := "97a61fc9f929ec5b769be855d0c22af33b93cf1022ff6b6075a3380d73902e47", func := "syncope/syncopelaw7.PickPuts", spec := "pickPuts", apart := false, narrowed := true }
def PickPutsUptoSaid : Prop := pickPutsUptoRow.holds Try.pinned (OpenSpec.upto pickPutsSpec)

end Rows
end Go.Proofs.Ytbfoeinjopgnpaa
