/-
  No cell of these rows narrows 'for every input' (looked for: loops, veiled, ifaces, maps, wideKeys, modest, calm, conditions, laid).
  DERIVED. THE GIVEN ROWS OF THIS SEAT. 4 by the template 'for every input the law returns true; each argument reads behind the call as it read before'; 0 by the template 'total and deterministic' (their statements: YtpgalfenbhobnaaTotals.lean).
  GIVEN WITH THE SEED: the statements are not yours to turn. If you find one false, say at which input.
  Laid BY PROGRAM, IN A SANDBOX (cutbox-rows.mjs): the forced cells as the released guide's own fill.sh prints them over the translation 6e56913c341a4714… (all of the seat's roots in one cut). By AI agents, Wed Nov 11 2026. No macro, syntax, notation, axiom, sorry.
-/
import Derived.Test.YtpgalfenbhobnaaChecked
import GoSem.Claim
import GoSem.ClaimJoined
import GoSem.ClaimMapViews
import Derived.JoinedTies
import Derived.KernelRfl
namespace Go.Proofs.Ytpgalfenbhobnaa
/- THE CELL 'sum', in the pinned program and in every row, IS THE sha256 OF THE DUMP (.gsa) THAT YtpgalfenbhobnaaProg.lean LOADS. Nothing in Lean hashes anything: it is a label: what it is worth is what the hold of that sum in a sandbox is worth. -/
noncomputable def Try.pinned : Pinned := { name := "ytpgalfenbhobnaa", sum := "6e56913c341a471416ee608b81a2888aaf06b0d89ab010411b46d5d52f4b22c2", checked := Try.checked }
namespace Rows
def none {H : Type} : Left H := { results := [], args := [] }

/-- 'syncopelaw19.PolicyDelay': WHATEVER THE INPUT: true; the input reads as it did. -/
def policyDelaySpec : ChangeSpec := { name := "policyDelay", fn := fun _ => fun
  | [d1, d2] => { results := [.lit (.bool true)], args := [d1, d2] }
  | _ => none }
def policyDelayRow : OpenClaim := { program := "ytpgalfenbhobnaa", sum := "6e56913c341a471416ee608b81a2888aaf06b0d89ab010411b46d5d52f4b22c2", func := "syncope/syncopelaw19.PolicyDelay", spec := "policyDelay", apart := false }
def PolicyDelaySaid : Prop := policyDelayRow.holds Try.pinned (OpenSpec.ofChange policyDelaySpec)

/-- ITS FALSE NEIGHBOUR: 'it returns false'. Refute it at one input. -/
def policyDelayWrong : ChangeSpec := { name := "policyDelay", fn := fun _ => fun
  | [d1, d2] => { results := [.lit (.bool false)], args := [d1, d2] }
  | _ => none }
def PolicyDelayWrongFalsely : Prop := policyDelayRow.holds Try.pinned (OpenSpec.ofChange policyDelayWrong)

/-- 'syncopelaw19.PolicyAsks': WHATEVER THE INPUT: true; the input reads as it did. -/
def policyAsksSpec : ChangeSpec := { name := "policyAsks", fn := fun _ => fun
  | [d1, d2, d3, d4, d5, d6] => { results := [.lit (.bool true)], args := [d1, d2, d3, d4, d5, d6] }
  | _ => none }
def policyAsksRow : OpenClaim := { program := "ytpgalfenbhobnaa", sum := "6e56913c341a471416ee608b81a2888aaf06b0d89ab010411b46d5d52f4b22c2", func := "syncope/syncopelaw19.PolicyAsks", spec := "policyAsks", apart := false }
def PolicyAsksSaid : Prop := policyAsksRow.holds Try.pinned (OpenSpec.ofChange policyAsksSpec)

/-- ITS FALSE NEIGHBOUR: 'it returns false'. Refute it at one input. -/
def policyAsksWrong : ChangeSpec := { name := "policyAsks", fn := fun _ => fun
  | [d1, d2, d3, d4, d5, d6] => { results := [.lit (.bool false)], args := [d1, d2, d3, d4, d5, d6] }
  | _ => none }
def PolicyAsksWrongFalsely : Prop := policyAsksRow.holds Try.pinned (OpenSpec.ofChange policyAsksWrong)

/-- 'syncopelaw19.PolicyEnds': WHATEVER THE INPUT: true; the input reads as it did. -/
def policyEndsSpec : ChangeSpec := { name := "policyEnds", fn := fun _ => fun
  | [d1, d2] => { results := [.lit (.bool true)], args := [d1, d2] }
  | _ => none }
def policyEndsRow : OpenClaim := { program := "ytpgalfenbhobnaa", sum := "6e56913c341a471416ee608b81a2888aaf06b0d89ab010411b46d5d52f4b22c2", func := "syncope/syncopelaw19.PolicyEnds", spec := "policyEnds", apart := false }
def PolicyEndsSaid : Prop := policyEndsRow.holds Try.pinned (OpenSpec.ofChange policyEndsSpec)

/-- ITS FALSE NEIGHBOUR: 'it returns false'. Refute it at one input. -/
def policyEndsWrong : ChangeSpec := { name := "policyEnds", fn := fun _ => fun
  | [d1, d2] => { results := [.lit (.bool false)], args := [d1, d2] }
  | _ => none }
def PolicyEndsWrongFalsely : Prop := policyEndsRow.holds Try.pinned (OpenSpec.ofChange policyEndsWrong)

/-- 'syncopelaw19.PolicyCounts': WHATEVER THE INPUT: true; the input reads as it did. -/
def policyCountsSpec : ChangeSpec := { name := "policyCounts", fn := fun _ => fun
  | [d] => { results := [.lit (.bool true)], args := [d] }
  | _ => none }
def policyCountsRow : OpenClaim := { program := "ytpgalfenbhobnaa", sum := "6e56913c341a471416ee608b81a2888aaf06b0d89ab010411b46d5d52f4b22c2", func := "syncope/syncopelaw19.PolicyCounts", spec := "policyCounts", apart := false }
def PolicyCountsSaid : Prop := policyCountsRow.holds Try.pinned (OpenSpec.ofChange policyCountsSpec)

/-- ITS FALSE NEIGHBOUR: 'it returns false'. Refute it at one input. -/
def policyCountsWrong : ChangeSpec := { name := "policyCounts", fn := fun _ => fun
  | [d] => { results := [.lit (.bool false)], args := [d] }
  | _ => none }
def PolicyCountsWrongFalsely : Prop := policyCountsRow.holds Try.pinned (OpenSpec.ofChange policyCountsWrong)

/- THE SECOND FORM. 'bulk': how many values and letters a reading holds, each counted each time it is reached (what is shared counts as often as it is met; a slice's spare places count too). A statement '..UptoSaid' is the law's where the arguments, and the package variables that the reading takes, are together of bulk at most 1048576: NARROWER than '..Said'. Prove '..Said' where nothing that the law and all that it calls make is longer than what came in: it says more and counts as full. Else prove '..UptoSaid'. A law counts once. -/
mutual
def uptoBulk {H : Type} : DataW H → Nat
  | .lit (.string bytes) => bytes.length + 1
  | .lit _ => 1
  | .nil => 1
  | .ptr d => uptoBulk d + 1
  | .slice elems spare => uptoBulkAll elems + uptoBulkAll spare + 1
  | .agg parts => uptoBulkAll parts + 1
  | .iface _ d => uptoBulk d + 1
  | .map entries => uptoBulkEntries entries + 1
  | .held _ => 1
def uptoBulkAll {H : Type} : List (DataW H) → Nat
  | [] => 0
  | d :: r => uptoBulk d + uptoBulkAll r
def uptoBulkEntries {H : Type} : List (Lit × DataW H) → Nat
  | [] => 0
  | x :: r => uptoBulkEntry x + uptoBulkEntries r
def uptoBulkEntry {H : Type} : Lit × DataW H → Nat
  | (.string bytes, d) => bytes.length + uptoBulk d + 1
  | (_, d) => uptoBulk d + 1
 end
def uptoSmall : (H : Type) → List (DataW H) → Bool := fun _ ds => decide (uptoBulkAll ds ≤ 1048576)
def OpenSpec.upto (s : _root_.Go.ChangeSpec) : _root_.Go.OpenSpec := { _root_.Go.OpenSpec.ofChange s with cond := some uptoSmall }

/-- 'syncopelaw19.PolicyDelay', WHERE WHAT IT READS IS OF BULK AT MOST 1048576: true; the input reads as it did. -/
def policyDelayUptoRow : OpenClaim := { program := "ytpgalfenbhobnaa", sum := "6e56913c341a471416ee608b81a2888aaf06b0d89ab010411b46d5d52f4b22c2", func := "syncope/syncopelaw19.PolicyDelay", spec := "policyDelay", apart := false, narrowed := true }
def PolicyDelayUptoSaid : Prop := policyDelayUptoRow.holds Try.pinned (OpenSpec.upto policyDelaySpec)

/-- 'syncopelaw19.PolicyAsks', WHERE WHAT IT READS IS OF BULK AT MOST 1048576: true; the input reads as it did. -/
def policyAsksUptoRow : OpenClaim := { program := "ytpgalfenbhobnaa", sum := "6e56913c341a471416ee608b81a2888aaf06b0d89ab010411b46d5d52f4b22c2", func := "syncope/syncopelaw19.PolicyAsks", spec := "policyAsks", apart := false, narrowed := true }
def PolicyAsksUptoSaid : Prop := policyAsksUptoRow.holds Try.pinned (OpenSpec.upto policyAsksSpec)

/-- 'syncopelaw19.PolicyEnds', WHERE WHAT IT READS IS OF BULK AT MOST 1048576: true; the input reads as it did. -/
def policyEndsUptoRow : OpenClaim := { program := "ytpgalfenbhobnaa", sum := "6e56913c341a471416ee608b81a2888aaf06b0d89ab010411b46d5d52f4b22c2", func := "syncope/syncopelaw19.PolicyEnds", spec := "policyEnds", apart := false, narrowed := true }
def PolicyEndsUptoSaid : Prop := policyEndsUptoRow.holds Try.pinned (OpenSpec.upto policyEndsSpec)

/-- 'syncopelaw19.PolicyCounts', WHERE WHAT IT READS IS OF BULK AT MOST 1048576: true; the input reads as it did. -/
def policyCountsUptoRow : OpenClaim := { program := "ytpgalfenbhobnaa", sum := "6e56913c341a471416ee608b81a2888aaf06b0d89ab010411b46d5d52f4b22c2", func := "syncope/syncopelaw19.PolicyCounts", spec := "policyCounts", apart := false, narrowed := true }
def PolicyCountsUptoSaid : Prop := policyCountsUptoRow.holds Try.pinned (OpenSpec.upto policyCountsSpec)

end Rows
end Go.Proofs.Ytpgalfenbhobnaa
