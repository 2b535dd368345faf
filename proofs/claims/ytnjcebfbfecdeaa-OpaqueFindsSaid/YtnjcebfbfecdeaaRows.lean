/-
  No cell of these rows narrows 'for every input' (looked for: loops, veiled, ifaces, maps, wideKeys, modest, calm, conditions, laid).
  DERIVED. THE GIVEN ROWS OF THIS SEAT. 5 by the template 'for every input the law returns true; each argument reads behind the call as it read before'; 0 by the template 'total and deterministic' (their statements: YtnjcebfbfecdeaaTotals.lean).
  GIVEN WITH THE SEED: the statements are not yours to turn. If you find one false, say at which input.
  Laid BY PROGRAM, IN A SANDBOX (cutbox-rows.mjs): the forced cells as the released guide's own fill.sh prints them over the translation 87790a3dcde62f38… (all of the seat's roots in one cut). By AI agents, Wed Nov 11 2026. No macro, syntax, notation, axiom, sorry.
-/
import Derived.Test.YtnjcebfbfecdeaaChecked
import GoSem.Claim
import GoSem.ClaimJoined
import GoSem.ClaimMapViews
import Derived.JoinedTies
import Derived.KernelRfl
namespace Go.Proofs.Ytnjcebfbfecdeaa
/- THE CELL 'sum', in the pinned program and in every row, IS THE sha256 OF THE DUMP (.gsa) THAT YtnjcebfbfecdeaaProg.lean LOADS. Nothing in Lean hashes anything: it is a label: what it is worth is what the hold of that sum in a sandbox is worth. -/
noncomputable def Try.pinned : Pinned := { name := "ytnjcebfbfecdeaa", sum := "87790a3dcde62f38cdc5f44ef458ccd44a490d6957c70e3aa49896e490593478", checked := Try.checked }
namespace Rows
def none {H : Type} : Left H := { results := [], args := [] }

/-- 'syncopelaw26.OpaqueAsks': WHATEVER THE INPUT: true; the input reads as it did. -/
def opaqueAsksSpec : ChangeSpec := { name := "opaqueAsks", fn := fun _ => fun
  | [d1, d2, d3, d4, d5, d6] => { results := [.lit (.bool true)], args := [d1, d2, d3, d4, d5, d6] }
  | _ => none }
def opaqueAsksRow : OpenClaim := { program := "ytnjcebfbfecdeaa", sum := "87790a3dcde62f38cdc5f44ef458ccd44a490d6957c70e3aa49896e490593478", func := "syncope/syncopelaw26.OpaqueAsks", spec := "opaqueAsks", apart := false }
def OpaqueAsksSaid : Prop := opaqueAsksRow.holds Try.pinned (OpenSpec.ofChange opaqueAsksSpec)

/-- ITS FALSE NEIGHBOUR: 'it returns false'. Refute it at one input. -/
def opaqueAsksWrong : ChangeSpec := { name := "opaqueAsks", fn := fun _ => fun
  | [d1, d2, d3, d4, d5, d6] => { results := [.lit (.bool false)], args := [d1, d2, d3, d4, d5, d6] }
  | _ => none }
def OpaqueAsksWrongFalsely : Prop := opaqueAsksRow.holds Try.pinned (OpenSpec.ofChange opaqueAsksWrong)

/-- 'syncopelaw26.OpaqueTime': WHATEVER THE INPUT: true; the input reads as it did. -/
def opaqueTimeSpec : ChangeSpec := { name := "opaqueTime", fn := fun _ => fun
  | [d1, d2] => { results := [.lit (.bool true)], args := [d1, d2] }
  | _ => none }
def opaqueTimeRow : OpenClaim := { program := "ytnjcebfbfecdeaa", sum := "87790a3dcde62f38cdc5f44ef458ccd44a490d6957c70e3aa49896e490593478", func := "syncope/syncopelaw26.OpaqueTime", spec := "opaqueTime", apart := false }
def OpaqueTimeSaid : Prop := opaqueTimeRow.holds Try.pinned (OpenSpec.ofChange opaqueTimeSpec)

/-- ITS FALSE NEIGHBOUR: 'it returns false'. Refute it at one input. -/
def opaqueTimeWrong : ChangeSpec := { name := "opaqueTime", fn := fun _ => fun
  | [d1, d2] => { results := [.lit (.bool false)], args := [d1, d2] }
  | _ => none }
def OpaqueTimeWrongFalsely : Prop := opaqueTimeRow.holds Try.pinned (OpenSpec.ofChange opaqueTimeWrong)

/-- 'syncopelaw26.OpaqueFinds': WHATEVER THE INPUT: true; the input reads as it did. -/
def opaqueFindsSpec : ChangeSpec := { name := "opaqueFinds", fn := fun _ => fun
  | [d1, d2, d3] => { results := [.lit (.bool true)], args := [d1, d2, d3] }
  | _ => none }
def opaqueFindsRow : OpenClaim := { program := "ytnjcebfbfecdeaa", sum := "87790a3dcde62f38cdc5f44ef458ccd44a490d6957c70e3aa49896e490593478", func := "syncope/syncopelaw26.OpaqueFinds", spec := "opaqueFinds", recurses := true, apart := false }
def OpaqueFindsSaid : Prop := opaqueFindsRow.holds Try.pinned (OpenSpec.ofChange opaqueFindsSpec)

/-- ITS FALSE NEIGHBOUR: 'it returns false'. Refute it at one input. -/
def opaqueFindsWrong : ChangeSpec := { name := "opaqueFinds", fn := fun _ => fun
  | [d1, d2, d3] => { results := [.lit (.bool false)], args := [d1, d2, d3] }
  | _ => none }
def OpaqueFindsWrongFalsely : Prop := opaqueFindsRow.holds Try.pinned (OpenSpec.ofChange opaqueFindsWrong)

/-- 'syncopelaw26.OpaqueSerial': WHATEVER THE INPUT: true; the input reads as it did. -/
def opaqueSerialSpec : ChangeSpec := { name := "opaqueSerial", fn := fun _ => fun
  | [d1, d2] => { results := [.lit (.bool true)], args := [d1, d2] }
  | _ => none }
def opaqueSerialRow : OpenClaim := { program := "ytnjcebfbfecdeaa", sum := "87790a3dcde62f38cdc5f44ef458ccd44a490d6957c70e3aa49896e490593478", func := "syncope/syncopelaw26.OpaqueSerial", spec := "opaqueSerial", recurses := true, apart := false }
def OpaqueSerialSaid : Prop := opaqueSerialRow.holds Try.pinned (OpenSpec.ofChange opaqueSerialSpec)

/-- ITS FALSE NEIGHBOUR: 'it returns false'. Refute it at one input. -/
def opaqueSerialWrong : ChangeSpec := { name := "opaqueSerial", fn := fun _ => fun
  | [d1, d2] => { results := [.lit (.bool false)], args := [d1, d2] }
  | _ => none }
def OpaqueSerialWrongFalsely : Prop := opaqueSerialRow.holds Try.pinned (OpenSpec.ofChange opaqueSerialWrong)

/-- 'syncopelaw26.OpaqueTurned': WHATEVER THE INPUT: true; the input reads as it did. -/
def opaqueTurnedSpec : ChangeSpec := { name := "opaqueTurned", fn := fun _ => fun
  | [d1, d2, d3, d4] => { results := [.lit (.bool true)], args := [d1, d2, d3, d4] }
  | _ => none }
def opaqueTurnedRow : OpenClaim := { program := "ytnjcebfbfecdeaa", sum := "87790a3dcde62f38cdc5f44ef458ccd44a490d6957c70e3aa49896e490593478", func := "syncope/syncopelaw26.OpaqueTurned", spec := "opaqueTurned", recurses := true, apart := false }
def OpaqueTurnedSaid : Prop := opaqueTurnedRow.holds Try.pinned (OpenSpec.ofChange opaqueTurnedSpec)

/-- ITS FALSE NEIGHBOUR: 'it returns false'. Refute it at one input. -/
def opaqueTurnedWrong : ChangeSpec := { name := "opaqueTurned", fn := fun _ => fun
  | [d1, d2, d3, d4] => { results := [.lit (.bool false)], args := [d1, d2, d3, d4] }
  | _ => none }
def OpaqueTurnedWrongFalsely : Prop := opaqueTurnedRow.holds Try.pinned (OpenSpec.ofChange opaqueTurnedWrong)

/- THE SECOND FORM. 'bulk': how many values and letters a reading holds, each counted each time it is reached (what is shared counts as often as it is met; a slice's spare places count too). A statement '..UptoSaid' is the law's where the arguments, and the package variables that the reading takes, are together of bulk at most 1048576: NARROWER than '..Said'. Prove '..Said' where nothing that the law and all that it calls make is longer than what came in: it says more and counts as full. Else prove '..UptoSaid'. A law counts once. -/
mutual
def uptoBulk {H : Type} : DataW H → Nat
  | .lit (.string bytes) => bytes.length + 1
  | .lit _ => 1
  | .nil => 1
  | .ptr d => uptoBulk d + 1
  | .slice elems spare => uptoBulkAll elems + uptoBulkAll spare + 1
  | .agg parts => uptoBulkAll parts + 1
  | .iface _ d => uptoBulk d + 1
  | .map entries => uptoBulkEntries entries + 1
  | .held _ => 1
def uptoBulkAll {H : Type} : List (DataW H) → Nat
  | [] => 0
  | d :: r => uptoBulk d + uptoBulkAll r
def uptoBulkEntries {H : Type} : List (Lit × DataW H) → Nat
  | [] => 0
  | x :: r => uptoBulkEntry x + uptoBulkEntries r
def uptoBulkEntry {H : Type} : Lit × DataW H → Nat
  | (.string bytes, d) => bytes.length + uptoBulk d + 1
  | (_, d) => uptoBulk d + 1
 end
def uptoSmall : (H : Type) → List (DataW H) → Bool := fun _ ds => decide (uptoBulkAll ds ≤ 1048576)
def OpenSpec.upto (s : _root_.Go.ChangeSpec) : _root_.Go.OpenSpec := { _root_.Go.OpenSpec.ofChange s with cond := some uptoSmall }

/-- 'syncopelaw26.OpaqueAsks', WHERE WHAT IT READS IS OF BULK AT MOST 1048576: true; the input reads as it did. -/
def opaqueAsksUptoRow : OpenClaim := { program := "ytnjcebfbfecdeaa", sum := "87790a3dcde62f38cdc5f44ef458ccd44a490d6957c70e3aa49896e490593478", func := "syncope/syncopelaw26.OpaqueAsks", spec := "opaqueAsks", apart := false, narrowed := true }
def OpaqueAsksUptoSaid : Prop := opaqueAsksUptoRow.holds Try.pinned (OpenSpec.upto opaqueAsksSpec)

/-- 'syncopelaw26.OpaqueTime', WHERE WHAT IT READS IS OF BULK AT MOST 1048576: true; the input reads as it did. -/
def opaqueTimeUptoRow : OpenClaim := { program := "ytnjcebfbfecdeaa", sum := "87790a3dcde62f38cdc5f44ef458ccd44a490d6957c70e3aa49896e490593478", func := "syncope/syncopelaw26.OpaqueTime", spec := "opaqueTime", apart := false, narrowed := true }
def OpaqueTimeUptoSaid : Prop := opaqueTimeUptoRow.holds Try.pinned (OpenSpec.upto opaqueTimeSpec)

/-- 'syncopelaw26.OpaqueFinds', WHERE WHAT IT READS IS OF BULK AT MOST 1048576: true; the input reads as it did. -/
def opaqueFindsUptoRow : OpenClaim := { program := "ytnjcebfbfecdeaa", sum := "87790a3dcde62f38cdc5f44ef458ccd44a490d6957c70e3aa49896e490593478", func := "syncope/syncopelaw26.OpaqueFinds", spec := "opaqueFinds", recurses := true, apart := false, narrowed := true }
def OpaqueFindsUptoSaid : Prop := opaqueFindsUptoRow.holds Try.pinned (OpenSpec.upto opaqueFindsSpec)

/-- 'syncopelaw26.OpaqueSerial', WHERE WHAT IT READS IS OF BULK AT MOST 1048576: true; the input reads as it did. -/
def opaqueSerialUptoRow : OpenClaim := { program := "ytnjcebfbfecdeaa", sum := "87790a3dcde62f38cdc5f44ef458ccd44a490d6957c70e3aa49896e490593478", func := "syncope/syncopelaw26.OpaqueSerial", spec := "opaqueSerial", recurses := true, apart := false, narrowed := true }
def OpaqueSerialUptoSaid : Prop := opaqueSerialUptoRow.holds Try.pinned (OpenSpec.upto opaqueSerialSpec)

/-- 'syncopelaw26.OpaqueTurned', WHERE WHAT IT READS IS OF BULK AT MOST 1048576: true; the input reads as it did. -/
def opaqueTurnedUptoRow : OpenClaim := { program := "ytnjcebfbfecdeaa", sum := "87790a3dcde62f38cdc5f44ef458ccd44a490d6957c70e3aa49896e490593478", func := "syncope/syncopelaw26.OpaqueTurned", spec := "opaqueTurned", recurses := true, apart := false, narrowed := true }
def OpaqueTurnedUptoSaid : Prop := opaqueTurnedUptoRow.holds Try.pinned (OpenSpec.upto opaqueTurnedSpec)

end Rows
end Go.Proofs.Ytnjcebfbfecdeaa
