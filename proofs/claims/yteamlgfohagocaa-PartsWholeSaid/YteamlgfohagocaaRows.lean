/-
  No cell of these rows narrows 'for every input' (looked for: loops, veiled, ifaces, maps, wideKeys, modest, calm, conditions, laid).
  DERIVED. THE GIVEN ROWS OF THIS SEAT. 3 by the template 'for every input the law returns true; each argument reads behind the call as it read before'; 0 by the template 'total and deterministic' (their statements: YteamlgfohagocaaTotals.lean).
  GIVEN WITH THE SEED: the statements are not yours to turn. If you find one false, say at which input.
  Laid BY PROGRAM, IN A SANDBOX (cutbox-rows.mjs): the forced cells as the released guide's own fill.sh prints them over the translation 8f00c39a16a7cedc… (all of the seat's roots in one cut). By AI agents, Wed Nov 11 2026. No macro, syntax, notation, axiom, sorry.
-/
import Derived.Test.YteamlgfohagocaaChecked
import GoSem.Claim
import GoSem.ClaimJoined
import GoSem.ClaimMapViews
import Derived.JoinedTies
import Derived.KernelRfl
namespace Go.Proofs.Yteamlgfohagocaa
/- THE CELL 'sum', in the pinned program and in every row, IS THE sha256 OF THE DUMP (.gsa) THAT YteamlgfohagocaaProg.lean LOADS. Nothing in Lean hashes anything: it is a label: what it is worth is what the hold of that sum in a sandbox is worth. -/
noncomputable def Try.pinned : Pinned := { name := "yteamlgfohagocaa", sum := "8f00c39a16a7cedc55abbf37a4f7895ccdf9651648254860086eb85b4b0e0c0d", checked := Try.checked }
namespace Rows
def none {H : Type} : Left H := { results := [], args := [] }

/-- 'fuglemanlaw17.PartsSplits': WHATEVER THE INPUT: true; the input reads as it did. -/
def partsSplitsSpec : ChangeSpec := { name := "partsSplits", fn := fun _ => fun
  | [d1, d2, d3] => { results := [.lit (.bool true)], args := [d1, d2, d3] }
  | _ => none }
def partsSplitsRow : OpenClaim := { program := "yteamlgfohagocaa", sum := "8f00c39a16a7cedc55abbf37a4f7895ccdf9651648254860086eb85b4b0e0c0d", func := "fugleman/fuglemanlaw17.PartsSplits", spec := "partsSplits", apart := false }
def PartsSplitsSaid : Prop := partsSplitsRow.holds Try.pinned (OpenSpec.ofChange partsSplitsSpec)

/-- ITS FALSE NEIGHBOUR: 'it returns false'. Refute it at one input. -/
def partsSplitsWrong : ChangeSpec := { name := "partsSplits", fn := fun _ => fun
  | [d1, d2, d3] => { results := [.lit (.bool false)], args := [d1, d2, d3] }
  | _ => none }
def PartsSplitsWrongFalsely : Prop := partsSplitsRow.holds Try.pinned (OpenSpec.ofChange partsSplitsWrong)

/-- 'fuglemanlaw17.PartsWhole': WHATEVER THE INPUT: true; the input reads as it did. -/
def partsWholeSpec : ChangeSpec := { name := "partsWhole", fn := fun _ => fun
  | [d1, d2, d3] => { results := [.lit (.bool true)], args := [d1, d2, d3] }
  | _ => none }
def partsWholeRow : OpenClaim := { program := "yteamlgfohagocaa", sum := "8f00c39a16a7cedc55abbf37a4f7895ccdf9651648254860086eb85b4b0e0c0d", func := "fugleman/fuglemanlaw17.PartsWhole", spec := "partsWhole", apart := false }
def PartsWholeSaid : Prop := partsWholeRow.holds Try.pinned (OpenSpec.ofChange partsWholeSpec)

/-- ITS FALSE NEIGHBOUR: 'it returns false'. Refute it at one input. -/
def partsWholeWrong : ChangeSpec := { name := "partsWhole", fn := fun _ => fun
  | [d1, d2, d3] => { results := [.lit (.bool false)], args := [d1, d2, d3] }
  | _ => none }
def PartsWholeWrongFalsely : Prop := partsWholeRow.holds Try.pinned (OpenSpec.ofChange partsWholeWrong)

/-- 'fuglemanlaw17.PartsRuns': WHATEVER THE INPUT: true; the input reads as it did. -/
def partsRunsSpec : ChangeSpec := { name := "partsRuns", fn := fun _ => fun
  | [d1, d2, d3] => { results := [.lit (.bool true)], args := [d1, d2, d3] }
  | _ => none }
def partsRunsRow : OpenClaim := { program := "yteamlgfohagocaa", sum := "8f00c39a16a7cedc55abbf37a4f7895ccdf9651648254860086eb85b4b0e0c0d", func := "fugleman/fuglemanlaw17.PartsRuns", spec := "partsRuns", apart := false }
def PartsRunsSaid : Prop := partsRunsRow.holds Try.pinned (OpenSpec.ofChange partsRunsSpec)

/-- ITS FALSE NEIGHBOUR: 'it returns false'. Refute it at one input. -/
def partsRunsWrong : ChangeSpec := { name := "partsRuns", fn := fun _ => fun
  | [d1, d2, d3] => { results := [.lit (.bool false)], args := [d1, d2, d3] }
  | _ => none }
def PartsRunsWrongFalsely : Prop := partsRunsRow.holds Try.pinned (OpenSpec.ofChange partsRunsWrong)

/- THE SECOND FORM. 'bulk': how many values and letters a reading holds, each counted each time it is reached (what is shared counts as often as it is met; a slice's spare places count too). A statement '..UptoSaid' is the law's where the arguments, and the package variables that the reading takes, are together of bulk at most 1048576: NARROWER than '..Said'. Prove '..Said' where nothing that the law and all that it calls make is longer than what came in: it says more and counts as full. Else prove '..UptoSaid'. A law counts once. -/
mutual
def uptoBulk {H : Type} : DataW H → Nat
  | .lit (.string bytes) => bytes.length + 1
  | .lit _ => 1
  | .nil => 1
  | .ptr d => uptoBulk d + 1
  | .slice elems spare => uptoBulkAll elems + uptoBulkAll spare + 1
  | .agg parts => uptoBulkAll parts + 1
  | .iface _ d => uptoBulk d + 1
  | .map entries => uptoBulkEntries entries + 1
  | .held _ => 1
def uptoBulkAll {H : Type} : List (DataW H) → Nat
  | [] => 0
  | d :: r => uptoBulk d + uptoBulkAll r
def uptoBulkEntries {H : Type} : List (Lit × DataW H) → Nat
  | [] => 0
  | x :: r => uptoBulkEntry x + uptoBulkEntries r
def uptoBulkEntry {H : Type} : Lit × DataW H → Nat
  | (.string bytes, d) => bytes.length + uptoBulk d + 1
  | (_, d) => uptoBulk d + 1
 end
def uptoSmall : (H : Type) → List (DataW H) → Bool := fun _ ds => decide (uptoBulkAll ds ≤ 1048576)
def OpenSpec.upto (s : _root_.Go.ChangeSpec) : _root_.Go.OpenSpec := { _root_.Go.OpenSpec.ofChange s with cond := some uptoSmall }

/-- 'fuglemanlaw17.PartsSplits', WHERE WHAT IT READS IS OF BULK AT MOST 1048576: true; the input reads as it did. -/
def partsSplitsUptoRow : OpenClaim := { program := "yteamlgfohagocaa", sum := "8f00c39a16a7cedc55abbf37a4f7895ccdf9651648254860086eb85b4b0e0c0d", func := "fugleman/fuglemanlaw17.PartsSplits", spec := "partsSplits", apart := false, narrowed := true }
def PartsSplitsUptoSaid : Prop := partsSplitsUptoRow.holds Try.pinned (OpenSpec.upto partsSplitsSpec)

/-- 'fuglemanlaw17.PartsWhole', WHERE WHAT IT READS IS OF BULK AT MOST 1048576: true; the input reads as it did. -/
def partsWholeUptoRow : OpenClaim := { program := "yteamlgfohagocaa", sum := "8f00c39a16a7cedc55abbf37a4f7895ccdf9651648254860086eb85b4b0e0c0d", func := "fugleman/fuglemanlaw17.PartsWhole", spec := "partsWhole", apart := false, narrowed := true }
def PartsWholeUptoSaid : Prop := partsWholeUptoRow.holds Try.pinned (OpenSpec.upto partsWholeSpec)

/-- 'fuglemanlaw17.PartsRuns', WHERE WHAT IT READS IS OF BULK AT MOST 1048576: true; the input reads as it did. -/
def partsRunsUptoRow : OpenClaim := { program := "yteamlgfohagocaa", sum := "8f00c39a16a7cedc55abbf37a4f7895ccdf9651648254860086eb85b4b0e0c0d", func := "fugleman/fuglemanlaw17.PartsRuns", spec := "partsRuns", apart := false, narrowed := true }
def PartsRunsUptoSaid : Prop := partsRunsUptoRow.holds Try.pinned (OpenSpec.upto partsRunsSpec)

end Rows
end Go.Proofs.Yteamlgfohagocaa
