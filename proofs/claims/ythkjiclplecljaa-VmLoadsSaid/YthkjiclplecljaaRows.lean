/-
  No cell of these rows narrows 'for every input' (looked for: loops, veiled, ifaces, maps, wideKeys, modest, calm, conditions, laid).
  DERIVED. THE GIVEN ROWS OF THIS SEAT. 5 by the template 'for every input the law returns true; each argument reads behind the call as it read before'; 0 by the template 'total and deterministic' (their statements: YthkjiclplecljaaTotals.lean).
  GIVEN WITH THE SEED: the statements are not yours to turn. If you find one false, say at which input.
  Laid BY PROGRAM, IN A SANDBOX (cutbox-rows.mjs): the forced cells as the released guide's own fill.sh prints them over the translation 5aca35ee5198d4fa… (all of the seat's roots in one cut). By AI agents, Wed Nov 11 2026. No macro, syntax, notation, axiom, sorry.
-/
import Derived.Test.YthkjiclplecljaaChecked
import GoSem.Claim
import GoSem.ClaimJoined
import GoSem.ClaimMapViews
import Derived.JoinedTies
import Derived.KernelRfl
namespace Go.Proofs.Ythkjiclplecljaa
/- THE CELL 'sum', in the pinned program and in every row, IS THE sha256 OF THE DUMP (.gsa) THAT YthkjiclplecljaaProg.lean LOADS. Nothing in Lean hashes anything: it is a label: what it is worth is what the hold of that sum in a sandbox is worth. -/
noncomputable def Try.pinned : Pinned := { name := "ythkjiclplecljaa", sum := "5aca35ee5198d4fac3eef8c4658d9e5255b8eb567643fa63caf6eca872f0e7ee", checked := Try.checked }
namespace Rows
def none {H : Type} : Left H := { results := [], args := [] }

/-- 'fuglemanlaw15.VmRuns': WHATEVER THE INPUT: true; the input reads as it did. -/
def vmRunsSpec : ChangeSpec := { name := "vmRuns", fn := fun _ => fun
  | [d1, d2, d3] => { results := [.lit (.bool true)], args := [d1, d2, d3] }
  | _ => none }
def vmRunsRow : OpenClaim := { program := "ythkjiclplecljaa", sum := "5aca35ee5198d4fac3eef8c4658d9e5255b8eb567643fa63caf6eca872f0e7ee", func := "fugleman/fuglemanlaw15.VmRuns", spec := "vmRuns", inPlace := ["internal/abi.NoEscape", "internal/bytealg.MakeNoZero"], apart := false }
def VmRunsSaid : Prop := vmRunsRow.holds Try.pinned (OpenSpec.ofChange vmRunsSpec)

/-- ITS FALSE NEIGHBOUR: 'it returns false'. Refute it at one input. -/
def vmRunsWrong : ChangeSpec := { name := "vmRuns", fn := fun _ => fun
  | [d1, d2, d3] => { results := [.lit (.bool false)], args := [d1, d2, d3] }
  | _ => none }
def VmRunsWrongFalsely : Prop := vmRunsRow.holds Try.pinned (OpenSpec.ofChange vmRunsWrong)

/-- 'fuglemanlaw15.VmFrames': WHATEVER THE INPUT: true; the input reads as it did. -/
def vmFramesSpec : ChangeSpec := { name := "vmFrames", fn := fun _ => fun
  | [d1, d2, d3] => { results := [.lit (.bool true)], args := [d1, d2, d3] }
  | _ => none }
def vmFramesRow : OpenClaim := { program := "ythkjiclplecljaa", sum := "5aca35ee5198d4fac3eef8c4658d9e5255b8eb567643fa63caf6eca872f0e7ee", func := "fugleman/fuglemanlaw15.VmFrames", spec := "vmFrames", inPlace := ["internal/abi.NoEscape", "internal/bytealg.MakeNoZero"], apart := false }
def VmFramesSaid : Prop := vmFramesRow.holds Try.pinned (OpenSpec.ofChange vmFramesSpec)

/-- ITS FALSE NEIGHBOUR: 'it returns false'. Refute it at one input. -/
def vmFramesWrong : ChangeSpec := { name := "vmFrames", fn := fun _ => fun
  | [d1, d2, d3] => { results := [.lit (.bool false)], args := [d1, d2, d3] }
  | _ => none }
def VmFramesWrongFalsely : Prop := vmFramesRow.holds Try.pinned (OpenSpec.ofChange vmFramesWrong)

/-- 'fuglemanlaw15.VmReads': WHATEVER THE INPUT: true; the input reads as it did. -/
def vmReadsSpec : ChangeSpec := { name := "vmReads", fn := fun _ => fun
  | [d1, d2, d3] => { results := [.lit (.bool true)], args := [d1, d2, d3] }
  | _ => none }
def vmReadsRow : OpenClaim := { program := "ythkjiclplecljaa", sum := "5aca35ee5198d4fac3eef8c4658d9e5255b8eb567643fa63caf6eca872f0e7ee", func := "fugleman/fuglemanlaw15.VmReads", spec := "vmReads", inPlace := ["internal/abi.NoEscape", "internal/bytealg.MakeNoZero"], apart := false }
def VmReadsSaid : Prop := vmReadsRow.holds Try.pinned (OpenSpec.ofChange vmReadsSpec)

/-- ITS FALSE NEIGHBOUR: 'it returns false'. Refute it at one input. -/
def vmReadsWrong : ChangeSpec := { name := "vmReads", fn := fun _ => fun
  | [d1, d2, d3] => { results := [.lit (.bool false)], args := [d1, d2, d3] }
  | _ => none }
def VmReadsWrongFalsely : Prop := vmReadsRow.holds Try.pinned (OpenSpec.ofChange vmReadsWrong)

/-- 'fuglemanlaw15.VmTimes': WHATEVER THE INPUT: true; the input reads as it did. -/
def vmTimesSpec : ChangeSpec := { name := "vmTimes", fn := fun _ => fun
  | [d1, d2] => { results := [.lit (.bool true)], args := [d1, d2] }
  | _ => none }
def vmTimesRow : OpenClaim := { program := "ythkjiclplecljaa", sum := "5aca35ee5198d4fac3eef8c4658d9e5255b8eb567643fa63caf6eca872f0e7ee", func := "fugleman/fuglemanlaw15.VmTimes", spec := "vmTimes", inPlace := ["internal/abi.NoEscape", "internal/bytealg.MakeNoZero"], apart := false }
def VmTimesSaid : Prop := vmTimesRow.holds Try.pinned (OpenSpec.ofChange vmTimesSpec)

/-- ITS FALSE NEIGHBOUR: 'it returns false'. Refute it at one input. -/
def vmTimesWrong : ChangeSpec := { name := "vmTimes", fn := fun _ => fun
  | [d1, d2] => { results := [.lit (.bool false)], args := [d1, d2] }
  | _ => none }
def VmTimesWrongFalsely : Prop := vmTimesRow.holds Try.pinned (OpenSpec.ofChange vmTimesWrong)

/-- 'fuglemanlaw15.VmLoads': WHATEVER THE INPUT: true; the input reads as it did. -/
def vmLoadsSpec : ChangeSpec := { name := "vmLoads", fn := fun _ => fun
  | [d] => { results := [.lit (.bool true)], args := [d] }
  | _ => none }
def vmLoadsRow : OpenClaim := { program := "ythkjiclplecljaa", sum := "5aca35ee5198d4fac3eef8c4658d9e5255b8eb567643fa63caf6eca872f0e7ee", func := "fugleman/fuglemanlaw15.VmLoads", spec := "vmLoads", inPlace := ["internal/abi.NoEscape", "internal/bytealg.MakeNoZero"], apart := false }
def VmLoadsSaid : Prop := vmLoadsRow.holds Try.pinned (OpenSpec.ofChange vmLoadsSpec)

/-- ITS FALSE NEIGHBOUR: 'it returns false'. Refute it at one input. -/
def vmLoadsWrong : ChangeSpec := { name := "vmLoads", fn := fun _ => fun
  | [d] => { results := [.lit (.bool false)], args := [d] }
  | _ => none }
def VmLoadsWrongFalsely : Prop := vmLoadsRow.holds Try.pinned (OpenSpec.ofChange vmLoadsWrong)

/- THE SECOND FORM. 'bulk': how many values and letters a reading holds, each counted each time it is reached (what is shared counts as often as it is met; a slice's spare places count too). A statement '..UptoSaid' is the law's where the arguments, and the package variables that the reading takes, are together of bulk at most 1048576: NARROWER than '..Said'. Prove '..Said' where nothing that the law and all that it calls make is longer than what came in: it says more and counts as full. Else prove '..UptoSaid'. A law counts once. -/
mutual
def uptoBulk {H : Type} : DataW H → Nat
  | .lit (.string bytes) => bytes.length + 1
  | .lit _ => 1
  | .nil => 1
  | .ptr d => uptoBulk d + 1
  | .slice elems spare => uptoBulkAll elems + uptoBulkAll spare + 1
  | .agg parts => uptoBulkAll parts + 1
  | .iface _ d => uptoBulk d + 1
  | .map entries => uptoBulkEntries entries + 1
  | .held _ => 1
def uptoBulkAll {H : Type} : List (DataW H) → Nat
  | [] => 0
  | d :: r => uptoBulk d + uptoBulkAll r
def uptoBulkEntries {H : Type} : List (Lit × DataW H) → Nat
  | [] => 0
  | x :: r => uptoBulkEntry x + uptoBulkEntries r
def uptoBulkEntry {H : Type} : Lit × DataW H → Nat
  | (.string bytes, d) => bytes.length + uptoBulk d + 1
  | (_, d) => uptoBulk d + 1
 end
def uptoSmall : (H : Type) → List (DataW H) → Bool := fun _ ds => decide (uptoBulkAll ds ≤ 1048576)
def OpenSpec.upto (s : _root_.Go.ChangeSpec) : _root_.Go.OpenSpec := { _root_.Go.OpenSpec.ofChange s with cond := some uptoSmall }

/-- 'fuglemanlaw15.VmRuns', WHERE WHAT IT READS IS OF BULK AT MOST 1048576: true; the input reads as it did. -/
def vmRunsUptoRow : OpenClaim := { program := "ythkjiclplecljaa", sum := "5aca35ee5198d4fac3eef8c4658d9e5255b8eb567643fa63caf6eca872f0e7ee", func := "fugleman/fuglemanlaw15.VmRuns", spec := "vmRuns", inPlace := ["internal/abi.NoEscape", "internal/bytealg.MakeNoZero"], apart := false, narrowed := true }
def VmRunsUptoSaid : Prop := vmRunsUptoRow.holds Try.pinned (OpenSpec.upto vmRunsSpec)

/-- 'fuglemanlaw15.VmFrames', WHERE WHAT IT READS IS OF BULK AT MOST 1048576: true; the input reads as it did. -/
def vmFramesUptoRow : OpenClaim := { program := "ythkjiclplecljaa", sum := "5aca35ee5198d4fac3eef8c4658d9e5255b8eb567643fa63caf6eca872f0e7ee", func := "fugleman/fuglemanlaw15.VmFrames", spec := "vmFrames", inPlace := ["internal/abi.NoEscape", "internal/bytealg.MakeNoZero"], apart := false, narrowed := true }
def VmFramesUptoSaid : Prop := vmFramesUptoRow.holds Try.pinned (OpenSpec.upto vmFramesSpec)

/-- 'fuglemanlaw15.VmReads', WHERE WHAT IT READS IS OF BULK AT MOST 1048576: true; the input reads as it did. -/
def vmReadsUptoRow : OpenClaim := { program := "ythkjiclplecljaa", sum := "5aca35ee5198d4fac3eef8c4658d9e5255b8eb567643fa63caf6eca872f0e7ee", func := "fugleman/fuglemanlaw15.VmReads", spec := "vmReads", inPlace := ["internal/abi.NoEscape", "internal/bytealg.MakeNoZero"], apart := false, narrowed := true }
def VmReadsUptoSaid : Prop := vmReadsUptoRow.holds Try.pinned (OpenSpec.upto vmReadsSpec)

/-- 'fuglemanlaw15.VmTimes', WHERE WHAT IT READS IS OF BULK AT MOST 1048576: true; the input reads as it did. -/
def vmTimesUptoRow : OpenClaim := { program := "ythkjiclplecljaa", sum := "5aca35ee5198d4fac3eef8c4658d9e5255b8eb567643fa63caf6eca872f0e7ee", func := "fugleman/fuglemanlaw15.VmTimes", spec := "vmTimes", inPlace := ["internal/abi.NoEscape", "internal/bytealg.MakeNoZero"], apart := false, narrowed := true }
def VmTimesUptoSaid : Prop := vmTimesUptoRow.holds Try.pinned (OpenSpec.upto vmTimesSpec)

/-- 'fuglemanlaw15.VmLoads', WHERE WHAT IT READS IS OF BULK AT MOST 1048576: true; the input reads as it did. -/
def vmLoadsUptoRow : OpenClaim := { program := "ythkjiclplecljaa", sum := "5aca35ee5198d4fac3eef8c4658d9e5255b8eb567643fa63caf6eca872f0e7ee", func := "fugleman/fuglemanlaw15.VmLoads", spec := "vmLoads", inPlace := ["internal/abi.NoEscape", "internal/bytealg.MakeNoZero"], apart := false, narrowed := true }
def VmLoadsUptoSaid : Prop := vmLoadsUptoRow.holds Try.pinned (OpenSpec.upto vmLoadsSpec)

end Rows
end Go.Proofs.Ythkjiclplecljaa
