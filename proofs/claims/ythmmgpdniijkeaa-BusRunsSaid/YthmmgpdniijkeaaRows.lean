/-
  No cell of these rows narrows 'for every input' (looked for: loops, veiled, ifaces, maps, wideKeys, modest, calm, conditions, laid).
  DERIVED. THE GIVEN ROWS OF THIS SEAT. 4 by the template 'for every input the law returns true; each argument reads behind the call as it read before'; 0 by the template 'total and deterministic' (their statements: YthmmgpdniijkeaaTotals.lean).
  GIVEN WITH THE SEED: the statements are not yours to turn. If you find one false, say at which input.
  Laid BY PROGRAM, IN A SANDBOX (cutbox-rows.mjs): the forced cells as the released guide's own fill.sh prints them over the translation 3dcd9682759f0a49… (all of the seat's roots in one cut). By AI agents, Wed Nov 11 2026. No macro, syntax, notation, axiom, sorry.
-/
import Derived.Test.YthmmgpdniijkeaaChecked
import GoSem.Claim
import GoSem.ClaimJoined
import GoSem.ClaimMapViews
import Derived.JoinedTies
import Derived.KernelRfl
namespace Go.Proofs.Ythmmgpdniijkeaa
/- THE CELL 'sum', in the pinned program and in every row, IS THE sha256 OF THE DUMP (.gsa) THAT YthmmgpdniijkeaaProg.lean LOADS. Nothing in Lean hashes anything: it is a label: what it is worth is what the hold of that sum in a sandbox is worth. -/
noncomputable def Try.pinned : Pinned := { name := "ythmmgpdniijkeaa", sum := "3dcd9682759f0a49e45ab048606a205e0d2a8df2c9736471b08f34ed5b724c04", checked := Try.checked }
namespace Rows
def none {H : Type} : Left H := { results := [], args := [] }

/-- 'fuglemanlaw09.BusFull': WHATEVER THE INPUT: true; the input reads as it did. -/
def busFullSpec : ChangeSpec := { name := "busFull", fn := fun _ => fun
  | [d1, d2, d3] => { results := [.lit (.bool true)], args := [d1, d2, d3] }
  | _ => none }
def busFullRow : OpenClaim := { program := "ythmmgpdniijkeaa", sum := "3dcd9682759f0a49e45ab048606a205e0d2a8df2c9736471b08f34ed5b724c04", func := "fugleman/fuglemanlaw09.BusFull", spec := "busFull", apart := false }
def BusFullSaid : Prop := busFullRow.holds Try.pinned (OpenSpec.ofChange busFullSpec)

/-- ITS FALSE NEIGHBOUR: 'it returns false'. Refute it at one input. -/
def busFullWrong : ChangeSpec := { name := "busFull", fn := fun _ => fun
  | [d1, d2, d3] => { results := [.lit (.bool false)], args := [d1, d2, d3] }
  | _ => none }
def BusFullWrongFalsely : Prop := busFullRow.holds Try.pinned (OpenSpec.ofChange busFullWrong)

/-- 'fuglemanlaw09.BusHurts': WHATEVER THE INPUT: true; the input reads as it did. -/
def busHurtsSpec : ChangeSpec := { name := "busHurts", fn := fun _ => fun
  | [d1, d2, d3] => { results := [.lit (.bool true)], args := [d1, d2, d3] }
  | _ => none }
def busHurtsRow : OpenClaim := { program := "ythmmgpdniijkeaa", sum := "3dcd9682759f0a49e45ab048606a205e0d2a8df2c9736471b08f34ed5b724c04", func := "fugleman/fuglemanlaw09.BusHurts", spec := "busHurts", apart := false }
def BusHurtsSaid : Prop := busHurtsRow.holds Try.pinned (OpenSpec.ofChange busHurtsSpec)

/-- ITS FALSE NEIGHBOUR: 'it returns false'. Refute it at one input. -/
def busHurtsWrong : ChangeSpec := { name := "busHurts", fn := fun _ => fun
  | [d1, d2, d3] => { results := [.lit (.bool false)], args := [d1, d2, d3] }
  | _ => none }
def BusHurtsWrongFalsely : Prop := busHurtsRow.holds Try.pinned (OpenSpec.ofChange busHurtsWrong)

/-- 'fuglemanlaw09.BusTrue': WHATEVER THE INPUT: true; the input reads as it did. -/
def busTrueSpec : ChangeSpec := { name := "busTrue", fn := fun _ => fun
  | [d] => { results := [.lit (.bool true)], args := [d] }
  | _ => none }
def busTrueRow : OpenClaim := { program := "ythmmgpdniijkeaa", sum := "3dcd9682759f0a49e45ab048606a205e0d2a8df2c9736471b08f34ed5b724c04", func := "fugleman/fuglemanlaw09.BusTrue", spec := "busTrue", apart := false }
def BusTrueSaid : Prop := busTrueRow.holds Try.pinned (OpenSpec.ofChange busTrueSpec)

/-- ITS FALSE NEIGHBOUR: 'it returns false'. Refute it at one input. -/
def busTrueWrong : ChangeSpec := { name := "busTrue", fn := fun _ => fun
  | [d] => { results := [.lit (.bool false)], args := [d] }
  | _ => none }
def BusTrueWrongFalsely : Prop := busTrueRow.holds Try.pinned (OpenSpec.ofChange busTrueWrong)

/-- 'fuglemanlaw09.BusRuns': WHATEVER THE INPUT: true; the input reads as it did. -/
def busRunsSpec : ChangeSpec := { name := "busRuns", fn := fun _ => fun
  | [d] => { results := [.lit (.bool true)], args := [d] }
  | _ => none }
def busRunsRow : OpenClaim := { program := "ythmmgpdniijkeaa", sum := "3dcd9682759f0a49e45ab048606a205e0d2a8df2c9736471b08f34ed5b724c04", func := "fugleman/fuglemanlaw09.BusRuns", spec := "busRuns", apart := false }
def BusRunsSaid : Prop := busRunsRow.holds Try.pinned (OpenSpec.ofChange busRunsSpec)

/-- ITS FALSE NEIGHBOUR: 'it returns false'. Refute it at one input. -/
def busRunsWrong : ChangeSpec := { name := "busRuns", fn := fun _ => fun
  | [d] => { results := [.lit (.bool false)], args := [d] }
  | _ => none }
def BusRunsWrongFalsely : Prop := busRunsRow.holds Try.pinned (OpenSpec.ofChange busRunsWrong)

/- THE SECOND FORM. 'bulk': how many values and letters a reading holds, each counted each time it is reached (what is shared counts as often as it is met; a slice's spare places count too). A statement '..UptoSaid' is the law's where the arguments, and the package variables that the reading takes, are together of bulk at most 1048576: NARROWER than '..Said'. Prove '..Said' where nothing that the law and all that it calls make is longer than what came in: it says more and counts as full. Else prove '..UptoSaid'. A law counts once. -/
mutual
def uptoBulk {H : Type} : DataW H → Nat
  | .lit (.string bytes) => bytes.length + 1
  | .lit _ => 1
  | .nil => 1
  | .ptr d => uptoBulk d + 1
  | .slice elems spare => uptoBulkAll elems + uptoBulkAll spare + 1
  | .agg parts => uptoBulkAll parts + 1
  | .iface _ d => uptoBulk d + 1
  | .map entries => uptoBulkEntries entries + 1
  | .held _ => 1
def uptoBulkAll {H : Type} : List (DataW H) → Nat
  | [] => 0
  | d :: r => uptoBulk d + uptoBulkAll r
def uptoBulkEntries {H : Type} : List (Lit × DataW H) → Nat
  | [] => 0
  | x :: r => uptoBulkEntry x + uptoBulkEntries r
def uptoBulkEntry {H : Type} : Lit × DataW H → Nat
  | (.string bytes, d) => bytes.length + uptoBulk d + 1
  | (_, d) => uptoBulk d + 1
 end
def uptoSmall : (H : Type) → List (DataW H) → Bool := fun _ ds => decide (uptoBulkAll ds ≤ 1048576)
def OpenSpec.upto (s : _root_.Go.ChangeSpec) : _root_.Go.OpenSpec := { _root_.Go.OpenSpec.ofChange s with cond := some uptoSmall }

/-- 'fuglemanlaw09.BusFull', WHERE WHAT IT READS IS OF BULK AT MOST 1048576: true; the input reads as it did. -/
def busFullUptoRow : OpenClaim := { program := "ythmmgpdniijkeaa", sum := "3dcd9682759f0a49e45ab048606a205e0d2a8df2c9736471b08f34ed5b724c04", func := "fugleman/fuglemanlaw09.BusFull", spec := "busFull", apart := false, narrowed := true }
def BusFullUptoSaid : Prop := busFullUptoRow.holds Try.pinned (OpenSpec.upto busFullSpec)

/-- 'fuglemanlaw09.BusHurts', WHERE WHAT IT READS IS OF BULK AT MOST 1048576: true; the input reads as it did. -/
def busHurtsUptoRow : OpenClaim := { program := "ythmmgpdniijkeaa", sum := "3dcd9682759f0a49e45ab048606a205e0d2a8df2c9736471b08f34ed5b724c04", func := "fugleman/fuglemanlaw09.BusHurts", spec := "busHurts", apart := false, narrowed := true }
def BusHurtsUptoSaid : Prop := busHurtsUptoRow.holds Try.pinned (OpenSpec.upto busHurtsSpec)

/-- 'fuglemanlaw09.BusTrue', WHERE WHAT IT READS IS OF BULK AT MOST 1048576: true; the input reads as it did. -/
def busTrueUptoRow : OpenClaim := { program := "ythmmgpdniijkeaa", sum := "3dcd9682759f0a49e45ab048606a205e0d2a8df2c9736471b08f34ed5b724c04", func := "fugleman/fuglemanlaw09.BusTrue", spec := "busTrue", apart := false, narrowed := true }
def BusTrueUptoSaid : Prop := busTrueUptoRow.holds Try.pinned (OpenSpec.upto busTrueSpec)

/-- 'fuglemanlaw09.BusRuns', WHERE WHAT IT READS IS OF BULK AT MOST 1048576: true; the input reads as it did. -/
def busRunsUptoRow : OpenClaim := { program := "ythmmgpdniijkeaa", sum := "3dcd9682759f0a49e45ab048606a205e0d2a8df2c9736471b08f34ed5b724c04", func := "fugleman/fuglemanlaw09.BusRuns", spec := "busRuns", apart := false, narrowed := true }
def BusRunsUptoSaid : Prop := busRunsUptoRow.holds Try.pinned (OpenSpec.upto busRunsSpec)

end Rows
end Go.Proofs.Ythmmgpdniijkeaa
