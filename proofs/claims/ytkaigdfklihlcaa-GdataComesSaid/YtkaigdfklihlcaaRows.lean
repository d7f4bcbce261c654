/-
  No cell of these rows narrows 'for every input' (looked for: loops, veiled, ifaces, maps, wideKeys, modest, calm, conditions, laid).
  DERIVED. THE GIVEN ROWS OF THIS SEAT. 4 by the template 'for every input the law returns true; each argument reads behind the call as it read before'; 0 by the template 'total and deterministic' (their statements: YtkaigdfklihlcaaTotals.lean).
  GIVEN WITH THE SEED: the statements are not yours to turn. If you find one false, say at which input.
  Laid BY PROGRAM, IN A SANDBOX (cutbox-rows.mjs): the forced cells as the released guide's own fill.sh prints them over the translation 32f5e5e184face79… (all of the seat's roots in one cut). By AI agents, Wed Nov 11 2026. No macro, syntax, notation, axiom, sorry.
-/
import Derived.Test.YtkaigdfklihlcaaChecked
import GoSem.Claim
import GoSem.ClaimJoined
import GoSem.ClaimMapViews
import Derived.JoinedTies
import Derived.KernelRfl
namespace Go.Proofs.Ytkaigdfklihlcaa
/- THE CELL 'sum', in the pinned program and in every row, IS THE sha256 OF THE DUMP (.gsa) THAT YtkaigdfklihlcaaProg.lean LOADS. Nothing in Lean hashes anything: it is a label: what it is worth is what the hold of that sum in a sandbox is worth. -/
noncomputable def Try.pinned : Pinned := { name := "ytkaigdfklihlcaa", sum := "32f5e5e184face79b0ecf1a80cc893935e7ab1e779a41a20299b35e7a56da1f1", checked := Try.checked }
namespace Rows
def none {H : Type} : Left H := { results := [], args := [] }

/-- 'fuglemanlaw18.GdataComes': WHATEVER THE INPUT: true; the input reads as it did. -/
def gdataComesSpec : ChangeSpec := { name := "gdataComes", fn := fun _ => fun
  | [d1, d2, d3] => { results := [.lit (.bool true)], args := [d1, d2, d3] }
  | _ => none }
def gdataComesRow : OpenClaim := { program := "ytkaigdfklihlcaa", sum := "32f5e5e184face79b0ecf1a80cc893935e7ab1e779a41a20299b35e7a56da1f1", func := "fugleman/fuglemanlaw18.GdataComes", spec := "gdataComes", inPlace := ["internal/abi.NoEscape", "internal/bytealg.MakeNoZero"], unfollowed := true, recurses := true, plainKeys := false, apart := false }
def GdataComesSaid : Prop := gdataComesRow.holds Try.pinned (OpenSpec.ofChange gdataComesSpec)

/-- ITS FALSE NEIGHBOUR: 'it returns false'. Refute it at one input. -/
def gdataComesWrong : ChangeSpec := { name := "gdataComes", fn := fun _ => fun
  | [d1, d2, d3] => { results := [.lit (.bool false)], args := [d1, d2, d3] }
  | _ => none }
def GdataComesWrongFalsely : Prop := gdataComesRow.holds Try.pinned (OpenSpec.ofChange gdataComesWrong)

/-- 'fuglemanlaw18.GdataSubscribes': WHATEVER THE INPUT: true; the input reads as it did. -/
def gdataSubscribesSpec : ChangeSpec := { name := "gdataSubscribes", fn := fun _ => fun
  | [d1, d2, d3] => { results := [.lit (.bool true)], args := [d1, d2, d3] }
  | _ => none }
def gdataSubscribesRow : OpenClaim := { program := "ytkaigdfklihlcaa", sum := "32f5e5e184face79b0ecf1a80cc893935e7ab1e779a41a20299b35e7a56da1f1", func := "fugleman/fuglemanlaw18.GdataSubscribes", spec := "gdataSubscribes", inPlace := ["internal/abi.NoEscape", "internal/bytealg.MakeNoZero"], plainKeys := false, apart := false }
def GdataSubscribesSaid : Prop := gdataSubscribesRow.holds Try.pinned (OpenSpec.ofChange gdataSubscribesSpec)

/-- ITS FALSE NEIGHBOUR: 'it returns false'. Refute it at one input. -/
def gdataSubscribesWrong : ChangeSpec := { name := "gdataSubscribes", fn := fun _ => fun
  | [d1, d2, d3] => { results := [.lit (.bool false)], args := [d1, d2, d3] }
  | _ => none }
def GdataSubscribesWrongFalsely : Prop := gdataSubscribesRow.holds Try.pinned (OpenSpec.ofChange gdataSubscribesWrong)

/-- 'fuglemanlaw18.GdataWhole': WHATEVER THE INPUT: true; the input reads as it did. -/
def gdataWholeSpec : ChangeSpec := { name := "gdataWhole", fn := fun _ => fun
  | [d1, d2, d3] => { results := [.lit (.bool true)], args := [d1, d2, d3] }
  | _ => none }
def gdataWholeRow : OpenClaim := { program := "ytkaigdfklihlcaa", sum := "32f5e5e184face79b0ecf1a80cc893935e7ab1e779a41a20299b35e7a56da1f1", func := "fugleman/fuglemanlaw18.GdataWhole", spec := "gdataWhole", inPlace := ["internal/abi.NoEscape", "internal/bytealg.MakeNoZero"], plainKeys := false, apart := false }
def GdataWholeSaid : Prop := gdataWholeRow.holds Try.pinned (OpenSpec.ofChange gdataWholeSpec)

/-- ITS FALSE NEIGHBOUR: 'it returns false'. Refute it at one input. -/
def gdataWholeWrong : ChangeSpec := { name := "gdataWhole", fn := fun _ => fun
  | [d1, d2, d3] => { results := [.lit (.bool false)], args := [d1, d2, d3] }
  | _ => none }
def GdataWholeWrongFalsely : Prop := gdataWholeRow.holds Try.pinned (OpenSpec.ofChange gdataWholeWrong)

/-- 'fuglemanlaw18.GdataPublishes': WHATEVER THE INPUT: true; the input reads as it did. -/
def gdataPublishesSpec : ChangeSpec := { name := "gdataPublishes", fn := fun _ => fun
  | [d1, d2, d3] => { results := [.lit (.bool true)], args := [d1, d2, d3] }
  | _ => none }
def gdataPublishesRow : OpenClaim := { program := "ytkaigdfklihlcaa", sum := "32f5e5e184face79b0ecf1a80cc893935e7ab1e779a41a20299b35e7a56da1f1", func := "fugleman/fuglemanlaw18.GdataPublishes", spec := "gdataPublishes", inPlace := ["internal/abi.NoEscape", "internal/bytealg.MakeNoZero"], plainKeys := false, apart := false }
def GdataPublishesSaid : Prop := gdataPublishesRow.holds Try.pinned (OpenSpec.ofChange gdataPublishesSpec)

/-- ITS FALSE NEIGHBOUR: 'it returns false'. Refute it at one input. -/
def gdataPublishesWrong : ChangeSpec := { name := "gdataPublishes", fn := fun _ => fun
  | [d1, d2, d3] => { results := [.lit (.bool false)], args := [d1, d2, d3] }
  | _ => none }
def GdataPublishesWrongFalsely : Prop := gdataPublishesRow.holds Try.pinned (OpenSpec.ofChange gdataPublishesWrong)

/- THE SECOND FORM. 'bulk': how many values and letters a reading holds, each counted each time it is reached (what is shared counts as often as it is met; a slice's spare places count too). A statement '..UptoSaid' is the law's where the arguments, and the package variables that the reading takes, are together of bulk at most 1048576: NARROWER than '..Said'. Prove '..Said' where nothing that the law and all that it calls make is longer than what came in: it says more and counts as full. Else prove '..UptoSaid'. A law counts once. -/
mutual
def uptoBulk {H : Type} : DataW H → Nat
  | .lit (.string bytes) => bytes.length + 1
  | .lit _ => 1
  | .nil => 1
  | .ptr d => uptoBulk d + 1
  | .slice elems spare => uptoBulkAll elems + uptoBulkAll spare + 1
  | .agg parts => uptoBulkAll parts + 1
  | .iface _ d => uptoBulk d + 1
  | .map entries => uptoBulkEntries entries + 1
  | .held _ => 1
def uptoBulkAll {H : Type} : List (DataW H) → Nat
  | [] => 0
  | d :: r => uptoBulk d + uptoBulkAll r
def uptoBulkEntries {H : Type} : List (Lit × DataW H) → Nat
  | [] => 0
  | x :: r => uptoBulkEntry x + uptoBulkEntries r
def uptoBulkEntry {H : Type} : Lit × DataW H → Nat
  | (.string bytes, d) => bytes.length + uptoBulk d + 1
  | (_, d) => uptoBulk d + 1
 end
def uptoSmall : (H : Type) → List (DataW H) → Bool := fun _ ds => decide (uptoBulkAll ds ≤ 1048576)
def OpenSpec.upto (s : _root_.Go.ChangeSpec) : _root_.Go.OpenSpec := { _root_.Go.OpenSpec.ofChange s with cond := some uptoSmall }

/-- 'fuglemanlaw18.GdataComes', WHERE WHAT IT READS IS OF BULK AT MOST 1048576: true; the input reads as it did. -/
def gdataComesUptoRow : OpenClaim := { program := "ytkaigdfklihlcaa", sum := "32f5e5e184face79b0ecf1a80cc893935e7ab1e779a41a20299b35e7a56da1f1", func := "fugleman/fuglemanlaw18.GdataComes", spec := "gdataComes", inPlace := ["internal/abi.NoEscape", "internal/bytealg.MakeNoZero"], unfollowed := true, recurses := true, plainKeys := false, apart := false, narrowed := true }
def GdataComesUptoSaid : Prop := gdataComesUptoRow.holds Try.pinned (OpenSpec.upto gdataComesSpec)

/-- 'fuglemanlaw18.GdataSubscribes', WHERE WHAT IT READS IS OF BULK AT MOST 1048576: true; the input reads as it did. -/
def gdataSubscribesUptoRow : OpenClaim := { program := "ytkaigdfklihlcaa", sum := "32f5e5e184face79b0ecf1a80cc893935e7ab1e779a41a20299b35e7a56da1f1", func := "fugleman/fuglemanlaw18.GdataSubscribes", spec := "gdataSubscribes", inPlace := ["internal/abi.NoEscape", "internal/bytealg.MakeNoZero"], plainKeys := false, apart := false, narrowed := true }
def GdataSubscribesUptoSaid : Prop := gdataSubscribesUptoRow.holds Try.pinned (OpenSpec.upto gdataSubscribesSpec)

/-- 'fuglemanlaw18.GdataWhole', WHERE WHAT IT READS IS OF BULK AT MOST 1048576: true; the input reads as it did. -/
def gdataWholeUptoRow : OpenClaim := { program := "ytkaigdfklihlcaa", sum := "32f5e5e184face79b0ecf1a80cc893935e7ab1e779a41a20299b35e7a56da1f1", func := "fugleman/fuglemanlaw18.GdataWhole", spec := "gdataWhole", inPlace := ["internal/abi.NoEscape", "internal/bytealg.MakeNoZero"], plainKeys := false, apart := false, narrowed := true }
def GdataWholeUptoSaid : Prop := gdataWholeUptoRow.holds Try.pinned (OpenSpec.upto gdataWholeSpec)

/-- 'fuglemanlaw18.GdataPublishes', WHERE WHAT IT READS IS OF BULK AT MOST 1048576: true; the input reads as it did. -/
def gdataPublishesUptoRow : OpenClaim := { program := "ytkaigdfklihlcaa", sum := "32f5e5e184face79b0ecf1a80cc893935e7ab1e779a41a20299b35e7a56da1f1", func := "fugleman/fuglemanlaw18.GdataPublishes", spec := "gdataPublishes", inPlace := ["internal/abi.NoEscape", "internal/bytealg.MakeNoZero"], plainKeys := false, apart := false, narrowed := true }
def GdataPublishesUptoSaid : Prop := gdataPublishesUptoRow.holds Try.pinned (OpenSpec.upto gdataPublishesSpec)

end Rows
end Go.Proofs.Ytkaigdfklihlcaa
