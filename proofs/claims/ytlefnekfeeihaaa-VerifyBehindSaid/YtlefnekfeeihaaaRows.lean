/-
  No cell of these rows narrows 'for every input' (looked for: loops, veiled, ifaces, maps, wideKeys, modest, calm, conditions, laid).
  DERIVED. THE GIVEN ROWS OF THIS SEAT. 3 by the template 'for every input the law returns true; each argument reads behind the call as it read before'; 0 by the template 'total and deterministic' (their statements: YtlefnekfeeihaaaTotals.lean).
  GIVEN WITH THE SEED: the statements are not yours to turn. If you find one false, say at which input.
  Laid BY PROGRAM, IN A SANDBOX (cutbox-rows.mjs): the forced cells as the released guide's own fill.sh prints them over the translation f448407c75b68129… (all of the seat's roots in one cut). By AI agents, Wed Nov 11 2026. No macro, syntax, notation, axiom, sorry.
-/
import Derived.Test.YtlefnekfeeihaaaChecked
import GoSem.Claim
import GoSem.ClaimJoined
import GoSem.ClaimMapViews
import Derived.JoinedTies
import Derived.KernelRfl
namespace Go.Proofs.Ytlefnekfeeihaaa
/- THE CELL 'sum', in the pinned program and in every row, IS THE sha256 OF THE DUMP (.gsa) THAT YtlefnekfeeihaaaProg.lean LOADS. Nothing in Lean hashes anything: it is a label: what it is worth is what the hold of that sum in a sandbox is worth. -/
noncomputable def Try.pinned : Pinned := { name := "ytlefnekfeeihaaa", sum := "f448407c75b681290e1d77ee42f04447efdead83b818a95b9aa39af8f41c0527", checked := Try.checked }
namespace Rows
def none {H : Type} : Left H := { results := [], args := [] }

/-- 'fuglemanlaw14.VerifyChecks': WHATEVER THE INPUT: true; the input reads as it did. -/
def verifyChecksSpec : ChangeSpec := { name := "verifyChecks", fn := fun _ => fun
  | [d] => { results := [.lit (.bool true)], args := [d] }
  | _ => none }
def verifyChecksRow : OpenClaim := { program := "ytlefnekfeeihaaa", sum := "f448407c75b681290e1d77ee42f04447efdead83b818a95b9aa39af8f41c0527", func := "fugleman/fuglemanlaw14.VerifyChecks", spec := "verifyChecks", unfollowed := true, recurses := true, apart := false }
def VerifyChecksSaid : Prop := verifyChecksRow.holds Try.pinned (OpenSpec.ofChange verifyChecksSpec)

/-- ITS FALSE NEIGHBOUR: 'it returns false'. Refute it at one input. -/
def verifyChecksWrong : ChangeSpec := { name := "verifyChecks", fn := fun _ => fun
  | [d] => { results := [.lit (.bool false)], args := [d] }
  | _ => none }
def VerifyChecksWrongFalsely : Prop := verifyChecksRow.holds Try.pinned (OpenSpec.ofChange verifyChecksWrong)

/-- 'fuglemanlaw14.VerifyBehind': WHATEVER THE INPUT: true; the input reads as it did. -/
def verifyBehindSpec : ChangeSpec := { name := "verifyBehind", fn := fun _ => fun
  | [d1, d2] => { results := [.lit (.bool true)], args := [d1, d2] }
  | _ => none }
def verifyBehindRow : OpenClaim := { program := "ytlefnekfeeihaaa", sum := "f448407c75b681290e1d77ee42f04447efdead83b818a95b9aa39af8f41c0527", func := "fugleman/fuglemanlaw14.VerifyBehind", spec := "verifyBehind", unfollowed := true, recurses := true, apart := false }
def VerifyBehindSaid : Prop := verifyBehindRow.holds Try.pinned (OpenSpec.ofChange verifyBehindSpec)

/-- ITS FALSE NEIGHBOUR: 'it returns false'. Refute it at one input. -/
def verifyBehindWrong : ChangeSpec := { name := "verifyBehind", fn := fun _ => fun
  | [d1, d2] => { results := [.lit (.bool false)], args := [d1, d2] }
  | _ => none }
def VerifyBehindWrongFalsely : Prop := verifyBehindRow.holds Try.pinned (OpenSpec.ofChange verifyBehindWrong)

/-- 'fuglemanlaw14.VerifyBytes': WHATEVER THE INPUT: true; the input reads as it did. -/
def verifyBytesSpec : ChangeSpec := { name := "verifyBytes", fn := fun _ => fun
  | [d] => { results := [.lit (.bool true)], args := [d] }
  | _ => none }
def verifyBytesRow : OpenClaim := { program := "ytlefnekfeeihaaa", sum := "f448407c75b681290e1d77ee42f04447efdead83b818a95b9aa39af8f41c0527", func := "fugleman/fuglemanlaw14.VerifyBytes", spec := "verifyBytes", unfollowed := true, recurses := true, apart := false }
def VerifyBytesSaid : Prop := verifyBytesRow.holds Try.pinned (OpenSpec.ofChange verifyBytesSpec)

/-- ITS FALSE NEIGHBOUR: 'it returns false'. Refute it at one input. -/
def verifyBytesWrong : ChangeSpec := { name := "verifyBytes", fn := fun _ => fun
  | [d] => { results := [.lit (.bool false)], args := [d] }
  | _ => none }
def VerifyBytesWrongFalsely : Prop := verifyBytesRow.holds Try.pinned (OpenSpec.ofChange verifyBytesWrong)

/- THE SECOND FORM. 'bulk': how many values and letters a reading holds, each counted each time it is reached (what is shared counts as often as it is met; a slice's spare places count too). A statement '..UptoSaid' is the law's where the arguments, and the package variables that the reading takes, are together of bulk at most 1048576: NARROWER than '..Said'. Prove '..Said' where nothing that the law and all that it calls make is longer than what came in: it says more and counts as full. Else prove '..UptoSaid'. A law counts once. -/
mutual
def uptoBulk {H : Type} : DataW H → Nat
  | .lit (.string bytes) => bytes.length + 1
  | .lit _ => 1
  | .nil => 1
  | .ptr d => uptoBulk d + 1
  | .slice elems spare => uptoBulkAll elems + uptoBulkAll spare + 1
  | .agg parts => uptoBulkAll parts + 1
  | .iface _ d => uptoBulk d + 1
  | .map entries => uptoBulkEntries entries + 1
  | .held _ => 1
def uptoBulkAll {H : Type} : List (DataW H) → Nat
  | [] => 0
  | d :: r => uptoBulk d + uptoBulkAll r
def uptoBulkEntries {H : Type} : List (Lit × DataW H) → Nat
  | [] => 0
  | x :: r => uptoBulkEntry x + uptoBulkEntries r
def uptoBulkEntry {H : Type} : Lit × DataW H → Nat
  | (.string bytes, d) => bytes.length + uptoBulk d + 1
  | (_, d) => uptoBulk d + 1
 end
def uptoSmall : (H : Type) → List (DataW H) → Bool := fun _ ds => decide (uptoBulkAll ds ≤ 1048576)
def OpenSpec.upto (s : _root_.Go.ChangeSpec) : _root_.Go.OpenSpec := { _root_.Go.OpenSpec.ofChange s with cond := some uptoSmall }

/-- 'fuglemanlaw14.VerifyChecks', WHERE WHAT IT READS IS OF BULK AT MOST 1048576: true; the input reads as it did. -/
def verifyChecksUptoRow : OpenClaim := { program := "ytlefnekfeeihaaa", sum := "f448407c75b681290e1d77ee42f04447efdead83b818a95b9aa39af8f41c0527", func := "fugleman/fuglemanlaw14.VerifyChecks", spec := "verifyChecks", unfollowed := true, recurses := true, apart := false, narrowed := true }
def VerifyChecksUptoSaid : Prop := verifyChecksUptoRow.holds Try.pinned (OpenSpec.upto verifyChecksSpec)

/-- 'fuglemanlaw14.VerifyBehind', WHERE WHAT IT READS IS OF BULK AT MOST 1048576: true; the input reads as it did. -/
def verifyBehindUptoRow : OpenClaim := { program := "ytlefnekfeeihaaa", sum := "f448407c75b681290e1d77ee42f04447efdead83b818a95b9aa39af8f41c0527", func := "fugleman/fuglemanlaw14.VerifyBehind", spec := "verifyBehind", unfollowed := true, recurses := true, apart := false, narrowed := true }
def VerifyBehindUptoSaid : Prop := verifyBehindUptoRow.holds Try.pinned (OpenSpec.upto verifyBehindSpec)

/-- 'fuglemanlaw14.VerifyBytes', WHERE WHAT IT READS IS OF BULK AT MOST 1048576: true; the input reads as it did. -/
def verifyBytesUptoRow : OpenClaim := { program := "ytlefnekfeeihaaa", sum := "f448407c75b681290e1d77ee42f04447efdead83b818a95b9aa39af8f41c0527", func := "fugleman/fuglemanlaw14.VerifyBytes", spec := "verifyBytes", unfollowed := true, recurses := true, apart := false, narrowed := true }
def VerifyBytesUptoSaid : Prop := verifyBytesUptoRow.holds Try.pinned (OpenSpec.upto verifyBytesSpec)

end Rows
end Go.Proofs.Ytlefnekfeeihaaa
