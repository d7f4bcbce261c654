/-
  DERIVED. GIVEN WITH THE SEED: THE CARDS: each row of YthdiljjbcaleoaaDoorRows.lean that lists a variable, with what it lists TIED to the program's text (the seventh form; the later family's looks); each row that meets fmt, with fmt's text TOLD by the authors' own Lean function (tested against real Go, not proved from fmt's source: count such statements apart). THE CARD IS WHAT COUNTS. Prove the row's statement (the work); the ties are given (YthdiljjbcaleoaaDoorTie.lean); close each card by the builder's one call (the guide's Derived/Test/ToyasCard.lean, 'card_holds'). Laid BY PROGRAM, IN A SANDBOX (cutbox-door.mjs). By AI agents, Wed Nov 11 2026. No macro, syntax, notation, axiom, sorry.
-/
import Derived.Test.YthdiljjbcaleoaaDoorRows
import GoSem.ClaimSeven
namespace Go.Proofs.YthdiljjbcaleoaaDoor
namespace Rows

/-- THE TIED CARD OF 'fuglemanlaw07.RetainEnds'. -/
def retainEndsCard : Claim7 := { stood := { row := retainEndsRow, standIns := [], harness := (true, "efb4fd21950b87b5c632e58887979e2ae62bac05073b7a850aaa65bf54bac0de"), looks := false }, kinds := [], alts := [], laidByText := true, laidKinds := [.data, .pinned], laidTests := true, laidLooks := .later }
def RetainEndsCardSaid : Prop := Claim7.holds Tryd.pinned (.plain (OpenSpec.ofChange retainEndsSpec)) retainEndsCard

/-- THE TIED CARD OF 'fuglemanlaw07.RetainTears'. -/
def retainTearsCard : Claim7 := { stood := { row := retainTearsRow, standIns := [], harness := (true, "efb4fd21950b87b5c632e58887979e2ae62bac05073b7a850aaa65bf54bac0de"), looks := false }, kinds := [], alts := [], laidByText := true, laidKinds := [.data, .pinned], laidTests := true, laidLooks := .later }
def RetainTearsCardSaid : Prop := Claim7.holds Tryd.pinned (.plain (OpenSpec.ofChange retainTearsSpec)) retainTearsCard

/-- THE TIED CARD OF 'fuglemanlaw07.RetainBoots'. -/
def retainBootsCard : Claim7 := { stood := { row := retainBootsRow, standIns := [], harness := (true, "efb4fd21950b87b5c632e58887979e2ae62bac05073b7a850aaa65bf54bac0de"), looks := false }, kinds := [], alts := [], laidByText := true, laidKinds := [.data, .pinned], laidTests := true, laidLooks := .later }
def RetainBootsCardSaid : Prop := Claim7.holds Tryd.pinned (.plain (OpenSpec.ofChange retainBootsSpec)) retainBootsCard

/-- THE TIED CARD OF 'fuglemanlaw07.RetainRuns'. -/
def retainRunsCard : Claim7 := { stood := { row := retainRunsRow, standIns := [], harness := (true, "efb4fd21950b87b5c632e58887979e2ae62bac05073b7a850aaa65bf54bac0de"), looks := false }, kinds := [], alts := [], laidByText := true, laidKinds := [.data, .pinned], laidTests := true, laidLooks := .later }
def RetainRunsCardSaid : Prop := Claim7.holds Tryd.pinned (.plain (OpenSpec.ofChange retainRunsSpec)) retainRunsCard

/-- THE SECOND FORM's CARD OF 'fuglemanlaw07.RetainEnds'. -/
def retainEndsUptoCard : Claim7 := { stood := { row := retainEndsUptoRow, standIns := [], harness := (true, "efb4fd21950b87b5c632e58887979e2ae62bac05073b7a850aaa65bf54bac0de"), looks := false }, kinds := [], alts := [], laidByText := true, laidKinds := [.data, .pinned], laidTests := true, laidLooks := .later }
def RetainEndsUptoCardSaid : Prop := Claim7.holds Tryd.pinned (.plain (OpenSpec.upto retainEndsSpec)) retainEndsUptoCard

/-- THE SECOND FORM's CARD OF 'fuglemanlaw07.RetainTears'. -/
def retainTearsUptoCard : Claim7 := { stood := { row := retainTearsUptoRow, standIns := [], harness := (true, "efb4fd21950b87b5c632e58887979e2ae62bac05073b7a850aaa65bf54bac0de"), looks := false }, kinds := [], alts := [], laidByText := true, laidKinds := [.data, .pinned], laidTests := true, laidLooks := .later }
def RetainTearsUptoCardSaid : Prop := Claim7.holds Tryd.pinned (.plain (OpenSpec.upto retainTearsSpec)) retainTearsUptoCard

/-- THE SECOND FORM's CARD OF 'fuglemanlaw07.RetainBoots'. -/
def retainBootsUptoCard : Claim7 := { stood := { row := retainBootsUptoRow, standIns := [], harness := (true, "efb4fd21950b87b5c632e58887979e2ae62bac05073b7a850aaa65bf54bac0de"), looks := false }, kinds := [], alts := [], laidByText := true, laidKinds := [.data, .pinned], laidTests := true, laidLooks := .later }
def RetainBootsUptoCardSaid : Prop := Claim7.holds Tryd.pinned (.plain (OpenSpec.upto retainBootsSpec)) retainBootsUptoCard

/-- THE SECOND FORM's CARD OF 'fuglemanlaw07.RetainRuns'. -/
def retainRunsUptoCard : Claim7 := { stood := { row := retainRunsUptoRow, standIns := [], harness := (true, "efb4fd21950b87b5c632e58887979e2ae62bac05073b7a850aaa65bf54bac0de"), looks := false }, kinds := [], alts := [], laidByText := true, laidKinds := [.data, .pinned], laidTests := true, laidLooks := .later }
def RetainRunsUptoCardSaid : Prop := Claim7.holds Tryd.pinned (.plain (OpenSpec.upto retainRunsSpec)) retainRunsUptoCard
end Rows
end Go.Proofs.YthdiljjbcaleoaaDoor
