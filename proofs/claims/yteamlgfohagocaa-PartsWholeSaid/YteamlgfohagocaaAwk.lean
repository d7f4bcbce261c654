/- awake answers true. -/
import Derived.Test.YteamlgfohagocaaTab
import Derived.Test.YteamlgfohagocaaSymR
namespace Go.Proofs.Yteamlgfohagocaa.Awk
open Go Go.Proofs.Yteamlgfohagocaa.Sym Go.Proofs.Yteamlgfohagocaa.Tab
theorem awake_a : acall T 199 6 0 [] [] = some ⟨.v (.bool true), [], 1⟩ := by kernel_rfl
end Go.Proofs.Yteamlgfohagocaa.Awk
