/- awake answers true. -/
import Derived.Test.YthmmgpdniijkeaaTab
import Derived.Test.YthmmgpdniijkeaaSymR
namespace Go.Proofs.Ythmmgpdniijkeaa.Bus
open Go Go.Proofs.Ythmmgpdniijkeaa.Sym Go.Proofs.Ythmmgpdniijkeaa.Tab
theorem awake_a : acall T 199 7 0 [] [] = some ⟨.v (.bool true), [], 1⟩ := by kernel_rfl
end Go.Proofs.Ythmmgpdniijkeaa.Bus
