/- awake answers true. -/
import Derived.Test.YtkaigdfklihlcaaTab
import Derived.Test.YtkaigdfklihlcaaSymR
namespace Go.Proofs.Ytkaigdfklihlcaa.GAwk
open Go Go.Proofs.Ytkaigdfklihlcaa.Sym Go.Proofs.Ytkaigdfklihlcaa.Tab
theorem awake_a : acall T 199 7 0 [] [] = some ⟨.v (.bool true), [], 1⟩ := by kernel_rfl
end Go.Proofs.Ytkaigdfklihlcaa.GAwk
