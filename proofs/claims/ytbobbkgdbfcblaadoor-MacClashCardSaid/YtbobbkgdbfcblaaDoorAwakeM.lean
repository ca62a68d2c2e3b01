/- The first law's awake. -/
import Derived.Test.YtbobbkgdbfcblaaDoorMir1
import Derived.KernelRfl
set_option linter.all false
namespace Go.Proofs.YtbobbkgdbfcblaaDoor
open Go
theorem awake2 : sem tab 1000 9 28 [] [] = some (.b true, []) := by kernel_rfl
end Go.Proofs.YtbobbkgdbfcblaaDoor
