/- The first law's awake. -/
import Derived.Test.YtbobbkgdbfcblaaDoorMir1
import Derived.KernelRfl
set_option linter.all false
namespace Go.Proofs.YtbobbkgdbfcblaaDoor
open Go
theorem awake3 : sem tab 1000 10 28 [] [] = some (.b true, []) := by kernel_rfl
end Go.Proofs.YtbobbkgdbfcblaaDoor
