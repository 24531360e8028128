/- The types that rows of this program have. -/
import Derived.Test.YtffgkiccobhbjaaProg
import Derived.Test.YtffgkiccobhbjaaLib
set_option linter.unusedVariables false
set_option linter.unusedSimpArgs false
namespace Go.Proofs.Ytffgkiccobhbjaa.T05
open Go.Proofs.Ytffgkiccobhbjaa.Lib
theorem ti_str : TI Try.prog 26 9 1 16 := TI.of Try.underlying26 (by kernel_rfl) (by decide) (by decide)
theorem ti_int : TI Try.prog 30 3 1 8 := TI.of Try.underlying30 (by kernel_rfl) (by decide) (by decide)
end Go.Proofs.Ytffgkiccobhbjaa.T05
