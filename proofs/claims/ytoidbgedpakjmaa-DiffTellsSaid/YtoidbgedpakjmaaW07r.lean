/- The walks of layer 7: the document's cuts. -/
import Derived.Test.YtoidbgedpakjmaaW01e
import Derived.Test.YtoidbgedpakjmaaW07
set_option linter.unusedVariables false
set_option linter.unusedSimpArgs false
namespace Go.Proofs.Ytoidbgedpakjmaa.W07
open Go.RowKit Go.Proofs.Ytoidbgedpakjmaa.Lib Go.Proofs.Ytoidbgedpakjmaa.Sha Go.Proofs.Ytoidbgedpakjmaa.T07 Go.Proofs.Ytoidbgedpakjmaa.W01
attribute [local go_sem] Str_mk Str_size Str_toList Str_extract Str_append Str_get bt_nn bt_lt List.length_append take_rest sha_len
theorem sat_drop (l : List (List UInt8)) (k n : Nat) : sat (l.drop k) n = sat l (k + n) := by simp [sat, List.getD_eq_getElem?_getD]
end Go.Proofs.Ytoidbgedpakjmaa.W07
