/- The walks of layer 8: whether pairs are the same, whether two unlike texts have one fingerprint. -/
import Derived.Test.YtoidbgedpakjmaaInj
import Derived.Test.YtoidbgedpakjmaaW08w
import Derived.Test.YtoidbgedpakjmaaW01e
set_option linter.unusedVariables false
set_option linter.unusedSimpArgs false
namespace Go.Proofs.Ytoidbgedpakjmaa.W08
open Go.RowKit Go.Proofs.Ytoidbgedpakjmaa.Lib Go.Proofs.Ytoidbgedpakjmaa.Sha Go.Proofs.Ytoidbgedpakjmaa.T07 Go.Proofs.Ytoidbgedpakjmaa.T08 Go.Proofs.Ytoidbgedpakjmaa.QTail Go.Proofs.Ytoidbgedpakjmaa.Bld Go.Proofs.Ytoidbgedpakjmaa.Itms Go.Proofs.Ytoidbgedpakjmaa.W07 Go.Proofs.Ytoidbgedpakjmaa.WSeq Go.Proofs.Ytoidbgedpakjmaa.Mp Go.Proofs.Ytoidbgedpakjmaa.Inj Go.Proofs.Ytoidbgedpakjmaa.W01
attribute [local go_sem] Str_size Str_toList Str_extract Str_append Str_get bt_nn bt_lt List.length_append take_rest sha_len two_len
end Go.Proofs.Ytoidbgedpakjmaa.W08
