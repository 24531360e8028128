/- The walks of layer 8: where a key stands in a node. The walks of layer 8: what is found in a tree of one node. -/
import Derived.Test.YtoidbgedpakjmaaOrd
import Derived.Test.YtoidbgedpakjmaaW08
import Derived.Test.YtoidbgedpakjmaaW08z
set_option linter.unusedVariables false
set_option linter.unusedSimpArgs false
namespace Go.Proofs.Ytoidbgedpakjmaa.W08
open Go.RowKit Go.Proofs.Ytoidbgedpakjmaa.Lib Go.Proofs.Ytoidbgedpakjmaa.Sha Go.Proofs.Ytoidbgedpakjmaa.T08 Go.Proofs.Ytoidbgedpakjmaa.QTail Go.Proofs.Ytoidbgedpakjmaa.Itms Go.Proofs.Ytoidbgedpakjmaa.WSeq Go.Proofs.Ytoidbgedpakjmaa.Ord
attribute [local go_sem] Str_size Str_toList Str_extract Str_append Str_get bt_nn bt_lt List.length_append take_rest
end Go.Proofs.Ytoidbgedpakjmaa.W08
namespace Go.Proofs.Ytoidbgedpakjmaa.W08
open Go.RowKit Go.Proofs.Ytoidbgedpakjmaa.Lib Go.Proofs.Ytoidbgedpakjmaa.Sha Go.Proofs.Ytoidbgedpakjmaa.T08 Go.Proofs.Ytoidbgedpakjmaa.QTail Go.Proofs.Ytoidbgedpakjmaa.Itms Go.Proofs.Ytoidbgedpakjmaa.WSeq Go.Proofs.Ytoidbgedpakjmaa.Bld Go.Proofs.Ytoidbgedpakjmaa.Mp Go.Proofs.Ytoidbgedpakjmaa.Ord
attribute [local go_sem] Str_size Str_toList Str_extract Str_append Str_get bt_nn bt_lt List.length_append take_rest
theorem parse_right {s : List UInt8} {lv : Nat} {l : List Itm} (h : parseS s = some (lv, l)) : rightS l = true ∧ l.length ≤ 1000000000 ∨ 1000000000 < l.length := by
  unfold parseS at h
  split at h
  · split at h
    · cases h
    · split at h
      · rename_i hh
        injection h with h; injection h with h1 h2
        subst h2
        rcases Nat.lt_or_ge 1000000000 _ with h3 | h3
        · exact .inr h3
        · exact .inl ⟨hh.2.2, h3⟩
      · cases h
  · cases h
theorem right_ok {l : List Itm} (h : rightS l = true) : okS l = true := by
  unfold rightS at h
  simp only [Bool.and_eq_true] at h
  exact h.1
end Go.Proofs.Ytoidbgedpakjmaa.W08
