/- The walks of layer 8: the three keys that every statement begins with. -/
import Derived.Test.YteeonfnaikndfaaW08l
import Derived.Test.YteeonfnaikndfaaW08f
set_option linter.unusedVariables false
set_option linter.unusedSimpArgs false
namespace Go.Proofs.Yteeonfnaikndfaa.W08
open Go.RowKit Go.Shelf Go.Proofs.Yteeonfnaikndfaa.Lib Go.Proofs.Yteeonfnaikndfaa.Sha Go.Proofs.Yteeonfnaikndfaa.T07 Go.Proofs.Yteeonfnaikndfaa.T08 Go.Proofs.Yteeonfnaikndfaa.Itms Go.Proofs.Yteeonfnaikndfaa.WSeq Go.Proofs.Yteeonfnaikndfaa.Bld Go.Proofs.Yteeonfnaikndfaa.Mp Go.Proofs.Yteeonfnaikndfaa.Ord
attribute [local go_sem] Str_size Str_toList Str_extract Str_append Str_get bt_nn bt_lt List.length_append take_rest sha_len
def l2 : List Itm := [([97], [49]), ([98], [50])]
def nd2 : List UInt8 := [80, 0, 2, 0, 1, 97, 0, 1, 49, 0, 1, 98, 0, 1, 50]
theorem nd2_eq : nodeB 0 l2 = nd2 := by decide
theorem right2 : rightS l2 = true := by decide
theorem parse2 : parseS nd2 = some (0, l2) := by decide
theorem cut2 : cutS (l2.map form) = [2] := by
  have hp : partS (l2.map form) = 2 := by
    unfold partS
    rw [partGo_stop _ _ _ _ (by decide)]
    rfl
  rw [cut_cons _ (by decide), hp]
  rfl
theorem tree2 : treeS l2 = (sha nd2, [nd2]) := by
  have h1 : levelS 0 l2 = ([upS 0 l2], [nodeB 0 l2]) := by
    unfold levelS; rw [cut2]; rfl
  rw [treeS, if_neg (by decide), h1, rise_one 1 _ rfl, List.append_nil, nd2_eq]
  have h2 : (upS 0 l2).2 = sha nd2 ++ be 2 8 := by rw [upS, nd2_eq]; rfl
  show ((upS 0 l2).2.take 32, [nd2]) = _
  rw [h2, List.take_left' (sha_len _)]
theorem heap2 : heapF [nd2] = putF (fun _ => none) (sha nd2) nd2 := rfl
theorem place2 : PlaceAt l2 [98] 1 := by
  refine ⟨by decide, fun t h => ?_, fun t h1 h2 => ?_⟩
  · obtain rfl : t = 0 := by omega
    decide
  · obtain rfl : t = 1 := by simp [l2] at h2; omega
    decide
theorem put_hff (rt nd : List UInt8) (N : Nat) (h : nd.length ≤ N) : ∀ k s, putF (fun _ => none) rt nd k = some s → s.length ≤ N := by
  intro k s hk
  unfold putF at hk
  split at hk
  · injection hk with hk; subst hk; exact h
  · cases hk
theorem put_at (rt nd : List UInt8) (l : List Itm) (h : parseS nd = some (0, l)) : atS (putF (fun _ => none) rt nd) rt = some (0, l) := by
  unfold atS putF
  rw [if_pos rfl]
  exact h
theorem sha_short (s : List UInt8) : (sha s).length ≤ 1000000000 := by rw [sha_len]; decide
end Go.Proofs.Yteeonfnaikndfaa.W08
