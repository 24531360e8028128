/- The walks of layer 8: the three keys that every statement begins with. ProllyBuilds: a map's root and nodes, or that pairs are no map, are the document's. -/
import Derived.Test.YtoidbgedpakjmaaW08l
import Derived.Test.YtoidbgedpakjmaaW08f
import Derived.Test.YtoidbgedpakjmaaW08i
import Derived.Test.YtoidbgedpakjmaaW08v
set_option linter.unusedVariables false
set_option linter.unusedSimpArgs false
namespace Go.Proofs.Ytoidbgedpakjmaa.W08
open Go.RowKit Go.Shelf Go.Proofs.Ytoidbgedpakjmaa.Lib Go.Proofs.Ytoidbgedpakjmaa.Sha Go.Proofs.Ytoidbgedpakjmaa.T07 Go.Proofs.Ytoidbgedpakjmaa.T08 Go.Proofs.Ytoidbgedpakjmaa.Itms Go.Proofs.Ytoidbgedpakjmaa.WSeq Go.Proofs.Ytoidbgedpakjmaa.Bld Go.Proofs.Ytoidbgedpakjmaa.Mp Go.Proofs.Ytoidbgedpakjmaa.Ord
attribute [local go_sem] Str_size Str_toList Str_extract Str_append Str_get bt_nn bt_lt List.length_append take_rest sha_len
def l2 : List Itm := [([97], [49]), ([98], [50])]
def nd2 : List UInt8 := [80, 0, 2, 0, 1, 97, 0, 1, 49, 0, 1, 98, 0, 1, 50]
theorem nd2_eq : nodeB 0 l2 = nd2 := by decide
theorem right2 : rightS l2 = true := by decide
theorem parse2 : parseS nd2 = some (0, l2) := by decide
theorem cut2 : cutS (l2.map form) = [2] := by
  have hp : partS (l2.map form) = 2 := by
    unfold partS
    rw [partGo_stop _ _ _ _ (by decide)]
    rfl
  rw [cut_cons _ (by decide), hp]
  rfl
theorem tree2 : treeS l2 = (sha nd2, [nd2]) := by
  have h1 : levelS 0 l2 = ([upS 0 l2], [nodeB 0 l2]) := by
    unfold levelS; rw [cut2]; rfl
  rw [treeS, if_neg (by decide), h1, rise_one 1 _ rfl, List.append_nil, nd2_eq]
  have h2 : (upS 0 l2).2 = sha nd2 ++ be 2 8 := by rw [upS, nd2_eq]; rfl
  show ((upS 0 l2).2.take 32, [nd2]) = _
  rw [h2, List.take_left' (sha_len _)]
theorem heap2 : heapF [nd2] = putF (fun _ => none) (sha nd2) nd2 := rfl
theorem place2 : PlaceAt l2 [98] 1 := by
  refine ⟨by decide, fun t h => ?_, fun t h1 h2 => ?_⟩
  · obtain rfl : t = 0 := by omega
    decide
  · obtain rfl : t = 1 := by simp [l2] at h2; omega
    decide
theorem put_hff (rt nd : List UInt8) (N : Nat) (h : nd.length ≤ N) : ∀ k s, putF (fun _ => none) rt nd k = some s → s.length ≤ N := by
  intro k s hk
  unfold putF at hk
  split at hk
  · injection hk with hk; subst hk; exact h
  · cases hk
theorem put_at (rt nd : List UInt8) (l : List Itm) (h : parseS nd = some (0, l)) : atS (putF (fun _ => none) rt nd) rt = some (0, l) := by
  unfold atS putF
  rw [if_pos rfl]
  exact h
theorem sha_short (s : List UInt8) : (sha s).length ≤ 1000000000 := by rw [sha_len]; decide
end Go.Proofs.Ytoidbgedpakjmaa.W08
namespace Go.Proofs.Ytoidbgedpakjmaa.W08
open Go.RowKit Go.Proofs.Ytoidbgedpakjmaa.Lib Go.Proofs.Ytoidbgedpakjmaa.Sha Go.Proofs.Ytoidbgedpakjmaa.T07 Go.Proofs.Ytoidbgedpakjmaa.T08 Go.Proofs.Ytoidbgedpakjmaa.QTail Go.Proofs.Ytoidbgedpakjmaa.Bld Go.Proofs.Ytoidbgedpakjmaa.Itms Go.Proofs.Ytoidbgedpakjmaa.W07 Go.Proofs.Ytoidbgedpakjmaa.WSeq Go.Proofs.Ytoidbgedpakjmaa.Ord
attribute [local go_sem] Str_size Str_toList Str_extract Str_append Str_get bt_nn bt_lt List.length_append take_rest sha_len two_len
theorem tree_len (l : List Itm) (h : l.length ≤ 1000000) : (treeS l).2.length ≤ 1000000000000 := by
  unfold treeS
  split
  · simp
  · rename_i h0
    have h1 := level_len 0 l
    have h2 := level_len2 0 l
    have h3 := cut_len (l.map form)
    rw [List.length_map] at h3
    simp only [List.length_append]
    by_cases hq : (levelS 0 l).1.length ≤ 1
    · rcases Nat.lt_or_ge 0 (levelS 0 l).1.length with h4 | h4
      · rw [rise_one 1 _ (by omega)]; simp; omega
      · have := cut_pos (l.map form) (by simp; omega)
        omega
    · have hlt := cut_lt (l.map form) (by
        simp
        rcases Nat.lt_or_ge l.length 2 with h5 | h5
        · omega
        · exact h5)
      rw [List.length_map] at hlt
      have := rise_len 1 (levelS 0 l).1.length (levelS 0 l).1 (Nat.le_refl _)
      unfold riseS
      omega
theorem own_low {w : World} {base n c b o : Nat} {e : TypeId} {size : Nat} {A : Option Addr} {xs : List Value} (h : w.ownsRow base e size (.slice A n c) n xs) (hA : A = some ⟨b, o, none⟩) : b < w.heap.size := by
  rcases h.2 with ⟨h, _⟩ | ⟨g, cap, cur, h1, _, h2, _⟩
  · injection h with h; rw [h] at hA; cases hA
  · injection h1 with h1
    rw [h1] at hA
    injection hA with hA
    injection hA with hA
    subst hA
    exact (Array.getElem?_eq_some_iff.1 h2).1
end Go.Proofs.Ytoidbgedpakjmaa.W08
