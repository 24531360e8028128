/- ProllyBuilds: a map's root and nodes, or that pairs are no map, are the document's. -/
import Derived.Test.YteeonfnaikndfaaW08i
import Derived.Test.YteeonfnaikndfaaW08v
import Derived.Test.YteeonfnaikndfaaW08k
set_option linter.unusedVariables false
set_option linter.unusedSimpArgs false
namespace Go.Proofs.Yteeonfnaikndfaa.W08
open Go.RowKit Go.Proofs.Yteeonfnaikndfaa.Lib Go.Proofs.Yteeonfnaikndfaa.Sha Go.Proofs.Yteeonfnaikndfaa.T07 Go.Proofs.Yteeonfnaikndfaa.T08 Go.Proofs.Yteeonfnaikndfaa.QTail Go.Proofs.Yteeonfnaikndfaa.Bld Go.Proofs.Yteeonfnaikndfaa.Itms Go.Proofs.Yteeonfnaikndfaa.W07 Go.Proofs.Yteeonfnaikndfaa.WSeq Go.Proofs.Yteeonfnaikndfaa.Ord
attribute [local go_sem] Str_size Str_toList Str_extract Str_append Str_get bt_nn bt_lt List.length_append take_rest sha_len two_len
theorem tree_len (l : List Itm) (h : l.length ≤ 1000000) : (treeS l).2.length ≤ 1000000000000 := by
  unfold treeS
  split
  · simp
  · rename_i h0
    have h1 := level_len 0 l
    have h2 := level_len2 0 l
    have h3 := cut_len (l.map form)
    rw [List.length_map] at h3
    simp only [List.length_append]
    by_cases hq : (levelS 0 l).1.length ≤ 1
    · rcases Nat.lt_or_ge 0 (levelS 0 l).1.length with h4 | h4
      · rw [rise_one 1 _ (by omega)]; simp; omega
      · have := cut_pos (l.map form) (by simp; omega)
        omega
    · have hlt := cut_lt (l.map form) (by
        simp
        rcases Nat.lt_or_ge l.length 2 with h5 | h5
        · omega
        · exact h5)
      rw [List.length_map] at hlt
      have := rise_len 1 (levelS 0 l).1.length (levelS 0 l).1 (Nat.le_refl _)
      unfold riseS
      omega
theorem own_low {w : World} {base n c b o : Nat} {e : TypeId} {size : Nat} {A : Option Addr} {xs : List Value} (h : w.ownsRow base e size (.slice A n c) n xs) (hA : A = some ⟨b, o, none⟩) : b < w.heap.size := by
  rcases h.2 with ⟨h, _⟩ | ⟨g, cap, cur, h1, _, h2, _⟩
  · injection h with h; rw [h] at hA; cases hA
  · injection h1 with h1
    rw [h1] at hA
    injection hA with hA
    injection hA with hA
    subst hA
    exact (Array.getElem?_eq_some_iff.1 h2).1
end Go.Proofs.Yteeonfnaikndfaa.W08
