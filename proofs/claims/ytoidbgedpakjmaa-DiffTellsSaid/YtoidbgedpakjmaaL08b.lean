/- ProllyOne: two maps have one root just if they are the same, or two unlike nodes have one fingerprint. -/
import Derived.Test.YtoidbgedpakjmaaL08
import Derived.Test.YtoidbgedpakjmaaRis
import Derived.Test.YtoidbgedpakjmaaW08o
set_option linter.unusedVariables false
set_option linter.unusedSimpArgs false
namespace Go.Proofs.Ytoidbgedpakjmaa.W08
open Go.RowKit Go.Proofs.Ytoidbgedpakjmaa.Lib Go.Proofs.Ytoidbgedpakjmaa.Sha Go.Proofs.Ytoidbgedpakjmaa.T07 Go.Proofs.Ytoidbgedpakjmaa.T08 Go.Proofs.Ytoidbgedpakjmaa.QTail Go.Proofs.Ytoidbgedpakjmaa.Bld Go.Proofs.Ytoidbgedpakjmaa.Itms Go.Proofs.Ytoidbgedpakjmaa.W07 Go.Proofs.Ytoidbgedpakjmaa.WSeq Go.Proofs.Ytoidbgedpakjmaa.Ord Go.Proofs.Ytoidbgedpakjmaa.Inj
attribute [local go_sem] Str_size Str_toList Str_extract Str_append Str_get bt_nn bt_lt List.length_append take_rest sha_len two_len
theorem node_short (lv : Nat) (l : List Itm) (h : Sm l) : (nodeB lv l).length ≤ 3 + 131076 * l.length := by
  have : ∀ l : List Itm, Sm l → (l.map form).flatten.length ≤ 131076 * l.length := by
    intro l
    induction l with
    | nil => intro _; simp
    | cons x l ih =>
      intro h
      obtain ⟨h1, h2⟩ := h x (List.mem_cons_self ..)
      have := ih (fun y hy => h y (List.mem_cons_of_mem _ hy))
      simp only [List.map_cons, List.flatten_cons, List.length_append, List.length_cons, form_len]
      omega
  have := this l h
  unfold nodeB nodeHead
  simp only [List.length_append, List.length_cons, List.length_nil]
  omega
theorem level_short (lv : Nat) : ∀ (k : Nat) (l : List Itm), l.length ≤ k → Sm l → ∀ s ∈ (levelS lv l).2, s.length ≤ 3000000 := by
  intro k
  induction k with
  | zero =>
    intro l h _
    rw [List.eq_nil_of_length_eq_zero (Nat.le_zero.1 h), level_nil]
    intro x hx; cases hx
  | succ k ih =>
    intro l h hl
    rcases Nat.lt_or_ge 0 l.length with h0 | h0
    · rw [level_cons lv l h0]
      have hp := part_pos (l.map form) (by simpa using h0)
      have hp2 := (part_le (l.map form)).2
      obtain ⟨p, hpE⟩ : ∃ p, p = partS (l.map form) := ⟨_, rfl⟩
      rw [← hpE] at hp hp2 ⊢
      intro x hx
      rcases List.mem_cons.1 hx with rfl | hx
      · have := node_short lv (l.take p) (hl.take p)
        have h2 : (l.take p).length ≤ 16 := by simp; omega
        omega
      · exact ih (l.drop p) (by simp; omega) (hl.drop p) x hx
    · rw [List.eq_nil_of_length_eq_zero (by omega : l.length = 0), level_nil]
      intro x hx; cases hx
theorem next_short : ∀ (k lv : Nat) (l : List Itm), l.length ≤ k → 0 < l.length → Sm l → ∀ s ∈ (nextS lv l).2, s.length ≤ 3000000 := by
  intro k
  induction k with
  | zero => intro lv l h h0; omega
  | succ k ih =>
    intro lv l h h0 sl s hs
    have s1 := level_some lv l h0
    by_cases h1 : (levelS lv l).1.length = 1
    · rw [next_one lv l h1] at hs
      exact level_short lv _ l (Nat.le_refl _) sl s hs
    · have hlt := level_less lv l (by omega)
      rw [next_more lv l (by omega)] at hs
      rcases List.mem_append.1 hs with hs | hs
      · exact level_short lv _ l (Nat.le_refl _) sl s hs
      · exact ih (lv + 1) _ (by omega) s1 (level_sm lv _ l (Nat.le_refl _) sl) s hs
theorem tree_short (l : List Itm) (sl : Sm l) : ∀ s ∈ (treeS l).2, s.length ≤ 3000000 := by
  intro s hs
  by_cases h0 : l.length = 0
  · have e : l = [] := List.eq_nil_of_length_eq_zero h0
    subst e
    have hE : (treeS []).2 = [nodeB 0 []] := rfl
    rw [hE] at hs
    obtain rfl : s = nodeB 0 [] := by simpa using hs
    have := node_short 0 [] sl
    simp at this
    omega
  · rw [tree_next l h0] at hs
    exact next_short _ 0 l (Nat.le_refl _) (by omega) sl s hs
theorem few_sm (l : List Itm) (h : FewS l) : Sm (risingS l) := fun x hx => by
  have := few_mem h x (rising_mem l x hx)
  omega
theorem sat_all {l : List (List UInt8)} {N : Nat} (h : ∀ s ∈ l, s.length ≤ N) (i : Nat) (hi : i < l.length) : (sat l i).length ≤ N := by
  rw [sat_eq l i hi]; exact h _ (List.getElem_mem hi)
end Go.Proofs.Ytoidbgedpakjmaa.W08
