/- Layer 7 in plain words: where items are cut. -/
import Derived.Test.YtidbaagdajkojaaSha
set_option linter.unusedVariables false
set_option linter.unusedSimpArgs false
namespace Go.Proofs.Ytidbaagdajkojaa.T07
open Go.Proofs.Ytidbaagdajkojaa.Lib Go.Proofs.Ytidbaagdajkojaa.Sha
def ends (s : List UInt8) : Bool := decide (bt (sha s) 0 < 64)
def partGo (l : List (List UInt8)) (most : Nat) : Nat → Nat → Nat
  | 0, _ => most
  | f + 1, n => if n < most then (if ends (sat l (n - 1)) = true then n else partGo l most f (n + 1)) else most
def mostOf (l : List (List UInt8)) : Nat := if l.length ≤ 16 then l.length else 16
def partS (l : List (List UInt8)) : Nat := partGo l (mostOf l) 20 2
theorem partGo_stop (l : List (List UInt8)) (most n f : Nat) (h : ¬ n < most) : partGo l most f n = most := by
  cases f with
  | zero => rfl
  | succ f => rw [partGo, if_neg h]
theorem partGo_ge (l : List (List UInt8)) (most : Nat) : ∀ f n, partGo l most f n = most ∨ (n ≤ partGo l most f n ∧ partGo l most f n < most)
  | 0, n => .inl rfl
  | f + 1, n => by
    rw [partGo]
    split
    · split
      · right; omega
      · rcases partGo_ge l most f (n + 1) with h | h
        · exact .inl h
        · exact .inr (by omega)
    · exact .inl rfl
theorem mostOf_le (l : List (List UInt8)) : mostOf l ≤ l.length ∧ mostOf l ≤ 16 := by unfold mostOf; split <;> omega
theorem mostOf_pos (l : List (List UInt8)) (h : 0 < l.length) : 0 < mostOf l := by unfold mostOf; split <;> omega
theorem part_pos (l : List (List UInt8)) (h : 0 < l.length) : 0 < partS l := by
  have := mostOf_pos l h
  rcases partGo_ge l (mostOf l) 20 2 with h1 | h1 <;> unfold partS <;> omega
theorem part_le (l : List (List UInt8)) : partS l ≤ l.length ∧ partS l ≤ 16 := by
  have := mostOf_le l
  rcases partGo_ge l (mostOf l) 20 2 with h1 | h1 <;> unfold partS <;> omega
theorem part_two (l : List (List UInt8)) (h : 2 ≤ l.length) : 2 ≤ partS l := by
  have : 2 ≤ mostOf l := by unfold mostOf; split <;> omega
  rcases partGo_ge l (mostOf l) 20 2 with h1 | h1 <;> unfold partS <;> omega
def cutGo : Nat → List (List UInt8) → List Nat
  | 0, _ => []
  | f + 1, l => if l = [] then [] else partS l :: cutGo f (l.drop (partS l))
def cutS (l : List (List UInt8)) : List Nat := cutGo l.length l
theorem cutGo_enough : ∀ (f : Nat) (l : List (List UInt8)), l.length ≤ f → cutGo f l = cutGo l.length l
  | 0, l, h => by
    have : l = [] := List.eq_nil_of_length_eq_zero (by omega)
    subst this; rfl
  | f + 1, l, h => by
    cases hl : l with
    | nil => simp [cutGo]
    | cons a t =>
      subst hl
      have hp := part_pos (a :: t) (by simp)
      have h1 : ((a :: t).drop (partS (a :: t))).length ≤ t.length := by simp only [List.length_drop, List.length_cons]; omega
      simp only [List.length_cons] at h
      rw [cutGo, if_neg (by simp), cutGo_enough f _ (by omega)]
      rw [List.length_cons, cutGo, if_neg (by simp), cutGo_enough t.length _ h1]
theorem cut_nil : cutS [] = [] := rfl
theorem cut_cons (l : List (List UInt8)) (h : 0 < l.length) : cutS l = partS l :: cutS (l.drop (partS l)) := by
  obtain ⟨n, hn⟩ : ∃ n, l.length = n + 1 := ⟨l.length - 1, by omega⟩
  have hp := part_pos l h
  have hne : l ≠ [] := by intro e; subst e; simp at h
  unfold cutS
  rw [hn, cutGo, if_neg hne, cutGo_enough n _ (by simp; omega)]
theorem cut_len_le : ∀ (k : Nat) (l : List (List UInt8)), l.length ≤ k → (cutS l).length ≤ l.length
  | 0, l, h => by
    obtain rfl : l = [] := List.eq_nil_of_length_eq_zero (by omega)
    simp [cut_nil]
  | k + 1, l, h => by
    by_cases h0 : 0 < l.length
    · have hp := part_pos l h0
      rw [cut_cons l h0, List.length_cons]
      have := cut_len_le k (l.drop (partS l)) (by simp; omega)
      simp only [List.length_drop] at this
      omega
    · obtain rfl : l = [] := List.eq_nil_of_length_eq_zero (by omega)
      simp [cut_nil]
theorem cut_len (l : List (List UInt8)) : (cutS l).length ≤ l.length := cut_len_le _ l (Nat.le_refl _)
theorem step_cut (r : List (List UInt8)) (n : Nat) (hn : n < mostOf r) (hq : n ≤ 1 ∨ partGo r (mostOf r) (21 - n) (n + 1) = partS r) :
    ((n + 1 = 16 ∨ (2 ≤ n + 1 ∧ ends (sat r n) = true) ∨ n + 1 = r.length) → partS r = n + 1) ∧
    (¬ (n + 1 = 16 ∨ (2 ≤ n + 1 ∧ ends (sat r n) = true) ∨ n + 1 = r.length) → n + 1 < mostOf r ∧ (n + 1 ≤ 1 ∨ partGo r (mostOf r) (21 - (n + 1)) (n + 1 + 1) = partS r)) := by
  have hm := mostOf_le r
  have hm2 : mostOf r = 16 ∨ mostOf r = r.length := by unfold mostOf; split <;> omega
  have hq' : 1 ≤ n → partGo r (mostOf r) (21 - n) (n + 1) = partS r := by
    intro h1
    rcases hq with h | h
    · obtain rfl : n = 1 := by omega
      rfl
    · exact h
  refine ⟨fun h => ?_, fun h => ?_⟩
  · by_cases h1 : 1 ≤ n
    · have h2 := hq' h1
      rw [show 21 - n = (20 - n) + 1 by omega, partGo] at h2
      by_cases h3 : n + 1 < mostOf r
      · rw [if_pos h3, Nat.add_sub_cancel] at h2
        by_cases h4 : ends (sat r n) = true
        · rw [if_pos h4] at h2; exact h2.symm
        · rcases h with h | h | h
          · omega
          · exact absurd h.2 h4
          · omega
      · rw [if_neg h3] at h2; omega
    · obtain rfl : n = 0 := by omega
      have h1 : mostOf r = 1 := by
        rcases h with h | h | h
        · omega
        · omega
        · unfold mostOf; split <;> omega
      unfold partS; rw [partGo_stop _ _ _ _ (by omega), h1]
  · have h3 : n + 1 < mostOf r := by rcases hm2 with h2 | h2 <;> omega
    refine ⟨h3, ?_⟩
    by_cases h1 : 1 ≤ n
    · have h2 := hq' h1
      rw [show 21 - n = (20 - n) + 1 by omega, partGo, if_pos h3, Nat.add_sub_cancel, if_neg (fun h4 => h (.inr (.inl ⟨by omega, h4⟩)))] at h2
      exact .inr (by rw [show 21 - (n + 1) = 20 - n by omega]; exact h2)
    · exact .inl (by omega)
theorem ends_true {s : List UInt8} (h : ends s = true) : bt (sha s) 0 < 64 := of_decide_eq_true h
end Go.Proofs.Ytidbaagdajkojaa.T07
