/- The stable sort's law, I: what swaps, ranges and rotations do to each element. -/
import Derived.Test.YtiemcfkekaklgaaStab
set_option linter.unusedVariables false
set_option linter.unusedSimpArgs false
namespace Go.Proofs.Ytiemcfkekaklgaa.Stab
variable {α : Type} (d : α) (c : α → α → Bool)
theorem el_get (L : List α) (i : Nat) (h : i < L.length) : el d L i = L[i] := by simp [el, List.getD_eq_getElem?_getD, List.getElem?_eq_getElem h]
theorem el_swp (L : List α) (i j k : Nat) (hi : i < L.length) (hj : j < L.length) : el d (swp d L i j) k = if k = j then el d L i else if k = i then el d L j else el d L k := by
  by_cases h1 : k = j
  · subst h1
    rw [if_pos rfl, el_get _ _ _ (by rw [swp_len]; exact hj)]
    unfold swp
    rw [List.getElem_set_self]
  · rw [if_neg h1]
    by_cases h2 : k = i
    · subst h2
      rw [if_pos rfl, el_get _ _ _ (by rw [swp_len]; exact hi)]
      unfold swp
      rw [List.getElem_set_ne (fun e => h1 e.symm), List.getElem_set_self]
    · rw [if_neg h2]
      unfold swp el
      simp only [List.getD_eq_getElem?_getD]
      rw [List.getElem?_set_ne (fun e => h1 e.symm), List.getElem?_set_ne (fun e => h2 e.symm)]
theorem el_swr (a b n m : Nat) : ∀ (k : Nat) (L : List α), n - k = m → a + n ≤ b → b + n ≤ L.length → k ≤ n → ∀ t, el d (swr d L a b n k) t = if a + k ≤ t ∧ t < a + n then el d L (t - a + b) else if b + k ≤ t ∧ t < b + n then el d L (t - b + a) else el d L t := by
  induction m with
  | zero => intro k L h h1 h2 h3 t; rw [swr, if_neg (by omega), if_neg (by omega), if_neg (by omega)]
  | succ m ih =>
    intro k L h h1 h2 h3 t
    rw [swr, if_pos (by omega), ih (k + 1) _ (by omega) h1 (by rw [swp_len]; exact h2) (by omega)]
    simp only [el_swp d L (a + k) (b + k) _ (by omega) (by omega)]
    by_cases e1 : a + (k + 1) ≤ t ∧ t < a + n
    · rw [if_pos e1, if_neg (by omega), if_neg (by omega), if_pos (by omega)]
    · rw [if_neg e1]
      by_cases e2 : b + (k + 1) ≤ t ∧ t < b + n
      · rw [if_pos e2, if_neg (by omega), if_neg (by omega), if_neg (by omega), if_pos (by omega)]
      · rw [if_neg e2]
        by_cases e3 : t = b + k
        · subst e3; rw [if_pos rfl, if_neg (by omega), if_pos (by omega)]; congr 1; omega
        · rw [if_neg e3]
          by_cases e4 : t = a + k
          · subst e4; rw [if_pos rfl, if_pos (by omega)]; congr 1; omega
          · rw [if_neg e4, if_neg (by omega), if_neg (by omega)]
theorem el_rotL (m n : Nat) : ∀ (i j : Nat) (L : List α), i + j ≤ n → 0 < i → 0 < j → i ≤ m → m + j ≤ L.length → ∀ t, el d (rotL d L m i j) t = if m - i ≤ t ∧ t < m - i + j then el d L (t + i) else if m - i + j ≤ t ∧ t < m + j then el d L (t - j) else el d L t := by
  induction n with
  | zero => intro i j L h hi; omega
  | succ n ih =>
    intro i j L h hi hj him hl t
    rw [rotL]
    by_cases h0 : i = j ∨ i = 0 ∨ j = 0
    · obtain rfl : i = j := by omega
      rw [if_pos h0, el_swr d _ _ _ _ 0 L rfl (by omega) (by omega) (by omega)]
      by_cases e1 : m - i ≤ t ∧ t < m - i + i
      · rw [if_pos (by omega), if_pos e1]; congr 1; omega
      · rw [if_neg (by omega), if_neg e1]
        by_cases e2 : m - i + i ≤ t ∧ t < m + i
        · rw [if_pos (by omega), if_pos e2]; congr 1; omega
        · rw [if_neg (by omega), if_neg e2]
    · rw [if_neg h0]
      by_cases h1 : j < i
      · rw [if_pos h1, ih (i - j) j _ (by omega) (by omega) hj (by omega) (by rw [swr_len d _ _ _ _ _ _ rfl]; exact hl)]
        simp only [el_swr d _ _ _ _ 0 L rfl (show m - i + j ≤ m by omega) (by omega) (by omega)]
        by_cases e1 : m - i ≤ t ∧ t < m - i + j
        · rw [if_pos e1, if_neg (by omega), if_neg (by omega), if_pos (by omega)]; congr 1; omega
        · rw [if_neg e1]
          by_cases e2 : m - i + j ≤ t ∧ t < m + j
          · rw [if_pos e2]
            by_cases e3 : m - (i - j) ≤ t ∧ t < m - (i - j) + j
            · rw [if_pos e3]
              by_cases e4 : m + 0 ≤ t + (i - j) ∧ t + (i - j) < m + j
              · rw [if_neg (by omega), if_pos e4]; congr 1; omega
              · omega
            · rw [if_neg e3, if_pos (by omega), if_neg (by omega), if_neg (by omega)]
          · rw [if_neg e2, if_neg (by omega), if_neg (by omega), if_neg (by omega), if_neg (by omega)]
      · rw [if_neg h1, ih i (j - i) _ (by omega) hi (by omega) him (by rw [swr_len d _ _ _ _ _ _ rfl]; omega)]
        simp only [el_swr d _ _ _ _ 0 L rfl (show m - i + i ≤ m + j - i by omega) (by omega) (by omega)]
        by_cases e1 : m - i ≤ t ∧ t < m - i + j
        · rw [if_pos e1]
          by_cases e3 : m - i ≤ t ∧ t < m - i + (j - i)
          · rw [if_pos e3, if_neg (by omega), if_neg (by omega)]
          · rw [if_neg e3, if_pos (by omega), if_pos (by omega)]; congr 1; omega
        · rw [if_neg e1]
          by_cases e2 : m - i + j ≤ t ∧ t < m + j
          · rw [if_pos e2, if_neg (by omega)]
            by_cases e3 : m - i + (j - i) ≤ t ∧ t < m + (j - i)
            · omega
            · rw [if_neg e3, if_neg (by omega), if_pos (by omega)]; congr 1; omega
          · rw [if_neg e2, if_neg (by omega), if_neg (by omega), if_neg (by omega), if_neg (by omega)]
theorem el_rot (L : List α) (a m b t : Nat) (h1 : a < m) (h2 : m < b) (h3 : b ≤ L.length) : el d (rot d L a m b) t = if a ≤ t ∧ t < a + (b - m) then el d L (t + (m - a)) else if a + (b - m) ≤ t ∧ t < b then el d L (t - (b - m)) else el d L t := by
  unfold rot
  rw [el_rotL d m _ (m - a) (b - m) L (Nat.le_refl _) (by omega) (by omega) (by omega) (by omega) t]
  rw [show m - (m - a) = a by omega, show m + (b - m) = b by omega]
theorem el_mvR (e m : Nat) : ∀ (k : Nat) (L : List α), e - k = m → k ≤ e → e < L.length → ∀ t, el d (mvR d L k e) t = if k ≤ t ∧ t < e then el d L (t + 1) else if t = e then el d L k else el d L t := by
  induction m with
  | zero =>
    intro k L h h1 h2 t; rw [mvR, if_neg (by omega), if_neg (by omega)]
    split
    · congr 1; omega
    · rfl
  | succ m ih =>
    intro k L h h1 h2 t
    rw [mvR, if_pos (by omega), ih (k + 1) _ (by omega) (by omega) (by rw [swp_len]; exact h2)]
    simp only [el_swp d L k (k + 1) _ (by omega) (by omega)]
    by_cases e1 : k + 1 ≤ t ∧ t < e
    · rw [if_pos e1, if_neg (by omega), if_neg (by omega), if_pos (by omega)]
    · rw [if_neg e1]
      by_cases e2 : t = e
      · simp only [if_true]; rw [if_pos e2, if_neg (by omega), if_pos e2]
      · rw [if_neg e2, if_neg (by omega)]
        by_cases e3 : t = k
        · rw [if_pos e3, if_pos (by omega), e3]
        · rw [if_neg e3, if_neg (by omega), if_neg e2]
theorem el_mvL (i : Nat) : ∀ (k : Nat) (L : List α), i ≤ k → k < L.length → ∀ t, el d (mvL d L k i) t = if i < t ∧ t ≤ k then el d L (t - 1) else if t = i then el d L k else el d L t := by
  intro k
  induction k with
  | zero =>
    intro L h1 h2 t; rw [mvL, if_neg (by omega), if_neg (by omega)]
    split
    · congr 1; omega
    · rfl
  | succ k ih =>
    intro L h1 h2 t
    rw [mvL]
    by_cases h : i < k + 1
    · rw [if_pos h, show k + 1 - 1 = k from rfl, ih _ (by omega) (by rw [swp_len]; omega)]
      simp only [el_swp d L (k + 1) k _ (by omega) (by omega)]
      by_cases e1 : i < t ∧ t ≤ k
      · rw [if_pos e1, if_neg (by omega), if_neg (by omega), if_pos (by omega)]
      · rw [if_neg e1]
        by_cases e2 : t = i
        · simp only [if_true]; rw [if_pos e2, if_neg (by omega), if_pos e2]
        · rw [if_neg e2]
          by_cases e3 : t = k + 1
          · rw [if_neg (by omega), if_pos e3, if_pos (by omega)]; congr 1; omega
          · rw [if_neg (by omega), if_neg e3, if_neg (by omega), if_neg e2]
    · rw [if_neg h, if_neg (by omega)]
      split
      · congr 1; omega
      · rfl
theorem swp_perm (L : List α) (i j : Nat) (hi : i < L.length) (hj : j < L.length) : (swp d L i j).Perm L := by
  have := Array.swap_perm (xs := L.toArray) (i := i) (j := j) (by simpa using hi) (by simpa using hj)
  have h2 := Array.perm_iff_toList_perm.1 this
  unfold swp
  rw [el_get d L i hi, el_get d L j hj]
  simpa [Array.swap] using h2
theorem swr_perm (a b n m : Nat) : ∀ (k : Nat) (L : List α), n - k = m → a + n ≤ b → b + n ≤ L.length → (swr d L a b n k).Perm L := by
  induction m with
  | zero => intro k L h h1 h2; rw [swr, if_neg (by omega)]
  | succ m ih =>
    intro k L h h1 h2
    rw [swr, if_pos (by omega)]
    exact (ih (k + 1) _ (by omega) h1 (by rw [swp_len]; exact h2)).trans (swp_perm d L _ _ (by omega) (by omega))
theorem rotL_perm (m n : Nat) : ∀ (i j : Nat) (L : List α), i + j ≤ n → 0 < i → 0 < j → i ≤ m → m + j ≤ L.length → (rotL d L m i j).Perm L := by
  induction n with
  | zero => intro i j L h hi; omega
  | succ n ih =>
    intro i j L h hi hj him hl
    rw [rotL]
    split
    · exact swr_perm d _ _ _ _ 0 L rfl (by omega) (by omega)
    · split
      · exact (ih (i - j) j _ (by omega) (by omega) hj (by omega) (by rw [swr_len d _ _ _ _ _ _ rfl]; exact hl)).trans (swr_perm d _ _ _ _ 0 L rfl (by omega) (by omega))
      · exact (ih i (j - i) _ (by omega) hi (by omega) him (by rw [swr_len d _ _ _ _ _ _ rfl]; omega)).trans (swr_perm d _ _ _ _ 0 L rfl (by omega) (by omega))
theorem mvR_perm (e m : Nat) : ∀ (k : Nat) (L : List α), e - k = m → e < L.length → (mvR d L k e).Perm L := by
  induction m with
  | zero => intro k L h h2; rw [mvR, if_neg (by omega)]
  | succ m ih =>
    intro k L h h2
    rw [mvR, if_pos (by omega)]
    exact (ih (k + 1) _ (by omega) (by rw [swp_len]; exact h2)).trans (swp_perm d L _ _ (by omega) (by omega))
theorem mvL_perm (i : Nat) : ∀ (k : Nat) (L : List α), k < L.length → (mvL d L k i).Perm L := by
  intro k
  induction k with
  | zero => intro L h2; rw [mvL, if_neg (by omega)]
  | succ k ih =>
    intro L h2
    rw [mvL]
    split
    · exact (ih _ (by rw [swp_len]; omega)).trans (swp_perm d L _ _ (by omega) (by omega))
    · exact List.Perm.refl _
theorem bsearch_le (p : Nat → Bool) (n : Nat) : ∀ i j, j - i ≤ n → i ≤ j → i ≤ bsearch p i j ∧ bsearch p i j ≤ j := by
  induction n with
  | zero => intro i j h h1; rw [bsearch, if_neg (by omega)]; omega
  | succ n ih =>
    intro i j h h1
    rw [bsearch]
    split
    · split
      · have := ih ((i + j) / 2 + 1) j (by omega) (by omega); omega
      · have := ih i ((i + j) / 2) (by omega) (by omega); omega
    · omega
theorem bsearch_at (p : Nat → Bool) (lo hi n : Nat) : ∀ i j, j - i ≤ n → i ≤ j → (lo < i → p (i - 1) = true) → (j < hi → p j = false) → lo ≤ i → j ≤ hi → (lo < bsearch p i j → p (bsearch p i j - 1) = true) ∧ (bsearch p i j < hi → p (bsearch p i j) = false) := by
  induction n with
  | zero =>
    intro i j h h1 h2 h3 h4 h5; rw [bsearch, if_neg (by omega)]
    obtain rfl : i = j := by omega
    exact ⟨h2, h3⟩
  | succ n ih =>
    intro i j h h1 h2 h3 h4 h5
    rw [bsearch]
    split
    · split
      · rename_i hp
        exact ih ((i + j) / 2 + 1) j (by omega) (by omega) (fun _ => hp) h3 (by omega) h5
      · rename_i hp
        exact ih i ((i + j) / 2) (by omega) (by omega) h2 (fun _ => by simpa using hp) h4 (by omega)
    · obtain rfl : i = j := by omega
      exact ⟨h2, h3⟩
theorem bsearch_spec (p : Nat → Bool) (i j : Nat) (h : i ≤ j) : i ≤ bsearch p i j ∧ bsearch p i j ≤ j ∧ (i < bsearch p i j → p (bsearch p i j - 1) = true) ∧ (bsearch p i j < j → p (bsearch p i j) = false) := by
  have h1 := bsearch_le p _ i j (Nat.le_refl _) h
  have h2 := bsearch_at p i j _ i j (Nat.le_refl _) h (fun h => absurd h (by omega)) (fun h => absurd h (by omega)) (Nat.le_refl _) (Nat.le_refl _)
  exact ⟨h1.1, h1.2, h2.1, h2.2⟩
end Go.Proofs.Ytiemcfkekaklgaa.Stab
