/- seq.Sorted's law: by rising key, the last pair of each. -/
import Derived.Test.YtiemcfkekaklgaaStabN
import Derived.Test.YtiemcfkekaklgaaSortI
import Derived.Test.YtiemcfkekaklgaaSp02
set_option linter.unusedVariables false
set_option linter.unusedSimpArgs false
namespace Go.Proofs.Ytiemcfkekaklgaa.StabI
open Go.Proofs.Ytiemcfkekaklgaa.Lib Go.Proofs.Ytiemcfkekaklgaa.Prs Go.Proofs.Ytiemcfkekaklgaa.Stab Go.Proofs.Ytiemcfkekaklgaa.Lt Go.Proofs.Ytiemcfkekaklgaa.Sp
theorem revL_at (n : Nat) : ∀ (i j : Nat) (L : List Itm), j - i ≤ n → j < L.length → ∀ t, el d0 (revL L i j) t = if i ≤ t ∧ t ≤ j then el d0 L (i + j - t) else el d0 L t := by
  induction n with
  | zero =>
    intro i j L h hj t; rw [revL, if_neg (by omega)]
    split
    · congr 1; omega
    · rfl
  | succ n ih =>
    intro i j L h hj t
    rw [revL]
    by_cases hlt : i < j
    · rw [if_pos hlt, ih (i + 1) (j - 1) _ (by omega) (by rw [swp_len]; omega)]
      simp only [el_swp d0 L i j _ (by omega) hj]
      by_cases e1 : i + 1 ≤ t ∧ t ≤ j - 1
      · rw [if_pos e1, if_neg (by omega), if_neg (by omega), if_pos (by omega)]; congr 1; omega
      · rw [if_neg e1]
        by_cases e2 : t = j
        · rw [if_pos e2, if_pos (by omega)]; congr 1; omega
        · rw [if_neg e2]
          by_cases e3 : t = i
          · rw [if_pos e3, if_pos (by omega)]; congr 1; omega
          · rw [if_neg e3, if_neg (by omega)]
    · rw [if_neg hlt]
      split
      · congr 1; omega
      · rfl
/-- the places of those that slices.CompactFunc keeps, of the first q -/
def keptTo (e : Itm → Itm → Bool) (M : List Itm) (q : Nat) : List Nat := (List.range q).filter fun k => k == 0 || !e (itm M k) (itm M (k - 1))
theorem keptTo_yes (e : Itm → Itm → Bool) (M : List Itm) (q : Nat) (h : (q == 0 || !e (itm M q) (itm M (q - 1))) = true) : keptTo e M (q + 1) = keptTo e M q ++ [q] := by
  unfold keptTo; rw [List.range_succ, List.filter_append]; simp [h]
theorem keptTo_no (e : Itm → Itm → Bool) (M : List Itm) (q : Nat) (h : (q == 0 || !e (itm M q) (itm M (q - 1))) = false) : keptTo e M (q + 1) = keptTo e M q := by
  unfold keptTo; rw [List.range_succ, List.filter_append]; simp [h]
theorem cpA_spec (e : Itm → Itm → Bool) (L : List Itm) (n : Nat) : ∀ k, L.length - k = n → k ≤ L.length → k ≤ cpA e L k ∧ cpA e L k ≤ L.length ∧ (∀ p, k ≤ p → p < cpA e L k → e (itm L p) (itm L (p - 1)) = false) ∧ (cpA e L k < L.length → e (itm L (cpA e L k)) (itm L (cpA e L k - 1)) = true) := by
  induction n with
  | zero => intro k h h1; rw [cpA, if_neg (by omega)]; exact ⟨h1, Nat.le_refl _, fun p g1 g2 => by omega, fun g => by omega⟩
  | succ n ih =>
    intro k h h1
    rw [cpA, if_pos (by omega)]
    split
    · rename_i he; exact ⟨Nat.le_refl _, h1, fun p g1 g2 => by omega, fun _ => he⟩
    · rename_i he
      obtain ⟨r1, r2, r3, r4⟩ := ih (k + 1) (by omega) (by omega)
      refine ⟨by omega, r2, fun p g1 g2 => ?_, r4⟩
      by_cases q : p = k
      · subst q; simpa using he
      · exact r3 p (by omega) g2
theorem keptTo_all (e : Itm → Itm → Bool) (M : List Itm) : ∀ q, (∀ p, 1 ≤ p → p < q → e (itm M p) (itm M (p - 1)) = false) → q ≤ M.length → (keptTo e M q).map (itm M) = M.take q := by
  intro q
  induction q with
  | zero => intro _ _; rfl
  | succ q ih =>
    intro h hq
    rw [keptTo_yes e M q (by
      by_cases h0 : q = 0
      · subst h0; rfl
      · rw [h q (by omega) (by omega)]; simp), List.map_append, ih (fun p g1 g2 => h p g1 (by omega)) (by omega), take_itm M q (by omega)]
    rfl
theorem cpB_spec (e : Itm → Itm → Bool) (M : List Itm) (k0 n : Nat) (h0 : 1 ≤ k0) : ∀ (j k : Nat) (M' : List Itm), M.length - (k0 + j) = n → M'.length = M.length → 1 ≤ j → k0 + j ≤ M.length → k + 1 ≤ k0 + j → M'.take k = (keptTo e M (k0 + j)).map (itm M) → (∀ p, k0 + j ≤ p + 1 → itm M' p = itm M p) →
    cpB e M' k0 k j = (keptTo e M M.length).map (itm M) := by
  induction n with
  | zero =>
    intro j k M' h hl hj hk hkj ht hp
    rw [cpB, if_neg (by omega), ht, show k0 + j = M.length by omega]
  | succ n ih =>
    intro j k M' h hl hj hk hkj ht hp
    rw [cpB, if_pos (by omega), hp _ (by omega), hp _ (by omega)]
    by_cases he : e (itm M (k0 + j)) (itm M (k0 + j - 1)) = true
    · rw [if_pos he]
      refine ih (j + 1) k M' (by omega) hl (by omega) (by omega) (by omega) ?_ (fun p g => hp p (by omega))
      rw [ht, show k0 + (j + 1) = k0 + j + 1 by omega, keptTo_no e M (k0 + j) (by rw [he]; simp; omega)]
    · rw [if_neg he]
      refine ih (j + 1) (k + 1) _ (by omega) (by rw [List.length_set, hl]) (by omega) (by omega) (by omega) ?_ (fun p g => ?_)
      · rw [show k0 + (j + 1) = k0 + j + 1 by omega, keptTo_yes e M (k0 + j) (by simp only [Bool.not_eq_true] at he; rw [he]; simp), List.map_append, ← ht, take_itm _ k (by rw [List.length_set]; omega), List.take_set_of_le (by omega)]
        congr 1
        rw [itm_eq _ k (by rw [List.length_set]; omega), List.getElem_set_self]
        rfl
      · rw [← hp p (by omega)]
        unfold itm
        simp only [List.getD_eq_getElem?_getD]
        rw [List.getElem?_set_ne (by omega)]
theorem compact_spec (e : Itm → Itm → Bool) (M : List Itm) : compactL e M = (keptTo e M M.length).map (itm M) := by
  unfold compactL
  by_cases h2 : M.length < 2
  · rw [if_pos h2, keptTo_all e M M.length (fun p g1 g2 => by omega) (Nat.le_refl _), List.take_length]
  · rw [if_neg h2]
    obtain ⟨r1, r2, r3, r4⟩ := cpA_spec e M _ 1 rfl (by omega)
    by_cases h : cpA e M 1 < M.length
    · rw [if_pos h]
      refine cpB_spec e M _ _ r1 1 _ M rfl rfl (Nat.le_refl _) (by omega) (Nat.le_refl _) ?_ (fun _ _ => rfl)
      rw [keptTo_no e M _ (by rw [r4 h]; simp; omega), keptTo_all e M _ r3 r2]
    · rw [if_neg h, keptTo_all e M M.length (fun p g1 g2 => r3 p g1 (by omega)) (Nat.le_refl _), List.take_length]
/-- seq.Sorted: by rising key, the last one of each. -/
theorem sorted_spec (lt e : Itm → Itm → Bool) (hlt : ∀ x y, lt x y = ltS x.1 y.1) (he : ∀ x y, e x y = (x.1 == y.1)) (l : List Itm) : SortOf l (sortedP lt e l) := by
  unfold sortedP
  obtain ⟨n, hn⟩ : ∃ n, n = l.length := ⟨_, rfl⟩
  obtain ⟨Lr, hLr⟩ : ∃ Lr, Lr = revL l 0 (l.length - 1) := ⟨_, rfl⟩
  have hlr : Lr.length = n := by rw [hLr, revL_len _ _ _ _ (Nat.le_refl _), hn]
  have hat : ∀ t, t < n → itm Lr t = itm l (n - 1 - t) := fun t ht => by
    rw [hLr, ← el_itm, revL_at _ _ _ l (Nat.le_refl _) (by omega) t, if_pos (by omega), el_itm, hn]; congr 1; omega
  rw [← hLr]
  obtain ⟨K, hK⟩ : ∃ K : Nat → List UInt8, K = fun i => (itm Lr i).1 := ⟨_, rfl⟩
  obtain ⟨S, hS, hSp, hSw⟩ := stable_idx (P := fun i j => ltS (K i) (K j) = true ∨ (K i = K j ∧ i < j)) (c := lt) (d := d0) Lr ⟨by
      rintro x y z (h | ⟨h, h'⟩) (k | ⟨k, k'⟩)
      · exact .inl (lt_trans _ _ _ h k)
      · exact .inl (k ▸ h)
      · exact .inl (h ▸ k)
      · exact .inr ⟨h.trans k, by omega⟩, fun x y h k => by
      rw [el_itm, el_itm, hlt] at k; rw [hK]; exact .inl k, fun x y h k => by
      rw [el_itm, el_itm, hlt] at k
      rw [hK]
      dsimp only
      cases h2 : ltS (itm Lr x).1 (itm Lr y).1 with
      | true => exact .inl rfl
      | false => exact .inr ⟨lt_total _ _ h2 k, h⟩⟩
  rw [hS, compact_spec]
  obtain ⟨M, hM⟩ : ∃ M, M = S.map (el d0 Lr) := ⟨_, rfl⟩
  rw [← hM]
  have hSl : S.length = n := by rw [hSp.length_eq, List.length_range, hlr]
  have hMl : M.length = n := by rw [hM, List.length_map, hSl]
  rw [hMl]
  have hlen : ∀ p (h : p < n), S[p]'(by omega) < n := fun p h => by
    have := hSp.mem_iff.1 (List.getElem_mem (l := S) (n := p) (by omega))
    rw [List.mem_range] at this; omega
  have hMat : ∀ p (h : p < n), itm M p = itm Lr (S[p]'(by omega)) := fun p h => by
    rw [itm_eq M p (by omega)]
    simp only [hM, List.getElem_map]
    exact el_itm Lr _
  have hMk : ∀ p (h : p < n), (itm M p).1 = K (S[p]'(by omega)) := fun p h => by rw [hMat p h, hK]
  rw [List.pairwise_iff_getElem] at hSw
  have hw : ∀ p q (hp : p < q) (hq : q < n), ltS (itm M p).1 (itm M q).1 = true ∨ ((itm M p).1 = (itm M q).1 ∧ S[p]'(by omega) < S[q]'(by omega)) := fun p q hp hq => by
    rw [hMk p (by omega), hMk q hq]; exact hSw p q (by omega) (by omega) hp
  have hst : ∀ k, k < n → 1 ≤ k → e (itm M k) (itm M (k - 1)) = false → ∀ p, p < k → ltS (itm M p).1 (itm M k).1 = true := fun k hk h1 hek p hp => by
    rw [he] at hek
    have hne : ¬ (itm M k).1 = (itm M (k - 1)).1 := by simpa using hek
    have h2 : ltS (itm M (k - 1)).1 (itm M k).1 = true := by
      rcases hw (k - 1) k (by omega) hk with h | h
      · exact h
      · exact absurd h.1.symm hne
    by_cases hq : p = k - 1
    · subst hq; exact h2
    · rcases hw p (k - 1) (by omega) (by omega) with h | h
      · exact lt_trans _ _ _ h h2
      · rw [h.1]; exact h2
  have hkm : ∀ k, k ∈ keptTo e M n ↔ k < n ∧ (k = 0 ∨ e (itm M k) (itm M (k - 1)) = false) := fun k => by
    unfold keptTo; rw [List.mem_filter, List.mem_range]; simp
  refine ⟨?_, ?_, ?_⟩
  · unfold Ris
    rw [List.pairwise_map]
    have hlt : (keptTo e M n).Pairwise (· < ·) := List.Pairwise.filter _ List.pairwise_lt_range
    refine hlt.imp_of_mem fun {a b} ha hb hab => ?_
    obtain ⟨h1, h2⟩ := (hkm b).1 hb
    exact hst b h1 (by omega) (h2.resolve_left (by omega)) a hab
  · intro x hx
    obtain ⟨k, hk, rfl⟩ := List.mem_map.1 hx
    obtain ⟨h1, h2⟩ := (hkm k).1 hk
    have hsk := hlen k h1
    refine ⟨n - 1 - S[k]'(by omega), by omega, by rw [hMat k h1, hat _ hsk], fun j g1 g2 hj => ?_⟩
    have hmem : n - 1 - j ∈ S := hSp.mem_iff.2 (List.mem_range.2 (by omega))
    obtain ⟨q, hq, hqe⟩ := List.getElem_of_mem hmem
    have hkey : (itm M q).1 = (itm M k).1 := by
      rw [hMat q (by omega), hMat k h1, hqe, hat _ hsk, hat _ (by omega), show n - 1 - (n - 1 - j) = j by omega]; exact hj
    rcases Nat.lt_trichotomy q k with h | h | h
    · have := hst k h1 (by omega) (h2.resolve_left (by omega)) q h
      rw [hkey, lt_irrefl] at this; cases this
    · subst h; omega
    · rcases hw k q h (by omega) with h3 | h3
      · rw [hkey, lt_irrefl] at h3; cases h3
      · have := h3.2; omega
  · intro i hi
    have hmem : n - 1 - i ∈ S := hSp.mem_iff.2 (List.mem_range.2 (by omega))
    obtain ⟨q, hq, hqe⟩ := List.getElem_of_mem hmem
    have hall : ∀ q, q < n → ∃ k, k ∈ keptTo e M n ∧ (itm M k).1 = (itm M q).1 := by
      intro q
      induction q with
      | zero => intro h; exact ⟨0, (hkm 0).2 ⟨h, .inl rfl⟩, rfl⟩
      | succ q ih =>
        intro h
        cases hek : e (itm M (q + 1)) (itm M (q + 1 - 1)) with
        | false => exact ⟨q + 1, (hkm _).2 ⟨h, .inr hek⟩, rfl⟩
        | true =>
          obtain ⟨k, k1, k2⟩ := ih (by omega)
          rw [he] at hek
          exact ⟨k, k1, by rw [k2]; exact (by simpa using hek : (itm M (q + 1)).1 = (itm M q).1).symm⟩
    obtain ⟨k, k1, k2⟩ := hall q (by omega)
    refine ⟨itm M k, List.mem_map.2 ⟨k, k1, rfl⟩, ?_⟩
    rw [k2, hMat q (by omega), hqe, hat _ (by omega), show n - 1 - (n - 1 - i) = i by omega]
end Go.Proofs.Ytiemcfkekaklgaa.StabI
