/- Pairs by rising key: they rise, and are some of those given. -/
import Derived.Test.YtoidbgedpakjmaaIns
import Derived.Test.YtoidbgedpakjmaaW08f
import Derived.Test.YtoidbgedpakjmaaW08v
set_option linter.unusedVariables false
set_option linter.unusedSimpArgs false
namespace Go.Proofs.Ytoidbgedpakjmaa.Ord
open Go.Proofs.Ytoidbgedpakjmaa.Lib Go.Proofs.Ytoidbgedpakjmaa.T08 Go.Proofs.Ytoidbgedpakjmaa.Itms Go.Proofs.Ytoidbgedpakjmaa.WSeq Go.Proofs.Ytoidbgedpakjmaa.W08
theorem lt_total : ∀ (x y : List UInt8), ltS x y = false → x ≠ y → ltS y x = true
  | [], [], _, h => absurd rfl h
  | [], _ :: _, h, _ => by simp [ltS, Op.bytesLess] at h
  | _ :: _, [], _, _ => rfl
  | a :: x, b :: y, h, hne => by
    have ih := lt_total x y
    unfold ltS at *
    rw [less_cons] at *
    simp only [Bool.or_eq_false_iff, decide_eq_false_iff_not, Bool.and_eq_false_iff, beq_eq_false_iff_ne] at h
    rw [Bool.or_eq_true, Bool.and_eq_true, decide_eq_true_eq, beq_iff_eq]
    by_cases hab : a = b
    · subst hab
      refine .inr ⟨rfl, ih ?_ (fun e => hne (by rw [e]))⟩
      rcases h.2 with h2 | h2
      · exact absurd rfl h2
      · exact h2
    · left
      rcases Nat.lt_trichotomy a.toNat b.toNat with h3 | h3 | h3
      · exact absurd (UInt8.lt_iff_toNat_lt.2 h3) h.1
      · exact absurd (UInt8.toNat_inj.1 h3) hab
      · exact UInt8.lt_iff_toNat_lt.2 h3
def Up (l : List Itm) : Prop := l.Pairwise fun a b => ltS a.1 b.1 = true
theorem last_mem (l : List Itm) (h : l ≠ []) : ∃ y ∈ l, lastS l = y.1 := by
  rcases List.eq_nil_or_concat l with rfl | ⟨q, y, rfl⟩
  · exact absurd rfl h
  · rw [List.concat_eq_append, lastS_snoc]
    exact ⟨y, by simp, rfl⟩
theorem okS_up : ∀ (k : Nat) (l : List Itm), l.length ≤ k → (okS l = true ↔ Up l) := by
  intro k
  induction k with
  | zero =>
    intro l h
    rw [List.eq_nil_of_length_eq_zero (Nat.le_zero.1 h)]
    exact ⟨fun _ => List.Pairwise.nil, fun _ => rfl⟩
  | succ k ih =>
    intro l h
    rcases List.eq_nil_or_concat l with rfl | ⟨q, y, rfl⟩
    · exact ⟨fun _ => List.Pairwise.nil, fun _ => rfl⟩
    · rw [List.concat_eq_append] at h ⊢
      have hq := ih q (by simp at h; omega)
      unfold Up at hq ⊢
      rw [okS_snoc, List.pairwise_append, Bool.and_eq_true, hq]
      constructor
      · rintro ⟨h1, h2⟩
        refine ⟨h1, List.pairwise_singleton _ _, fun a ha b hb => ?_⟩
        obtain rfl : b = y := by simpa using hb
        have hne : q ≠ [] := by intro e; subst e; cases ha
        have h3 : ltS (lastS q) b.1 = true := by
          rcases Bool.or_eq_true_iff.1 h2 with h2 | h2
          · exact absurd (List.isEmpty_iff.1 h2) hne
          · exact h2
        rcases List.eq_nil_or_concat q with rfl | ⟨r, z, rfl⟩
        · exact absurd rfl hne
        · rw [List.concat_eq_append] at ha h1 h3
          rw [lastS_snoc] at h3
          rcases List.mem_append.1 ha with ha | ha
          · exact lt_trans _ _ _ ((List.pairwise_append.1 h1).2.2 a ha z (by simp)) h3
          · obtain rfl : a = z := by simpa using ha
            exact h3
      · rintro ⟨h1, _, h2⟩
        refine ⟨h1, ?_⟩
        by_cases hne : q = []
        · subst hne; rfl
        · obtain ⟨z, hz, e⟩ := last_mem q hne
          rw [e, h2 z hz y (by simp)]
          simp
theorem okS_iff (l : List Itm) : okS l = true ↔ Up l := okS_up _ l (Nat.le_refl _)
theorem place_lt : ∀ (l : List Itm) (key : List UInt8), ∀ y ∈ l.take (placeS l key), ltS y.1 key = true
  | [], _, y, h => by simp at h
  | z :: l, key, y, h => by
    unfold placeS at h
    by_cases hz : ltS z.1 key = true
    · rw [if_pos hz, List.take_succ_cons] at h
      rcases List.mem_cons.1 h with rfl | h
      · exact hz
      · exact place_lt l key y h
    · rw [if_neg hz] at h; simp at h
theorem place_next : ∀ (l : List Itm) (key : List UInt8), placeS l key < l.length → ltS (itm l (placeS l key)).1 key = false
  | [], _, h => by simp at h
  | z :: l, key, h => by
    unfold placeS at h ⊢
    by_cases hz : ltS z.1 key = true
    · rw [if_pos hz] at h ⊢
      exact place_next l key (by simpa using h)
    · rw [if_neg hz]
      simpa [itm] using hz
theorem drop_itm (l : List Itm) (a : Nat) (h : a < l.length) : l.drop a = itm l a :: l.drop (a + 1) := by
  rw [itm_eq l a h]; exact List.drop_eq_getElem_cons h
theorem ins_up (m : List Itm) (x : Itm) (h : Up m) : Up (insS m x) := by
  unfold insS
  split
  · exact h
  · rename_i hc
    have h' : Up (m.take (placeS m x.1) ++ m.drop (placeS m x.1)) := by rw [List.take_append_drop]; exact h
    unfold Up at h' ⊢
    rw [List.pairwise_append] at h'
    obtain ⟨h1, h2, h3⟩ := h'
    have hd : ∀ z ∈ m.drop (placeS m x.1), ltS x.1 z.1 = true := by
      intro z hz
      rcases Nat.lt_or_ge (placeS m x.1) m.length with hlt | hge
      · have hne : (itm m (placeS m x.1)).1 ≠ x.1 := fun e => hc ⟨hlt, e⟩
        have hxa := lt_total _ _ (place_next m x.1 hlt) hne
        rw [drop_itm m _ hlt] at hz h2
        rcases List.mem_cons.1 hz with rfl | hz
        · exact hxa
        · exact lt_trans _ _ _ hxa ((List.pairwise_cons.1 h2).1 z hz)
      · rw [List.drop_of_length_le hge] at hz; cases hz
    rw [List.pairwise_append]
    refine ⟨h1, List.pairwise_cons.2 ⟨hd, h2⟩, fun a ha b hb => ?_⟩
    rcases List.mem_cons.1 hb with rfl | hb
    · exact place_lt m b.1 a ha
    · exact h3 a ha b hb
theorem ins_mem (m : List Itm) (x y : Itm) (h : y ∈ insS m x) : y ∈ m ∨ y = x := by
  unfold insS at h
  split at h
  · exact .inl h
  · rcases List.mem_append.1 h with h | h
    · exact .inl (List.mem_of_mem_take h)
    · rcases List.mem_cons.1 h with h | h
      · exact .inr h
      · exact .inl (List.mem_of_mem_drop h)
theorem rising_gen : ∀ (l m : List Itm), Up m → Up (l.foldl insS m) ∧ ∀ y ∈ l.foldl insS m, y ∈ m ∨ y ∈ l
  | [], m, h => ⟨h, fun y hy => .inl hy⟩
  | x :: l, m, h => by
    obtain ⟨h1, h2⟩ := rising_gen l (insS m x) (ins_up m x h)
    refine ⟨h1, fun y hy => ?_⟩
    rcases h2 y hy with h3 | h3
    · rcases ins_mem m x y h3 with h4 | h4
      · exact .inl h4
      · exact .inr (by rw [h4]; simp)
    · exact .inr (List.mem_cons_of_mem _ h3)
theorem rising_up (l : List Itm) : Up (risingS l) := (rising_gen l [] List.Pairwise.nil).1
theorem rising_mem (l : List Itm) (y : Itm) (h : y ∈ risingS l) : y ∈ l := by
  rcases (rising_gen l [] List.Pairwise.nil).2 y h with h | h
  · cases h
  · exact h
theorem few_mem {l : List Itm} (h : FewS l) (x : Itm) (hx : x ∈ l) : x.1.length ≤ 2000 ∧ x.2.length ≤ 8000 := by
  obtain ⟨i, hi, rfl⟩ := List.getElem_of_mem hx
  have := h.2 i hi
  rwa [itm_eq l i hi] at this
theorem rising_right (l : List Itm) (h : FewS l) : rightS (risingS l) = true := by
  have h1 := (okS_iff _).2 (rising_up l)
  have h2 : (risingS l).any badS = false := by
    rw [List.any_eq_false]
    intro x hx
    have := few_mem h x (rising_mem l x hx)
    simp [badS]; omega
  rw [rightS, h1, h2]; rfl
end Go.Proofs.Ytoidbgedpakjmaa.Ord
