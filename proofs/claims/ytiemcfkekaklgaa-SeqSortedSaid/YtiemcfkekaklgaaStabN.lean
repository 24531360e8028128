/- The stable sort's law, III: the whole, and that it commutes with what is made of the elements. -/
import Derived.Test.YtiemcfkekaklgaaStabM
set_option linter.unusedVariables false
set_option linter.unusedSimpArgs false
namespace Go.Proofs.Ytiemcfkekaklgaa.Stab
variable {α β : Type} {d : α} {c : α → α → Bool} {P H : α → α → Prop}
def Cut (d : α) (H : α → α → Prop) (L : List α) (n x : Nat) : Prop := ∀ s t, s < x → x ≤ t → t < n → H (el d L s) (el d L t)
theorem Cut.same {L M : List α} {n x a b : Nat} (h : Cut d H L n x) (hs : Sg d L M a b) (hx : x ≤ a ∨ b ≤ x) (hb : b ≤ n) : Cut d H M n x := fun s t h1 h2 h3 => by
  have gs : ∃ s', s' < x ∧ el d M s = el d L s' := by
    by_cases hi : a ≤ s ∧ s < b
    · obtain ⟨j, j1, j2, e⟩ := hs.inn s hi.1 hi.2
      exact ⟨j, by omega, e⟩
    · exact ⟨s, h1, hs.out s (by omega)⟩
  have gt : ∃ t', x ≤ t' ∧ t' < n ∧ el d M t = el d L t' := by
    by_cases hi : a ≤ t ∧ t < b
    · obtain ⟨j, j1, j2, e⟩ := hs.inn t hi.1 hi.2
      exact ⟨j, by omega, by omega, e⟩
    · exact ⟨t, h2, h3, hs.out t (by omega)⟩
  obtain ⟨s', q1, e1⟩ := gs
  obtain ⟨t', q2, q3, e2⟩ := gt
  rw [e1, e2]; exact h s' t' q1 q2 q3
theorem blocks_srt (hc : Cmp c P H) (n m : Nat) : ∀ (a : Nat) (L : List α), n + 40 - a ≤ m → L.length = n → a ≤ n → (∀ s t, s < t → a ≤ t → t < n → H (el d L s) (el d L t)) →
    Sg d L (blocks d c L n a (a + 20)) a n ∧ (∀ j, Srt d P (blocks d c L n a (a + 20)) (a + j * 20) (min (a + j * 20 + 20) n)) ∧ ∀ j, Cut d H (blocks d c L n a (a + 20)) n (a + j * 20) := by
  induction m with
  | zero => intro a L h; omega
  | succ m ih =>
    intro a L h hn ha hh
    have h0 : Cut d H L n a := fun s t h1 h2 h3 => hh s t (by omega) h2 h3
    rw [blocks]
    by_cases hb : a + 20 ≤ n
    · rw [if_pos hb]
      obtain ⟨r1, r2⟩ := insort_srt (d := d) hc L a (a + 20) (by omega) (fun s t g1 g2 g3 => hh s t g2 (by omega) (by omega))
      obtain ⟨q1, q2, q3⟩ := ih (a + 20) (insort d c L a (a + 20)) (by omega) (by rw [r1.len, hn]) hb (fun s t g1 g2 g3 => by
        rw [r1.out t (by omega)]
        by_cases e : a ≤ s ∧ s < a + 20
        · obtain ⟨j, j1, j2, e⟩ := r1.inn s e.1 e.2
          rw [e]; exact hh j t (by omega) (by omega) g3
        · rw [r1.out s (by omega)]; exact hh s t g1 (by omega) g3)
      have hs : Sg d L (blocks d c (insort d c L a (a + 20)) n (a + 20) (a + 20 + 20)) a n := (r1.mono (Nat.le_refl _) hb).trans (q1.mono (by omega) (Nat.le_refl _))
      refine ⟨hs, fun j => ?_, fun j => ?_⟩
      · rcases j with _ | j
        · exact (r2.same q1 (.inl (Nat.le_refl _))).sub (by omega) (by omega)
        · rw [show a + (j + 1) * 20 = a + 20 + j * 20 by omega]; exact q2 j
      · rcases j with _ | j
        · rw [show a + 0 * 20 = a by omega]; exact h0.same hs (.inl (Nat.le_refl _)) (Nat.le_refl _)
        · rw [show a + (j + 1) * 20 = a + 20 + j * 20 by omega]; exact q3 j
    · rw [if_neg hb]
      obtain ⟨r1, r2⟩ := insort_srt (d := d) hc L a n (by omega) (fun s t g1 g2 g3 => hh s t g2 (by omega) (by omega))
      refine ⟨r1, fun j => ?_, fun j => ?_⟩
      · exact r2.sub (by omega) (by omega)
      · rcases j with _ | j
        · rw [show a + 0 * 20 = a by omega]; exact h0.same r1 (.inl (Nat.le_refl _)) (Nat.le_refl _)
        · intro s t g1 g2 g3; omega
theorem pass_srt (hc : Cmp c P H) (n k : Nat) (hk : 0 < k) (m : Nat) : ∀ (a : Nat) (L : List α), n + 2 * k + 1 - a ≤ m → L.length = n → a ≤ n → (∀ j, Srt d P L (a + j * k) (min (a + j * k + k) n)) → (∀ j, Cut d H L n (a + j * k)) →
    Sg d L (pass d c L n k a (a + 2 * k)) a n ∧ (∀ j, Srt d P (pass d c L n k a (a + 2 * k)) (a + j * (2 * k)) (min (a + j * (2 * k) + 2 * k) n)) ∧ ∀ j, Cut d H (pass d c L n k a (a + 2 * k)) n (a + j * (2 * k)) := by
  induction m with
  | zero => intro a L h h1 h2; omega
  | succ m ih =>
    intro a L h hn ha s1 s2
    have s10 := s1 0
    have s11 := s1 1
    have h0 := s2 0
    have h1 := s2 1
    rw [show a + 0 * k = a by omega] at s10 h0
    rw [show a + 1 * k = a + k by omega] at s11 h1
    rw [pass]
    by_cases hb : a + 2 * k ≤ n
    · rw [if_pos ⟨hk, hb⟩]
      obtain ⟨r1, r2⟩ := sym_srt (d := d) hc _ a (a + k) (a + 2 * k) L (Nat.le_refl _) (by omega) (by omega) (by omega) (s10.sub (Nat.le_refl _) (by omega)) (s11.sub (Nat.le_refl _) (by omega)) (fun i j g1 g2 g3 g4 => h1 i j g2 g3 (by omega))
      obtain ⟨q1, q2, q3⟩ := ih (a + 2 * k) (sym d c L a (a + k) (a + 2 * k)) (by omega) (by rw [r1.len, hn]) hb (fun j => by
          have hs := s1 (j + 2)
          have e : (j + 2) * k = j * k + 2 * k := by rw [Nat.add_mul]
          rw [e, show a + (j * k + 2 * k) = a + 2 * k + j * k by omega] at hs
          exact hs.same r1 (.inr (by omega)))
        (fun j => by
          have hs := s2 (j + 2)
          have e : (j + 2) * k = j * k + 2 * k := by rw [Nat.add_mul]
          rw [e, show a + (j * k + 2 * k) = a + 2 * k + j * k by omega] at hs
          exact hs.same r1 (.inr (by omega)) hb)
      have hs : Sg d L (pass d c (sym d c L a (a + k) (a + 2 * k)) n k (a + 2 * k) (a + 2 * k + 2 * k)) a n := (r1.mono (Nat.le_refl _) hb).trans (q1.mono (by omega) (Nat.le_refl _))
      refine ⟨hs, fun j => ?_, fun j => ?_⟩
      · rcases j with _ | j
        · rw [show a + 0 * (2 * k) = a by omega]
          exact (r2.same q1 (.inl (Nat.le_refl _))).sub (by omega) (by omega)
        · rw [show a + (j + 1) * (2 * k) = a + 2 * k + j * (2 * k) by rw [Nat.add_mul]; omega]; exact q2 j
      · rcases j with _ | j
        · rw [show a + 0 * (2 * k) = a by omega]; exact h0.same hs (.inl (Nat.le_refl _)) (Nat.le_refl _)
        · rw [show a + (j + 1) * (2 * k) = a + 2 * k + j * (2 * k) by rw [Nat.add_mul]; omega]; exact q3 j
    · rw [if_neg (fun h => hb h.2)]
      have key : Sg d L (if a + k < n then sym d c L a (a + k) n else L) a n ∧ Srt d P (if a + k < n then sym d c L a (a + k) n else L) a n := by
        by_cases hkn : a + k < n
        · rw [if_pos hkn]
          exact sym_srt (d := d) hc _ a (a + k) n L (Nat.le_refl _) (by omega) hkn (by omega) (s10.sub (Nat.le_refl _) (by omega)) (s11.sub (Nat.le_refl _) (by omega)) (fun i j g1 g2 g3 g4 => h1 i j g2 g3 (by omega))
        · rw [if_neg hkn]
          exact ⟨Sg.refl d L _ _, s10.sub (Nat.le_refl _) (by omega)⟩
      refine ⟨key.1, fun j => key.2.sub (by omega) (by omega), fun j => ?_⟩
      rcases j with _ | j
      · rw [show a + 0 * (2 * k) = a by omega]; exact h0.same key.1 (.inl (Nat.le_refl _)) (Nat.le_refl _)
      · intro s t g1 g2 g3; rw [Nat.add_mul] at g1 g2; omega
theorem merges_srt (hc : Cmp c P H) (n m : Nat) : ∀ (k : Nat) (L : List α), n - k ≤ m → 0 < k → L.length = n → (∀ j, Srt d P L (0 + j * k) (min (0 + j * k + k) n)) → (∀ j, Cut d H L n (0 + j * k)) → Sg d L (merges d c L n k) 0 n ∧ Srt d P (merges d c L n k) 0 n := by
  induction m with
  | zero =>
    intro k L h h0 hn s1 s2; rw [merges, if_neg (by omega)]
    have := s1 0
    exact ⟨Sg.refl d L _ _, this.sub (by omega) (by omega)⟩
  | succ m ih =>
    intro k L h h0 hn s1 s2
    rw [merges]
    by_cases hk : k < n
    · rw [if_pos ⟨h0, hk⟩]
      obtain ⟨q1, q2, q3⟩ := pass_srt (d := d) hc n k h0 _ 0 L (Nat.le_refl _) hn (Nat.zero_le _) s1 s2
      rw [show 0 + 2 * k = 2 * k by omega] at q1 q2 q3
      obtain ⟨r1, r2⟩ := ih (2 * k) _ (by omega) (by omega) (by rw [q1.len, hn]) q2 q3
      exact ⟨q1.trans r1, r2⟩
    · rw [if_neg (fun h => hk h.2)]
      have := s1 0
      exact ⟨Sg.refl d L _ _, this.sub (by omega) (by omega)⟩
/-- The stable sort of a list whose elements stand as they stood at first. -/
theorem stable_srt (hc : Cmp c P H) (L : List α) (hh : ∀ s t, s < t → t < L.length → H (el d L s) (el d L t)) : Sg d L (stable d c L) 0 L.length ∧ Srt d P (stable d c L) 0 L.length := by
  unfold stable
  obtain ⟨q1, q2, q3⟩ := blocks_srt (d := d) hc L.length _ 0 L (Nat.le_refl _) rfl (Nat.zero_le _) (fun s t h1 _ h3 => hh s t h1 h3)
  rw [show 0 + 20 = 20 from rfl] at q1 q2 q3
  obtain ⟨r1, r2⟩ := merges_srt (d := d) hc L.length _ 20 _ (Nat.le_refl _) (by omega) q1.len q2 q3
  exact ⟨q1.trans r1, r2⟩
-- what is made of the elements
variable (d : α) (c : α → α → Bool) (db : β) (g : β → α)
theorem el_map (hg : g db = d) (M : List β) (i : Nat) : el d (M.map g) i = g (el db M i) := by
  unfold el
  simp only [List.getD_eq_getElem?_getD, List.getElem?_map]
  cases M[i]? <;> simp [hg]
theorem swp_map (hg : g db = d) (M : List β) (i j : Nat) : swp d (M.map g) i j = (swp db M i j).map g := by
  unfold swp; rw [el_map d db g hg, el_map d db g hg, List.map_set, List.map_set]
abbrev cb : β → β → Bool := fun x y => c (g x) (g y)
theorem ins1_map (hg : g db = d) (a : Nat) : ∀ (j : Nat) (M : List β), ins1 d c (M.map g) a j = (ins1 db (cb c g) M a j).map g := by
  intro j
  induction j with
  | zero => intro M; rw [ins1, ins1.eq_1 db, if_neg (by omega), if_neg (by omega)]
  | succ j ih =>
    intro M
    rw [ins1, ins1.eq_1 db]
    simp only [el_map d db g hg, swp_map d db g hg, Nat.add_sub_cancel, ih]
    split
    · split <;> rfl
    · rfl
theorem insS_map (hg : g db = d) (a b n : Nat) : ∀ (i : Nat) (M : List β), b - i = n → insS d c (M.map g) a b i = (insS db (cb c g) M a b i).map g := by
  induction n with
  | zero => intro i M h; rw [insS, insS.eq_1 db, if_neg (by omega), if_neg (by omega)]
  | succ n ih => intro i M h; rw [insS, insS.eq_1 db, if_pos (by omega), if_pos (by omega), ins1_map d c db g hg, ih _ _ (by omega)]
theorem insort_map (hg : g db = d) (M : List β) (a b : Nat) : insort d c (M.map g) a b = (insort db (cb c g) M a b).map g := insS_map d c db g hg a b _ _ M rfl
theorem swr_map (hg : g db = d) (a b n m : Nat) : ∀ (k : Nat) (M : List β), n - k = m → swr d (M.map g) a b n k = (swr db M a b n k).map g := by
  induction m with
  | zero => intro k M h; rw [swr, swr.eq_1 db, if_neg (by omega), if_neg (by omega)]
  | succ m ih => intro k M h; rw [swr, swr.eq_1 db, if_pos (by omega), if_pos (by omega), swp_map d db g hg, ih _ _ (by omega)]
theorem rotL_map (hg : g db = d) (m n : Nat) : ∀ (i j : Nat) (M : List β), i + j ≤ n → rotL d (M.map g) m i j = (rotL db M m i j).map g := by
  induction n with
  | zero => intro i j M h; rw [rotL, rotL.eq_1 db, if_pos (by omega), if_pos (by omega)]; exact swr_map d db g hg _ _ _ _ _ M rfl
  | succ n ih =>
    intro i j M h
    rw [rotL, rotL.eq_1 db]
    split
    · exact swr_map d db g hg _ _ _ _ _ M rfl
    · split
      · rw [swr_map d db g hg _ _ _ _ _ M rfl, ih _ _ _ (by omega)]
      · rw [swr_map d db g hg _ _ _ _ _ M rfl, ih _ _ _ (by omega)]
theorem mvR_map (hg : g db = d) (e m : Nat) : ∀ (k : Nat) (M : List β), e - k = m → mvR d (M.map g) k e = (mvR db M k e).map g := by
  induction m with
  | zero => intro k M h; rw [mvR, mvR.eq_1 db, if_neg (by omega), if_neg (by omega)]
  | succ m ih => intro k M h; rw [mvR, mvR.eq_1 db, if_pos (by omega), if_pos (by omega), swp_map d db g hg, ih _ _ (by omega)]
theorem mvL_map (hg : g db = d) (i : Nat) : ∀ (k : Nat) (M : List β), mvL d (M.map g) k i = (mvL db M k i).map g := by
  intro k
  induction k with
  | zero => intro M; rw [mvL, mvL.eq_1 db, if_neg (by omega), if_neg (by omega)]
  | succ k ih =>
    intro M
    rw [mvL, mvL.eq_1 db]
    split
    · rw [swp_map d db g hg, show k + 1 - 1 = k from rfl, ih]
    · rfl
theorem symStart_map (hg : g db = d) (M : List β) (a m b : Nat) : symStart d c (M.map g) a m b = symStart db (cb c g) M a m b := by
  unfold symStart
  rw [show symP3 d c (M.map g) ((a + b) / 2 + m - 1) = symP3 db (cb c g) M ((a + b) / 2 + m - 1) from funext fun h => by unfold symP3; rw [el_map d db g hg, el_map d db g hg]]
theorem symRot_map (hg : g db = d) (M : List β) (a m b : Nat) : symRot d c (M.map g) a m b = (symRot db (cb c g) M a m b).map g := by
  unfold symRot
  rw [symStart_map d c db g hg]
  split
  · exact rotL_map d db g hg _ _ _ _ M (Nat.le_refl _)
  · rfl
theorem sym_map (hg : g db = d) (n : Nat) : ∀ (a m b : Nat) (M : List β), b - a ≤ n → sym d c (M.map g) a m b = (sym db (cb c g) M a m b).map g := by
  induction n with
  | zero =>
    intro a m b M h
    rw [sym, sym.eq_1 db]
    rw [show symP1 d c (M.map g) a = symP1 db (cb c g) M a from funext fun h => by unfold symP1; rw [el_map d db g hg, el_map d db g hg],
      show symP2 d c (M.map g) m = symP2 db (cb c g) M m from funext fun h => by unfold symP2; rw [el_map d db g hg, el_map d db g hg]]
    dsimp only
    rw [symStart_map d c db g hg, symRot_map d c db g hg]
    split
    · exact mvR_map d db g hg _ _ _ M rfl
    · split
      · exact mvL_map d db g hg _ _ M
      · rw [if_neg (by omega), if_neg (by omega), if_neg (by omega), if_neg (by omega)]
  | succ n ih =>
    intro a m b M h
    rw [sym, sym.eq_1 db]
    rw [show symP1 d c (M.map g) a = symP1 db (cb c g) M a from funext fun h => by unfold symP1; rw [el_map d db g hg, el_map d db g hg],
      show symP2 d c (M.map g) m = symP2 db (cb c g) M m from funext fun h => by unfold symP2; rw [el_map d db g hg, el_map d db g hg]]
    dsimp only
    rw [symStart_map d c db g hg, symRot_map d c db g hg]
    split
    · exact mvR_map d db g hg _ _ _ M rfl
    · split
      · exact mvL_map d db g hg _ _ M
      · rw [show (if a < symStart db (cb c g) M a m b ∧ symStart db (cb c g) M a m b < (a + b) / 2 then sym d c ((symRot db (cb c g) M a m b).map g) a (symStart db (cb c g) M a m b) ((a + b) / 2) else (symRot db (cb c g) M a m b).map g) =
            (if a < symStart db (cb c g) M a m b ∧ symStart db (cb c g) M a m b < (a + b) / 2 then sym db (cb c g) (symRot db (cb c g) M a m b) a (symStart db (cb c g) M a m b) ((a + b) / 2) else symRot db (cb c g) M a m b).map g by
          split
          · exact ih _ _ _ _ (by omega)
          · rfl]
        split
        · exact ih _ _ _ _ (by omega)
        · rfl
theorem blocks_map (hg : g db = d) (n m : Nat) : ∀ (a b : Nat) (M : List β), n + 20 - b ≤ m → blocks d c (M.map g) n a b = (blocks db (cb c g) M n a b).map g := by
  induction m with
  | zero => intro a b M h; rw [blocks, blocks.eq_1 db, if_neg (by omega), if_neg (by omega), insort_map d c db g hg]
  | succ m ih =>
    intro a b M h
    rw [blocks, blocks.eq_1 db]
    split
    · rw [insort_map d c db g hg, ih _ _ _ (by omega)]
    · exact insort_map d c db g hg _ _ _
theorem pass_map (hg : g db = d) (n k m : Nat) : ∀ (a b : Nat) (M : List β), n + 1 - b ≤ m → pass d c (M.map g) n k a b = (pass db (cb c g) M n k a b).map g := by
  induction m with
  | zero =>
    intro a b M h; rw [pass, pass.eq_1 db]
    simp only [if_neg (show ¬ (0 < k ∧ b ≤ n) by omega)]
    split
    · exact sym_map d c db g hg _ _ _ _ _ (Nat.le_refl _)
    · rfl
  | succ m ih =>
    intro a b M h
    rw [pass, pass.eq_1 db]
    split
    · rw [sym_map d c db g hg _ _ _ _ _ (Nat.le_refl _), ih _ _ _ (by omega)]
    · split
      · exact sym_map d c db g hg _ _ _ _ _ (Nat.le_refl _)
      · rfl
theorem merges_map (hg : g db = d) (n m : Nat) : ∀ (k : Nat) (M : List β), n - k ≤ m → merges d c (M.map g) n k = (merges db (cb c g) M n k).map g := by
  induction m with
  | zero => intro k M h; rw [merges, merges.eq_1 db, if_neg (by omega), if_neg (by omega)]
  | succ m ih =>
    intro k M h
    rw [merges, merges.eq_1 db]
    split
    · rw [pass_map d c db g hg _ _ _ _ _ _ (Nat.le_refl _), ih _ _ (by omega)]
    · rfl
theorem stable_map (hg : g db = d) (M : List β) : stable d c (M.map g) = (stable db (cb c g) M).map g := by
  unfold stable
  rw [List.length_map, blocks_map d c db g hg _ _ _ _ _ (Nat.le_refl _), merges_map d c db g hg _ _ _ _ (Nat.le_refl _)]
/-- Of any list: the stable sort has its elements in an order of their places. -/
theorem stable_idx {P : Nat → Nat → Prop} (L : List α) (hc : Cmp (fun i j => c (el d L i) (el d L j)) P (fun i j => i < j)) :
    ∃ S : List Nat, stable d c L = S.map (el d L) ∧ S.Perm (List.range L.length) ∧ S.Pairwise P := by
  have hL : L = (List.range L.length).map (el d L) := by
    apply List.ext_getElem
    · simp
    · intro i h1 h2
      rw [List.getElem_map, List.getElem_range, el_get d L i h1]
  have hel : ∀ i, i < L.length → el L.length (List.range L.length) i = i := fun i hi => by
    rw [el_get _ _ _ (by simpa using hi), List.getElem_range]
  have hend : el d L L.length = d := by simp [el, List.getD_eq_getElem?_getD]
  obtain ⟨r1, r2⟩ := stable_srt (d := L.length) (c := fun i j => c (el d L i) (el d L j)) hc (List.range L.length) (fun s t h1 h2 => by
    rw [List.length_range] at h2
    rw [hel s (by omega), hel t h2]; exact h1)
  refine ⟨_, ?_, r1.perm, ?_⟩
  · conv => lhs; rw [hL]
    exact stable_map d c L.length (el d L) hend _
  · rw [List.pairwise_iff_getElem]
    intro i j hi hj hij
    have := r2 i j (Nat.zero_le _) hij (by rw [← r1.len]; exact hj)
    rw [el_get _ _ _ hi, el_get _ _ _ hj] at this
    exact this
end Go.Proofs.Ytiemcfkekaklgaa.Stab
