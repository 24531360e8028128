/- The stable sort's law, II: what is sorted. P x y: x may stand ahead of y; H x y: x stood ahead of y at first. -/
import Derived.Test.YtiemcfkekaklgaaStabL
set_option linter.unusedVariables false
set_option linter.unusedSimpArgs false
namespace Go.Proofs.Ytiemcfkekaklgaa.Stab
variable {α : Type} (d : α) (c : α → α → Bool)
/-- L' is L, but for an order within a..b. -/
structure Sg (L L' : List α) (a b : Nat) : Prop where
  len : L'.length = L.length
  out : ∀ k, k < a ∨ b ≤ k → el d L' k = el d L k
  inn : ∀ k, a ≤ k → k < b → ∃ j, a ≤ j ∧ j < b ∧ el d L' k = el d L j
  perm : L'.Perm L
theorem Sg.refl (L : List α) (a b : Nat) : Sg d L L a b := ⟨rfl, fun _ _ => rfl, fun k h1 h2 => ⟨k, h1, h2, rfl⟩, List.Perm.refl _⟩
variable {d} {c}
theorem Sg.trans {L M K : List α} {a b : Nat} (h : Sg d L M a b) (k : Sg d M K a b) : Sg d L K a b :=
  ⟨k.len.trans h.len, fun t ht => (k.out t ht).trans (h.out t ht), fun t h1 h2 => by
    obtain ⟨j, j1, j2, e⟩ := k.inn t h1 h2
    obtain ⟨i, i1, i2, e2⟩ := h.inn j j1 j2
    exact ⟨i, i1, i2, e.trans e2⟩, k.perm.trans h.perm⟩
theorem Sg.mono {L M : List α} {a b a' b' : Nat} (h : Sg d L M a b) (ha : a' ≤ a) (hb : b ≤ b') : Sg d L M a' b' :=
  ⟨h.len, fun t ht => h.out t (by omega), fun t h1 h2 => by
    by_cases ht : a ≤ t ∧ t < b
    · obtain ⟨j, j1, j2, e⟩ := h.inn t ht.1 ht.2
      exact ⟨j, by omega, by omega, e⟩
    · exact ⟨t, h1, h2, h.out t (by omega)⟩, h.perm⟩
theorem sg_swp (L : List α) {a b i j : Nat} (hi : a ≤ i) (hi2 : i < b) (hj : a ≤ j) (hj2 : j < b) (hb : b ≤ L.length) : Sg d L (swp d L i j) a b :=
  ⟨swp_len d L i j, fun k hk => by rw [el_swp d L i j k (by omega) (by omega), if_neg (by omega), if_neg (by omega)], fun k h1 h2 => by
    rw [el_swp d L i j k (by omega) (by omega)]
    split
    · exact ⟨i, hi, hi2, rfl⟩
    · split
      · exact ⟨j, hj, hj2, rfl⟩
      · exact ⟨k, h1, h2, rfl⟩, swp_perm d L i j (by omega) (by omega)⟩
variable {P H : α → α → Prop}
def Srt (d : α) (P : α → α → Prop) (L : List α) (a b : Nat) : Prop := ∀ i j, a ≤ i → i < j → j < b → P (el d L i) (el d L j)
def Lft (d : α) (H : α → α → Prop) (L : List α) (a m b : Nat) : Prop := ∀ i j, a ≤ i → i < m → m ≤ j → j < b → H (el d L i) (el d L j)
theorem Srt.same {L M : List α} {a b a' b' : Nat} (h : Srt d P L a b) (hs : Sg d L M a' b') (hd : b ≤ a' ∨ b' ≤ a) : Srt d P M a b := fun i j h1 h2 h3 => by
  rw [hs.out i (by omega), hs.out j (by omega)]; exact h i j h1 h2 h3
theorem Srt.sub {L : List α} {a b a' b' : Nat} (h : Srt d P L a b) (ha : a ≤ a') (hb : b' ≤ b) : Srt d P L a' b' := fun i j h1 h2 h3 => h i j (by omega) h2 (by omega)
/-- The comparison tells, of x to the left of y, which one goes first. -/
structure Cmp (c : α → α → Bool) (P H : α → α → Prop) : Prop where
  tr : ∀ x y z, P x y → P y z → P x z
  lt : ∀ x y, H x y → c y x = true → P y x
  ge : ∀ x y, H x y → c y x = false → P x y
theorem ins1_srt (hc : Cmp c P H) (a J : Nat) : ∀ (j : Nat) (L : List α), a ≤ j → j ≤ J → J < L.length → Srt d P L a j → (∀ t, j < t → t ≤ J → P (el d L j) (el d L t)) → Srt d P L (j + 1) (J + 1) → (∀ i t, a ≤ i → i < j → j < t → t ≤ J → P (el d L i) (el d L t)) → (∀ i, a ≤ i → i < j → H (el d L i) (el d L j)) →
    Sg d L (ins1 d c L a j) a (J + 1) ∧ Srt d P (ins1 d c L a j) a (J + 1) := by
  intro j
  induction j with
  | zero =>
    intro L h1 h2 h3 s1 s2 s3 s4 s5
    rw [ins1, if_neg (by omega)]
    refine ⟨Sg.refl d L _ _, fun i t g1 g2 g3 => ?_⟩
    by_cases e : i = 0
    · subst e; exact s2 t g2 (by omega)
    · exact s3 i t (by omega) g2 (by omega)
  | succ j ih =>
    intro L h1 h2 h3 s1 s2 s3 s4 s5
    rw [ins1]
    have stay : Srt d P L a (j + 1 + 1) → Srt d P L a (J + 1) := fun hs i t g1 g2 g3 => by
      by_cases e1 : t ≤ j + 1
      · exact hs i t g1 g2 (by omega)
      · by_cases e2 : i ≤ j
        · exact s4 i t g1 (by omega) (by omega) (by omega)
        · by_cases e3 : i = j + 1
          · subst e3; exact s2 t (by omega) (by omega)
          · exact s3 i t (by omega) g2 (by omega)
    by_cases ha : a < j + 1
    · rw [if_pos ha, show j + 1 - 1 = j from rfl]
      by_cases hlt : c (el d L (j + 1)) (el d L j) = true
      · rw [if_pos hlt]
        have hP := hc.lt _ _ (s5 j (by omega) (by omega)) hlt
        have hsw := fun t => el_swp d L (j + 1) j t (by omega) (by omega)
        obtain ⟨r1, r2⟩ := ih (swp d L (j + 1) j) (by omega) (by omega) (by rw [swp_len]; exact h3) (fun i t g1 g2 g3 => by
            rw [hsw, hsw, if_neg (by omega), if_neg (by omega), if_neg (by omega), if_neg (by omega)]; exact s1 i t g1 g2 (by omega))
          (fun t g1 g2 => by
            rw [hsw, hsw, if_pos rfl, if_neg (by omega)]
            by_cases e : t = j + 1
            · rw [if_pos e]; exact hP
            · rw [if_neg e]; exact s2 t (by omega) g2)
          (fun i t g1 g2 g3 => by
            rw [hsw, hsw, if_neg (by omega), if_neg (show ¬ t = j by omega), if_neg (show ¬ t = j + 1 by omega)]
            by_cases e : i = j + 1
            · rw [if_pos e]; exact s4 j t (by omega) (by omega) (by omega) (by omega)
            · rw [if_neg e]; exact s3 i t (by omega) g2 g3)
          (fun i t g1 g2 g3 g4 => by
            rw [hsw, hsw, if_neg (by omega), if_neg (by omega), if_neg (by omega)]
            by_cases e : t = j + 1
            · rw [if_pos e]; exact s1 i j g1 g2 (by omega)
            · rw [if_neg e]; exact s4 i t g1 (by omega) (by omega) g4)
          (fun i g1 g2 => by
            rw [hsw, hsw, if_neg (by omega), if_neg (by omega), if_pos rfl]; exact s5 i g1 (by omega))
        exact ⟨(sg_swp L (by omega) (by omega) (by omega) (by omega) (by omega)).trans r1, r2⟩
      · rw [if_neg hlt]
        have hP := hc.ge _ _ (s5 j (by omega) (by omega)) (by simpa using hlt)
        refine ⟨Sg.refl d L _ _, stay fun i t g1 g2 g3 => ?_⟩
        by_cases e : t = j + 1
        · subst e
          by_cases e2 : i = j
          · subst e2; exact hP
          · exact hc.tr _ _ _ (s1 i j g1 (by omega) (by omega)) hP
        · exact s1 i t g1 g2 (by omega)
    · rw [if_neg ha]
      refine ⟨Sg.refl d L _ _, stay fun i t g1 g2 g3 => ?_⟩
      omega
theorem insS_srt (hc : Cmp c P H) (a b n : Nat) : ∀ (i : Nat) (L : List α), b - i = n → a < i → b ≤ L.length → Srt d P L a i → (∀ s t, a ≤ s → s < t → i ≤ t → t < b → H (el d L s) (el d L t)) → Sg d L (insS d c L a b i) a b ∧ Srt d P (insS d c L a b i) a b := by
  induction n with
  | zero => intro i L h h1 h2 s1 s2; rw [insS, if_neg (by omega)]; exact ⟨Sg.refl d L _ _, s1.sub (Nat.le_refl _) (by omega)⟩
  | succ n ih =>
    intro i L h h1 h2 s1 s2
    rw [insS, if_pos (by omega)]
    obtain ⟨r1, r2⟩ := ins1_srt hc a i i L (by omega) (Nat.le_refl _) (by omega) s1 (fun t g1 g2 => by omega) (fun s t g1 g2 g3 => by omega) (fun s t g1 g2 g3 g4 => by omega) (fun s g1 g2 => s2 s i g1 g2 (Nat.le_refl _) (by omega))
    obtain ⟨r3, r4⟩ := ih (i + 1) _ (by omega) (by omega) (by rw [r1.len]; exact h2) r2 (fun s t g1 g2 g3 g4 => by
      rw [r1.out t (by omega)]
      by_cases e : s ≤ i
      · obtain ⟨q, q1, q2, e2⟩ := r1.inn s g1 (by omega)
        rw [e2]; exact s2 q t q1 (by omega) (by omega) g4
      · rw [r1.out s (by omega)]; exact s2 s t g1 g2 (by omega) g4)
    exact ⟨(r1.mono (Nat.le_refl _) (by omega)).trans r3, r4⟩
theorem insort_srt (hc : Cmp c P H) (L : List α) (a b : Nat) (h2 : b ≤ L.length) (s2 : ∀ s t, a ≤ s → s < t → t < b → H (el d L s) (el d L t)) : Sg d L (insort d c L a b) a b ∧ Srt d P (insort d c L a b) a b :=
  insS_srt hc a b _ (a + 1) L rfl (by omega) h2 (fun i j g1 g2 g3 => by omega) (fun s t g1 g2 g3 g4 => s2 s t g1 g2 g4)
theorem sg_rot (L : List α) (a m b : Nat) (h1 : a < m) (h2 : m < b) (h3 : b ≤ L.length) : Sg d L (rot d L a m b) a b :=
  ⟨rot_len d L a m b, fun k hk => by rw [el_rot d L a m b k h1 h2 h3, if_neg (by omega), if_neg (by omega)], fun k g1 g2 => by
    rw [el_rot d L a m b k h1 h2 h3]
    split
    · exact ⟨_, by omega, by omega, rfl⟩
    · split
      · exact ⟨_, by omega, by omega, rfl⟩
      · omega, rotL_perm d m _ _ _ L (Nat.le_refl _) (by omega) (by omega) (by omega) (by omega)⟩
theorem sym_srt (hc : Cmp c P H) (n : Nat) : ∀ (a m b : Nat) (L : List α), b - a ≤ n → a < m → m < b → b ≤ L.length → Srt d P L a m → Srt d P L m b → Lft d H L a m b → Sg d L (sym d c L a m b) a b ∧ Srt d P (sym d c L a m b) a b := by
  induction n with
  | zero => intro a m b L h; omega
  | succ n ih =>
    intro a m b L h h1 h2 h3 s1 s2 hl
    rw [sym]
    by_cases hA : m - a = 1
    · rw [if_pos hA]
      obtain rfl : m = a + 1 := by omega
      obtain ⟨b1, b2, b3, b4⟩ := bsearch_spec (symP1 d c L a) (a + 1) b (by omega)
      obtain ⟨s, hs⟩ : ∃ s, s = bsearch (symP1 d c L a) (a + 1) b - 1 := ⟨_, rfl⟩
      have hbs : bsearch (symP1 d c L a) (a + 1) b = s + 1 := by omega
      rw [hbs] at b1 b2 b3 b4 ⊢
      rw [show s + 1 - 1 = s from rfl] at b3 ⊢
      have hel := fun t => el_mvR d s _ a L rfl (by omega) (by omega) t
      have p3 : ∀ t, a < t → t ≤ s → P (el d L t) (el d L a) := fun t g1 g2 => by
        have hP := hc.lt _ _ (hl a s (Nat.le_refl _) (by omega) (by omega) (by omega)) (b3 (by omega))
        by_cases e : t = s
        · subst e; exact hP
        · exact hc.tr _ _ _ (s2 t s (by omega) (by omega) (by omega)) hP
      have p4 : ∀ t, s < t → t < b → P (el d L a) (el d L t) := fun t g1 g2 => by
        have hP := hc.ge _ _ (hl a (s + 1) (Nat.le_refl _) (by omega) (by omega) (by omega)) (b4 (by omega))
        by_cases e : t = s + 1
        · subst e; exact hP
        · exact hc.tr _ _ _ hP (s2 (s + 1) t (by omega) (by omega) (by omega))
      refine ⟨⟨mvR_len d _ _ _ _ rfl, fun k hk => by rw [hel, if_neg (by omega), if_neg (by omega)], fun k g1 g2 => ?_, mvR_perm d s _ a L rfl (by omega)⟩, fun i j g1 g2 g3 => ?_⟩
      · rw [hel]
        split
        · exact ⟨_, by omega, by omega, rfl⟩
        · split
          · exact ⟨_, by omega, by omega, rfl⟩
          · exact ⟨k, g1, g2, rfl⟩
      · rw [hel, hel]
        by_cases e1 : i < s
        · rw [if_pos (show a ≤ i ∧ i < s by omega)]
          by_cases e2 : j < s
          · rw [if_pos (by omega)]; exact s2 _ _ (by omega) (by omega) (by omega)
          · rw [if_neg (by omega)]
            by_cases e3 : j = s
            · rw [if_pos e3]; exact p3 _ (by omega) (by omega)
            · rw [if_neg e3]; exact s2 _ _ (by omega) (by omega) (by omega)
        · rw [if_neg (show ¬ (a ≤ i ∧ i < s) by omega), if_neg (show ¬ (a ≤ j ∧ j < s) by omega), if_neg (show ¬ j = s by omega)]
          by_cases e2 : i = s
          · rw [if_pos e2]; exact p4 _ (by omega) (by omega)
          · rw [if_neg e2]; exact s2 _ _ (by omega) (by omega) (by omega)
    · rw [if_neg hA]
      by_cases hB : b - m = 1
      · rw [if_pos hB]
        obtain rfl : b = m + 1 := by omega
        obtain ⟨b1, b2, b3, b4⟩ := bsearch_spec (symP2 d c L m) a m (by omega)
        obtain ⟨s, hs⟩ : ∃ s, s = bsearch (symP2 d c L m) a m := ⟨_, rfl⟩
        rw [← hs] at b1 b2 b3 b4 ⊢
        have hel := fun t => el_mvL d s m L (by omega) (by omega) t
        have p3 : ∀ t, a ≤ t → t < s → P (el d L t) (el d L m) := fun t g1 g2 => by
          have hP := hc.ge _ _ (hl (s - 1) m (by omega) (by omega) (by omega) (by omega)) (by have := b3 (by omega); unfold symP2 at this; simpa using this)
          by_cases e : t = s - 1
          · subst e; exact hP
          · exact hc.tr _ _ _ (s1 t (s - 1) (by omega) (by omega) (by omega)) hP
        have p4 : ∀ t, s ≤ t → t < m → P (el d L m) (el d L t) := fun t g1 g2 => by
          have hP := hc.lt _ _ (hl s m (by omega) (by omega) (by omega) (by omega)) (by have := b4 (by omega); unfold symP2 at this; simpa using this)
          by_cases e : t = s
          · subst e; exact hP
          · exact hc.tr _ _ _ hP (s1 s t (by omega) (by omega) (by omega))
        refine ⟨⟨mvL_len d _ _ _, fun k hk => by rw [hel, if_neg (by omega), if_neg (by omega)], fun k g1 g2 => ?_, mvL_perm d s m L (by omega)⟩, fun i j g1 g2 g3 => ?_⟩
        · rw [hel]
          split
          · exact ⟨_, by omega, by omega, rfl⟩
          · split
            · exact ⟨_, by omega, by omega, rfl⟩
            · exact ⟨k, g1, g2, rfl⟩
        · rw [hel, hel]
          by_cases e1 : s < i
          · rw [if_pos (show s < i ∧ i ≤ m by omega), if_pos (show s < j ∧ j ≤ m by omega)]
            exact s1 _ _ (by omega) (by omega) (by omega)
          · rw [if_neg (show ¬ (s < i ∧ i ≤ m) by omega)]
            by_cases e2 : i = s
            · rw [if_pos e2, if_pos (show s < j ∧ j ≤ m by omega)]; exact p4 _ (by omega) (by omega)
            · rw [if_neg e2]
              by_cases e3 : s < j
              · rw [if_pos (show s < j ∧ j ≤ m by omega)]; exact s1 _ _ (by omega) (by omega) (by omega)
              · rw [if_neg (show ¬ (s < j ∧ j ≤ m) by omega)]
                by_cases e4 : j = s
                · rw [if_pos e4]; exact p3 _ (by omega) (by omega)
                · rw [if_neg e4]; exact s1 _ _ (by omega) (by omega) (by omega)
      · rw [if_neg hB]
        dsimp only
        obtain ⟨mid, hmid⟩ : ∃ mid, mid = (a + b) / 2 := ⟨_, rfl⟩
        have hlo : (if mid < m then mid + m - b else a) ≤ (if mid < m then mid else m) := by split <;> omega
        obtain ⟨b1, b2, b3, b4⟩ := bsearch_spec (symP3 d c L (mid + m - 1)) _ _ hlo
        rw [show bsearch (symP3 d c L (mid + m - 1)) (if mid < m then mid + m - b else a) (if mid < m then mid else m) = symStart d c L a m b by rw [hmid]; rfl] at b1 b2 b3 b4
        rw [← hmid]
        obtain ⟨s, hs⟩ : ∃ s, s = symStart d c L a m b := ⟨_, rfl⟩
        rw [← hs] at b1 b2 b3 b4 ⊢
        obtain ⟨e, he⟩ : ∃ e, e = mid + m - s := ⟨_, rfl⟩
        rw [← he]
        have k1 : a ≤ s ∧ s ≤ m ∧ s ≤ mid ∧ m ≤ e ∧ mid ≤ e ∧ e ≤ b ∧ e - m = mid - s := by
          split at b1 <;> split at b2 <;> omega
        have p1 : ∀ i j, a ≤ i → i < s → e ≤ j → j < b → P (el d L i) (el d L j) := fun i j g1 g2 g3 g4 => by
          have hp := b3 (by split <;> omega)
          unfold symP3 at hp
          rw [show mid + m - 1 - (s - 1) = e by omega] at hp
          have hP := hc.ge _ _ (hl (s - 1) e (by omega) (by omega) (by omega) (by omega)) (by simpa using hp)
          have hP1 : P (el d L i) (el d L e) := by
            by_cases q : i = s - 1
            · subst q; exact hP
            · exact hc.tr _ _ _ (s1 i (s - 1) g1 (by omega) (by omega)) hP
          by_cases q : j = e
          · subst q; exact hP1
          · exact hc.tr _ _ _ hP1 (s2 e j (by omega) (by omega) g4)
        have p2 : ∀ i j, m ≤ i → i < e → s ≤ j → j < m → P (el d L i) (el d L j) := fun i j g1 g2 g3 g4 => by
          have hp := b4 (by split <;> omega)
          unfold symP3 at hp
          rw [show mid + m - 1 - s = e - 1 by omega] at hp
          have hP := hc.lt _ _ (hl s (e - 1) (by omega) (by omega) (by omega) (by omega)) (by simpa using hp)
          have hP1 : P (el d L i) (el d L s) := by
            by_cases q : i = e - 1
            · subst q; exact hP
            · exact hc.tr _ _ _ (s2 i (e - 1) g1 (by omega) (by omega)) hP
          by_cases q : j = s
          · subst q; exact hP1
          · exact hc.tr _ _ _ hP1 (s1 s j (by omega) (by omega) g4)
        -- the rotated one
        obtain ⟨L1, hL1⟩ : ∃ L1, L1 = symRot d c L a m b := ⟨_, rfl⟩
        rw [← hL1]
        have hel : ∀ t, el d L1 t = if s ≤ t ∧ t < mid then el d L (t + (m - s)) else if mid ≤ t ∧ t < e then el d L (t - (e - m)) else el d L t := fun t => by
          rw [hL1]
          unfold symRot
          rw [← hmid, ← hs, ← he]
          by_cases hr : s < m ∧ m < e
          · rw [if_pos hr, el_rot d L s m e t hr.1 hr.2 (by omega), show s + (e - m) = mid by omega]
          · rw [if_neg hr]
            split
            · congr 1; omega
            · split
              · congr 1; omega
              · rfl
        have hg1 : Sg d L L1 a b := by
          rw [hL1]
          unfold symRot
          rw [← hmid, ← hs, ← he]
          by_cases hr : s < m ∧ m < e
          · rw [if_pos hr]; exact (sg_rot L s m e hr.1 hr.2 (by omega)).mono (by omega) (by omega)
          · rw [if_neg hr]; exact Sg.refl d L _ _
        have q1 : Srt d P L1 a s := fun i j g1 g2 g3 => by
          rw [hel, hel, if_neg (by omega), if_neg (by omega), if_neg (by omega), if_neg (by omega)]; exact s1 i j g1 g2 (by omega)
        have q2 : Srt d P L1 s mid := fun i j g1 g2 g3 => by
          rw [hel, hel, if_pos (by omega), if_pos (by omega)]; exact s2 _ _ (by omega) (by omega) (by omega)
        have q3 : Srt d P L1 mid e := fun i j g1 g2 g3 => by
          rw [hel, hel, if_neg (by omega), if_pos (by omega), if_neg (by omega), if_pos (by omega)]; exact s1 _ _ (by omega) (by omega) (by omega)
        have q4 : Srt d P L1 e b := fun i j g1 g2 g3 => by
          rw [hel, hel, if_neg (by omega), if_neg (by omega), if_neg (by omega), if_neg (by omega)]; exact s2 i j (by omega) g2 (by omega)
        have r1 : Lft d H L1 a s mid := fun i j g1 g2 g3 g4 => by
          rw [hel, hel, if_neg (by omega), if_neg (by omega), if_pos (by omega)]; exact hl _ _ (by omega) (by omega) (by omega) (by omega)
        have r2 : Lft d H L1 mid e b := fun i j g1 g2 g3 g4 => by
          rw [hel, hel, if_neg (by omega), if_pos (by omega), if_neg (by omega), if_neg (by omega)]; exact hl _ _ (by omega) (by omega) (by omega) (by omega)
        have r3 : ∀ i j, a ≤ i → i < mid → mid ≤ j → j < b → P (el d L1 i) (el d L1 j) := fun i j g1 g2 g3 g4 => by
          rw [hel, hel]
          by_cases e1 : i < s
          · rw [if_neg (show ¬ (s ≤ i ∧ i < mid) by omega), if_neg (show ¬ (mid ≤ i ∧ i < e) by omega), if_neg (show ¬ (s ≤ j ∧ j < mid) by omega)]
            by_cases e2 : j < e
            · rw [if_pos (show mid ≤ j ∧ j < e by omega)]; exact s1 _ _ (by omega) (by omega) (by omega)
            · rw [if_neg (show ¬ (mid ≤ j ∧ j < e) by omega)]; exact p1 _ _ (by omega) (by omega) (by omega) (by omega)
          · rw [if_pos (show s ≤ i ∧ i < mid by omega), if_neg (show ¬ (s ≤ j ∧ j < mid) by omega)]
            by_cases e2 : j < e
            · rw [if_pos (show mid ≤ j ∧ j < e by omega)]; exact p2 _ _ (by omega) (by omega) (by omega) (by omega)
            · rw [if_neg (show ¬ (mid ≤ j ∧ j < e) by omega)]; exact s2 _ _ (by omega) (by omega) (by omega)
        have hlen := hg1.len
        clear hL1 hel p1 p2 b1 b2 b3 b4 hlo
        -- the left half
        obtain ⟨L2, hL2⟩ : ∃ L2, L2 = (if a < s ∧ s < mid then sym d c L1 a s mid else L1) := ⟨_, rfl⟩
        rw [← hL2]
        have hg2 : Sg d L1 L2 a mid ∧ Srt d P L2 a mid := by
          rw [hL2]
          by_cases hr : a < s ∧ s < mid
          · rw [if_pos hr]
            exact ih a s mid L1 (by omega) hr.1 hr.2 (by omega) q1 q2 r1
          · rw [if_neg hr]
            refine ⟨Sg.refl d L1 _ _, ?_⟩
            by_cases e1 : s = a
            · subst e1; exact q2
            · obtain rfl : s = mid := by omega
              exact q1
        obtain ⟨L3, hL3⟩ : ∃ L3, L3 = (if mid < e ∧ e < b then sym d c L2 mid e b else L2) := ⟨_, rfl⟩
        rw [← hL3]
        have hg3 : Sg d L2 L3 mid b ∧ Srt d P L3 mid b := by
          rw [hL3]
          have q3' := q3.same hg2.1 (.inr (Nat.le_refl _))
          have q4' := q4.same hg2.1 (.inr (by omega))
          by_cases hr : mid < e ∧ e < b
          · rw [if_pos hr]
            refine ih mid e b L2 (by omega) hr.1 hr.2 (by rw [hg2.1.len]; omega) q3' q4' (fun i j g1 g2 g3 g4 => ?_)
            rw [hg2.1.out i (by omega), hg2.1.out j (by omega)]; exact r2 i j g1 g2 g3 g4
          · rw [if_neg hr]
            refine ⟨Sg.refl d L2 _ _, ?_⟩
            by_cases e1 : mid = e
            · subst e1; exact q4'
            · obtain rfl : e = b := by omega
              exact q3'
        refine ⟨(hg1.trans (hg2.1.mono (Nat.le_refl _) (by omega))).trans (hg3.1.mono (by omega) (Nat.le_refl _)), fun i j g1 g2 g3 => ?_⟩
        by_cases e1 : j < mid
        · exact (hg2.2.same hg3.1 (.inl (Nat.le_refl _))) i j g1 g2 e1
        · by_cases e2 : mid ≤ i
          · exact hg3.2 i j e2 g2 g3
          · rw [hg3.1.out i (by omega)]
            obtain ⟨i', i1, i2, ei⟩ := hg2.1.inn i g1 (by omega)
            obtain ⟨j', j1, j2, ej⟩ := hg3.1.inn j (by omega) g3
            rw [ei, ej, hg2.1.out j' (by omega)]
            exact r3 i' j' i1 i2 j1 j2
end Go.Proofs.Ytiemcfkekaklgaa.Stab
