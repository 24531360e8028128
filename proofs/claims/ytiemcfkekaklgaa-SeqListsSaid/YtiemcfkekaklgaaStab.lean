/- The standard library's stable sort, as plain functions on lists: insertion sort in blocks, then merges in place. -/
import Derived.Test.YtiemcfkekaklgaaLib
set_option linter.unusedVariables false
set_option linter.unusedSimpArgs false
namespace Go.Proofs.Ytiemcfkekaklgaa.Stab
variable {α : Type} (d : α) (c : α → α → Bool)
/-- element i -/
def el (L : List α) (i : Nat) : α := L.getD i d
/-- elements i and j changed for one another -/
def swp (L : List α) (i j : Nat) : List α := (L.set i (el d L j)).set j (el d L i)
theorem swp_len (L : List α) (i j : Nat) : (swp d L i j).length = L.length := by simp [swp]
def ins1 (L : List α) (a j : Nat) : List α := if a < j then (if c (el d L j) (el d L (j - 1)) then ins1 (swp d L j (j - 1)) a (j - 1) else L) else L
termination_by j
theorem ins1_len (a : Nat) : ∀ (j : Nat) (L : List α), (ins1 d c L a j).length = L.length := by
  intro j
  induction j with
  | zero => intro L; rw [ins1]; simp
  | succ j ih =>
    intro L; rw [ins1]; split
    · split
      · rw [show j + 1 - 1 = j from rfl, ih, swp_len]
      · rfl
    · rfl
def insS (L : List α) (a b i : Nat) : List α := if i < b then insS (ins1 d c L a i) a b (i + 1) else L
termination_by b - i
theorem insS_len (a b : Nat) (n : Nat) : ∀ (i : Nat) (L : List α), b - i = n → (insS d c L a b i).length = L.length := by
  induction n with
  | zero => intro i L h; rw [insS, if_neg (by omega)]
  | succ n ih => intro i L h; rw [insS, if_pos (by omega), ih _ _ (by omega), ins1_len]
/-- data[a:b] by insertion -/
def insort (L : List α) (a b : Nat) : List α := insS d c L a b (a + 1)
theorem insort_len (L : List α) (a b : Nat) : (insort d c L a b).length = L.length := insS_len d c a b _ _ _ rfl
def bsearch (p : Nat → Bool) (i j : Nat) : Nat := if i < j then (if p ((i + j) / 2) then bsearch p ((i + j) / 2 + 1) j else bsearch p i ((i + j) / 2)) else i
termination_by j - i
def mvR (L : List α) (k e : Nat) : List α := if k < e then mvR (swp d L k (k + 1)) (k + 1) e else L
termination_by e - k
theorem mvR_len (e n : Nat) : ∀ (k : Nat) (L : List α), e - k = n → (mvR d L k e).length = L.length := by
  induction n with
  | zero => intro k L h; rw [mvR, if_neg (by omega)]
  | succ n ih => intro k L h; rw [mvR, if_pos (by omega), ih _ _ (by omega), swp_len]
def mvL (L : List α) (k i : Nat) : List α := if i < k then mvL (swp d L k (k - 1)) (k - 1) i else L
termination_by k
theorem mvL_len (i : Nat) : ∀ (k : Nat) (L : List α), (mvL d L k i).length = L.length := by
  intro k
  induction k with
  | zero => intro L; rw [mvL, if_neg (by omega)]
  | succ k ih => intro L; rw [mvL]; split <;> simp [ih, swp_len]
def swr (L : List α) (a b n k : Nat) : List α := if k < n then swr (swp d L (a + k) (b + k)) a b n (k + 1) else L
termination_by n - k
theorem swr_len (a b n m : Nat) : ∀ (k : Nat) (L : List α), n - k = m → (swr d L a b n k).length = L.length := by
  induction m with
  | zero => intro k L h; rw [swr, if_neg (by omega)]
  | succ m ih => intro k L h; rw [swr, if_pos (by omega), ih _ _ (by omega), swp_len]
def rotL (L : List α) (m i j : Nat) : List α :=
  if i = j ∨ i = 0 ∨ j = 0 then swr d L (m - i) m i 0 else if j < i then rotL (swr d L (m - i) m j 0) m (i - j) j else rotL (swr d L (m - i) (m + j - i) i 0) m i (j - i)
termination_by i + j
theorem rotL_len (m n : Nat) : ∀ (i j : Nat) (L : List α), i + j ≤ n → (rotL d L m i j).length = L.length := by
  induction n with
  | zero => intro i j L h; rw [rotL, if_pos (by omega)]; exact swr_len d _ _ _ _ _ _ rfl
  | succ n ih =>
    intro i j L h
    rw [rotL]
    split
    · exact swr_len d _ _ _ _ _ _ rfl
    · split
      · rw [ih _ _ _ (by omega), swr_len d _ _ _ _ _ _ rfl]
      · rw [ih _ _ _ (by omega), swr_len d _ _ _ _ _ _ rfl]
/-- data[a:m], data[m:b] changed for one another -/
def rot (L : List α) (a m b : Nat) : List α := rotL d L m (m - a) (b - m)
theorem rot_len (L : List α) (a m b : Nat) : (rot d L a m b).length = L.length := rotL_len d _ _ _ _ _ (Nat.le_refl _)
def symP1 (L : List α) (a : Nat) (h : Nat) : Bool := c (el d L h) (el d L a)
def symP2 (L : List α) (m : Nat) (h : Nat) : Bool := !c (el d L m) (el d L h)
def symP3 (L : List α) (p : Nat) (h : Nat) : Bool := !c (el d L (p - h)) (el d L h)
def symStart (L : List α) (a m b : Nat) : Nat :=
  bsearch (symP3 d c L ((a + b) / 2 + m - 1)) (if (a + b) / 2 < m then (a + b) / 2 + m - b else a) (if (a + b) / 2 < m then (a + b) / 2 else m)
def symRot (L : List α) (a m b : Nat) : List α :=
  if symStart d c L a m b < m ∧ m < (a + b) / 2 + m - symStart d c L a m b then rot d L (symStart d c L a m b) m ((a + b) / 2 + m - symStart d c L a m b) else L
/-- data[a:m] and data[m:b], that are sorted, made one -/
def sym (L : List α) (a m b : Nat) : List α :=
  if m - a = 1 then mvR d L a (bsearch (symP1 d c L a) m b - 1)
  else if b - m = 1 then mvL d L m (bsearch (symP2 d c L m) a m)
  else
    let s := symStart d c L a m b
    let e := (a + b) / 2 + m - s
    let L1 := symRot d c L a m b
    let L2 := if a < s ∧ s < (a + b) / 2 then sym L1 a s ((a + b) / 2) else L1
    if (a + b) / 2 < e ∧ e < b then sym L2 ((a + b) / 2) e b else L2
termination_by b - a
theorem symRot_len (L : List α) (a m b : Nat) : (symRot d c L a m b).length = L.length := by
  unfold symRot; split
  · exact rot_len d _ _ _ _
  · rfl
theorem sym_len (n : Nat) : ∀ (a m b : Nat) (L : List α), b - a ≤ n → (sym d c L a m b).length = L.length := by
  induction n with
  | zero =>
    intro a m b L h
    rw [sym]
    split
    · exact mvR_len d _ _ _ _ rfl
    · split
      · exact mvL_len d _ _ _
      · dsimp only
        rw [if_neg (by omega), if_neg (by omega)]
        exact symRot_len d c _ _ _ _
  | succ n ih =>
    intro a m b L h
    rw [sym]
    split
    · exact mvR_len d _ _ _ _ rfl
    · split
      · exact mvL_len d _ _ _
      · dsimp only
        have h2 : (if a < symStart d c L a m b ∧ symStart d c L a m b < (a + b) / 2 then sym d c (symRot d c L a m b) a (symStart d c L a m b) ((a + b) / 2) else symRot d c L a m b).length = L.length := by
          split
          · rw [ih _ _ _ _ (by omega), symRot_len]
          · exact symRot_len d c _ _ _ _
        split
        · rw [ih _ _ _ _ (by omega), h2]
        · exact h2
/-- blocks of 20 by insertion -/
def blocks (L : List α) (n a b : Nat) : List α := if b ≤ n then blocks (insort d c L a b) n b (b + 20) else insort d c L a n
termination_by n + 20 - b
theorem blocks_len (n m : Nat) : ∀ (a b : Nat) (L : List α), n + 20 - b ≤ m → (blocks d c L n a b).length = L.length := by
  induction m with
  | zero => intro a b L h; rw [blocks, if_neg (by omega)]; exact insort_len d c _ _ _
  | succ m ih =>
    intro a b L h
    rw [blocks]
    split
    · rw [ih _ _ _ (by omega), insort_len]
    · exact insort_len d c _ _ _
/-- blocks of k made blocks of 2k -/
def pass (L : List α) (n k a b : Nat) : List α := if 0 < k ∧ b ≤ n then pass (sym d c L a (a + k) b) n k b (b + 2 * k) else if a + k < n then sym d c L a (a + k) n else L
termination_by n + 1 - b
theorem pass_len (n k m : Nat) : ∀ (a b : Nat) (L : List α), n + 1 - b ≤ m → (pass d c L n k a b).length = L.length := by
  induction m with
  | zero =>
    intro a b L h; rw [pass, if_neg (by omega)]
    split
    · exact sym_len d c _ _ _ _ _ (Nat.le_refl _)
    · rfl
  | succ m ih =>
    intro a b L h
    rw [pass]
    split
    · rw [ih _ _ _ (by omega), sym_len d c _ _ _ _ _ (Nat.le_refl _)]
    · split
      · exact sym_len d c _ _ _ _ _ (Nat.le_refl _)
      · rfl
def merges (L : List α) (n k : Nat) : List α := if 0 < k ∧ k < n then merges (pass d c L n k 0 (2 * k)) n (2 * k) else L
termination_by n - k
theorem merges_len (n m : Nat) : ∀ (k : Nat) (L : List α), n - k ≤ m → (merges d c L n k).length = L.length := by
  induction m with
  | zero => intro k L h; rw [merges, if_neg (by omega)]
  | succ m ih =>
    intro k L h
    rw [merges]
    split
    · rw [ih _ _ (by omega), pass_len d c _ _ _ _ _ _ (Nat.le_refl _)]
    · rfl
/-- the whole -/
def stable (L : List α) : List α := merges d c (blocks d c L L.length 0 20) L.length 20
theorem stable_len (L : List α) : (stable d c L).length = L.length := by
  unfold stable; rw [merges_len d c _ _ _ _ (Nat.le_refl _), blocks_len d c _ _ _ _ _ (Nat.le_refl _)]
end Go.Proofs.Ytiemcfkekaklgaa.Stab
