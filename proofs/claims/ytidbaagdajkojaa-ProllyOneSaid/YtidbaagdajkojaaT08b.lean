/- Layer 8 in plain words: what counts tell. -/
import Derived.Test.YtidbaagdajkojaaT08
set_option linter.unusedVariables false
set_option linter.unusedSimpArgs false
namespace Go.Proofs.Ytidbaagdajkojaa.T08
open Go.Proofs.Ytidbaagdajkojaa.Lib Go.Proofs.Ytidbaagdajkojaa.Sha Go.Proofs.Ytidbaagdajkojaa.T07
theorem be_get (c k : Nat) (hk : k < 8) : ((be c 8).getD k 0).toNat = c / 2 ^ (8 * (7 - k)) % 256 := by
  have h1 : (be c 8).getD k 0 = u8 (((c / 2 ^ (8 * (8 - 1 - k)) : Nat)) : Int) := by
    simp [be, List.getD_eq_getElem?_getD, hk]
  rw [h1]
  have := u8_toNat (((c / 2 ^ (8 * (8 - 1 - k)) : Nat)) : Int) (Int.natCast_nonneg _)
  rw [show 8 - 1 - k = 7 - k by omega] at this ⊢
  omega
theorem toldGo_be (s : List UInt8) (c : Nat) (hs : s.length = 32) (hc : c < 18446744073709551616) : ∀ k, k ≤ 8 → toldGo (s ++ be c 8) k = c / 2 ^ (8 * (8 - k)) := by
  intro k
  induction k with
  | zero =>
    intro _
    rw [toldGo, Nat.div_eq_of_lt (by simpa using hc)]
  | succ k ih =>
    intro hk
    have hb : (bat (s ++ be c 8) (32 + k)).toNat = c / 2 ^ (8 * (7 - k)) % 256 := by
      rw [← be_get c k (by omega)]
      unfold bat
      rw [List.getD_eq_getElem?_getD, List.getD_eq_getElem?_getD, List.getElem?_append_right (by omega), hs, Nat.add_sub_cancel_left]
    rw [toldGo, ih (by omega), hb]
    have e : 8 * (8 - k) = 8 * (7 - k) + 8 := by omega
    rw [e, Nat.pow_add, ← Nat.div_div_eq_div_mul, show 8 - (k + 1) = 7 - k by omega]
    have := Nat.div_add_mod (c / 2 ^ (8 * (7 - k))) 256
    omega
theorem told_be (s : List UInt8) (c : Nat) (hs : s.length = 32) (hc : c < 18446744073709551616) : told (s ++ be c 8) = c := by
  rw [told, toldGo_be s c hs hc 8 (Nat.le_refl _)]; simp
def wt (lv : Nat) (x : Itm) : Nat := if lv = 0 then 1 else told x.2
def wts (lv : Nat) (l : List Itm) : Nat := (l.map (wt lv)).sum
theorem wts_zero (l : List Itm) : wts 0 l = l.length := by
  induction l with
  | nil => rfl
  | cons x l ih => simp only [wts, List.map_cons, List.sum_cons, List.length_cons] at ih ⊢; rw [ih]; simp [wt]; omega
theorem wts_pos (lv : Nat) (h : lv ≠ 0) (l : List Itm) : wts lv l = (l.map fun x => told x.2).sum := by
  unfold wts
  congr 1
  apply List.map_congr_left
  intro x _
  rw [wt, if_neg h]
theorem count_wts (lv : Nat) (l : List Itm) (h : wts lv l < 18446744073709551616) : countS lv l = wts lv l := by
  unfold countS
  split
  · rename_i h0; subst h0; rw [wts_zero]
  · rename_i h0; rw [wts_pos lv h0] at h ⊢; exact Nat.mod_eq_of_lt h
theorem wts_split (lv : Nat) (l : List Itm) (n : Nat) : wts lv l = wts lv (l.take n) + wts lv (l.drop n) := by
  unfold wts
  rw [← List.sum_append, ← List.map_append, List.take_append_drop]
theorem up_told (lv : Nat) (l : List Itm) (h : wts lv l < 18446744073709551616) : told (upS lv l).2 = wts lv l := by
  rw [upS, told_be _ _ (sha_len _) (by rw [count_wts lv l h]; exact h), count_wts lv l h]
theorem level_sum (lv : Nat) : ∀ (k : Nat) (l : List Itm), l.length ≤ k → wts lv l < 18446744073709551616 → ((levelS lv l).1.map fun x => told x.2).sum = wts lv l := by
  intro k
  induction k with
  | zero =>
    intro l hl _
    have e : l = [] := List.eq_nil_of_length_eq_zero (by omega)
    subst e; rfl
  | succ k ih =>
    intro l hl hw
    by_cases h0 : 0 < l.length
    · have hp := part_pos (l.map form) (by simpa using h0)
      have hs := wts_split lv l (partS (l.map form))
      rw [level_cons lv l h0]
      simp only [List.map_cons, List.sum_cons]
      rw [up_told lv _ (by omega), ih _ (by simp; omega) (by omega), ← hs]
    · have e : l = [] := List.eq_nil_of_length_eq_zero (by omega)
      subst e; rfl
theorem told_le_sum (l : List Itm) (x : Itm) (h : x ∈ l) : told x.2 ≤ (l.map fun x => told x.2).sum := by
  induction l with
  | nil => cases h
  | cons y l ih =>
    simp only [List.map_cons, List.sum_cons]
    rcases List.mem_cons.1 h with rfl | h
    · omega
    · have := ih h; omega
end Go.Proofs.Ytidbaagdajkojaa.T08
