/- The order of texts; where a key stands among pairs that rise. -/
import Derived.Test.YteeonfnaikndfaaWSeq
import Derived.Lib.Bytealg
set_option linter.unusedVariables false
set_option linter.unusedSimpArgs false
namespace Go.Proofs.Yteeonfnaikndfaa.Ord
open Go.Proofs.Yteeonfnaikndfaa.Lib Go.Proofs.Yteeonfnaikndfaa.T08 Go.Proofs.Yteeonfnaikndfaa.Itms Go.Proofs.Yteeonfnaikndfaa.WSeq
theorem less_cons (a b : UInt8) (x y : List UInt8) : Op.bytesLess (a :: x) (b :: y) = (decide (a < b) || (a == b && Op.bytesLess x y)) := rfl
theorem lt_trans : ∀ (x y z : List UInt8), ltS x y = true → ltS y z = true → ltS x z = true
  | _, _, [], _, h => by simp [ltS, Op.bytesLess] at h
  | _, [], _ :: _, h, _ => by simp [ltS, Op.bytesLess] at h
  | [], _ :: _, _ :: _, _, _ => rfl
  | a :: x, b :: y, c :: z, h1, h2 => by
    unfold ltS at *
    rw [less_cons, Bool.or_eq_true, Bool.and_eq_true, decide_eq_true_eq, beq_iff_eq] at *
    rcases h1 with h1 | ⟨rfl, h1⟩
    · rcases h2 with h2 | ⟨rfl, h2⟩
      · exact .inl (UInt8.lt_trans h1 h2)
      · exact .inl h1
    · rcases h2 with h2 | ⟨rfl, h2⟩
      · exact .inl h2
      · exact .inr ⟨rfl, lt_trans x y z h1 h2⟩
theorem lt_irrefl : ∀ (x : List UInt8), ltS x x = false
  | [] => rfl
  | a :: x => by
    have := lt_irrefl x
    unfold ltS at *
    rw [less_cons, this]; simp
theorem cmp_neg : ∀ (x y : List UInt8), decide (Go.Lib.compareBytes x y < 0) = ltS x y
  | [], [] => rfl
  | [], _ :: _ => rfl
  | _ :: _, [] => rfl
  | a :: x, b :: y => by
    have ih := cmp_neg x y
    unfold ltS at *
    rw [less_cons, Go.Lib.compareBytes, ← ih]
    by_cases h1 : a < b
    · rw [if_pos h1, decide_eq_true h1]; rfl
    · rw [if_neg h1, decide_eq_false h1]
      by_cases h2 : b < a
      · have hne : (a == b) = false := beq_eq_false_iff_ne.2 (fun e => by subst e; exact UInt8.lt_irrefl _ h2)
        rw [if_pos h2, hne]; rfl
      · have he : a = b := UInt8.le_antisymm (UInt8.not_lt.1 h2) (UInt8.not_lt.1 h1)
        subst he
        rw [if_neg h2]; simp
theorem okS_take (l : List Itm) (k : Nat) (h : okS l = true) : okS (l.take k) = true := by
  cases hq : okS (l.take k) with
  | true => rfl
  | false => rw [okS_prefix (List.take_prefix k l) hq] at h; cases h
theorem okS_adj (l : List Itm) (h : okS l = true) (i : Nat) (hi : i + 1 < l.length) : ltS (itm l i).1 (itm l (i + 1)).1 = true := by
  have h1 := okS_take l (i + 2) h
  rw [take_itm l (i + 1) hi, okS_snoc, take_itm l i (by omega), isEmpty_snoc, lastS_snoc] at h1
  simp only [Bool.and_eq_true, Bool.false_or] at h1
  exact h1.2
theorem okS_lt (l : List Itm) (h : okS l = true) (i : Nat) : ∀ d, i + d + 1 < l.length → ltS (itm l i).1 (itm l (i + d + 1)).1 = true
  | 0, hd => okS_adj l h i hd
  | d + 1, hd => lt_trans _ _ _ (okS_lt l h i d (by omega)) (okS_adj l h (i + d + 1) (by omega))
/-- before i all keys are less than key; from i on none is -/
def PlaceAt (l : List Itm) (key : List UInt8) (i : Nat) : Prop := i ≤ l.length ∧ (∀ t, t < i → ltS (itm l t).1 key = true) ∧ ∀ t, i ≤ t → t < l.length → ltS (itm l t).1 key = false
theorem place_lo (l : List Itm) (key : List UInt8) (h : okS l = true) (m t : Nat) (hm : m < l.length) (ht : t ≤ m) (hl : ltS (itm l m).1 key = true) : ltS (itm l t).1 key = true := by
  rcases Nat.lt_or_ge t m with h1 | h1
  · have := okS_lt l h t (m - t - 1) (by omega)
    rw [show t + (m - t - 1) + 1 = m by omega] at this
    exact lt_trans _ _ _ this hl
  · obtain rfl : t = m := by omega
    exact hl
theorem place_hi (l : List Itm) (key : List UInt8) (h : okS l = true) (m t : Nat) (hm : m ≤ t) (ht : t < l.length) (hl : ltS (itm l m).1 key = false) : ltS (itm l t).1 key = false := by
  cases hq : ltS (itm l t).1 key with
  | false => rfl
  | true => rw [place_lo l key h t m ht hm hq] at hl; cases hl
theorem place_one (l : List Itm) (key : List UInt8) (i j : Nat) (hi : PlaceAt l key i) (hj : PlaceAt l key j) : i = j := by
  rcases Nat.lt_trichotomy i j with h | h | h
  · have h1 := hj.2.1 i h
    have h2 := hi.2.2 i (Nat.le_refl _) (Nat.lt_of_lt_of_le h hj.1)
    rw [h1] at h2; cases h2
  · exact h
  · have h1 := hi.2.1 j h
    have h2 := hj.2.2 j (Nat.le_refl _) (Nat.lt_of_lt_of_le h hi.1)
    rw [h1] at h2; cases h2
end Go.Proofs.Yteeonfnaikndfaa.Ord
