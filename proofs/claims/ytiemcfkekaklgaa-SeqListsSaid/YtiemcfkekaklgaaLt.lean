/- The order of texts. -/
import Derived.Test.YtiemcfkekaklgaaLib
set_option linter.unusedVariables false
set_option linter.unusedSimpArgs false
namespace Go.Proofs.Ytiemcfkekaklgaa.Lt
open Go.Proofs.Ytiemcfkekaklgaa.Lib
def ltS (a b : List UInt8) : Bool := Op.bytesLess a b
theorem less_cons (a b : UInt8) (x y : List UInt8) : Op.bytesLess (a :: x) (b :: y) = (decide (a < b) || (a == b && Op.bytesLess x y)) := rfl
theorem lt_trans : ∀ (x y z : List UInt8), ltS x y = true → ltS y z = true → ltS x z = true
  | _, _, [], _, h => by simp [ltS, Op.bytesLess] at h
  | _, [], _ :: _, h, _ => by simp [ltS, Op.bytesLess] at h
  | [], _ :: _, _ :: _, _, _ => rfl
  | a :: x, b :: y, c :: z, h1, h2 => by
    unfold ltS at *
    rw [less_cons, Bool.or_eq_true, Bool.and_eq_true, decide_eq_true_eq, beq_iff_eq] at *
    rcases h1 with h1 | ⟨rfl, h1⟩
    · rcases h2 with h2 | ⟨rfl, h2⟩
      · exact .inl (UInt8.lt_trans h1 h2)
      · exact .inl h1
    · rcases h2 with h2 | ⟨rfl, h2⟩
      · exact .inl h2
      · exact .inr ⟨rfl, lt_trans x y z h1 h2⟩
theorem lt_irrefl : ∀ (x : List UInt8), ltS x x = false
  | [] => rfl
  | a :: x => by
    have := lt_irrefl x
    unfold ltS at *
    rw [less_cons, this]; simp
theorem lt_asymm (x y : List UInt8) (h : ltS x y = true) : ltS y x = false := by
  cases hq : ltS y x with
  | false => rfl
  | true => have := lt_trans x y x h hq; rw [lt_irrefl] at this; cases this
theorem lt_total : ∀ (x y : List UInt8), ltS x y = false → ltS y x = false → x = y
  | [], [], _, _ => rfl
  | [], _ :: _, h, _ => by simp [ltS, Op.bytesLess] at h
  | _ :: _, [], _, h => by simp [ltS, Op.bytesLess] at h
  | a :: x, b :: y, h1, h2 => by
    unfold ltS at h1 h2
    rw [less_cons, Bool.or_eq_false_iff, decide_eq_false_iff_not] at h1 h2
    have he : a = b := UInt8.le_antisymm (UInt8.not_lt.1 h2.1) (UInt8.not_lt.1 h1.1)
    subst he
    rw [lt_total x y (by simpa [ltS] using h1.2) (by simpa [ltS] using h2.2)]
/-- cmp.Compare of texts -/
def cmpStr (a b : List UInt8) : Int := if ltS a b then -1 else if ltS b a then 1 else 0
theorem cmpStr_neg (a b : List UInt8) : decide (cmpStr a b < 0) = ltS a b := by
  unfold cmpStr
  cases h : ltS a b with
  | true => rfl
  | false => cases h2 : ltS b a <;> rfl
end Go.Proofs.Ytiemcfkekaklgaa.Lt
