/- What seq.Sorted compares by, and the two instances of seq.Sorted. -/
import Derived.Test.YtiemcfkekaklgaaSortI
import Derived.Test.YtiemcfkekaklgaaStabJ
set_option linter.unusedVariables false
set_option linter.unusedSimpArgs false
namespace Go.Proofs.Ytiemcfkekaklgaa.W02
open Go.RowKit Go.Shelf Go.Proofs.Ytiemcfkekaklgaa.Lib Go.Proofs.Ytiemcfkekaklgaa.Run Go.Proofs.Ytiemcfkekaklgaa.Stab Go.Proofs.Ytiemcfkekaklgaa.QTail Go.Proofs.Ytiemcfkekaklgaa.Lt
attribute [local go_sem] Str_toList
set_option maxRecDepth 100000 in
theorem nan_str (s : List UInt8) (w : World) : Calls Try.prog 52 #[.string (Str s)] w fun e w' => e = .returned (.bool false) ∧ w' = w := by
  go_enter Try.func52, Try.ntmps52
  go_wp2
  go_ret
  exact ⟨by simp, rfl⟩
set_option maxRecDepth 100000 in
theorem nan_int (s : Int) (w : World) : Calls Try.prog 54 #[.int .i64 s] w fun e w' => e = .returned (.bool false) ∧ w' = w := by
  go_enter Try.func54, Try.ntmps54
  go_wp2
  go_ret
  exact ⟨by simp, rfl⟩
set_option maxRecDepth 100000 in
theorem compare_str (a b : List UInt8) (w : World) : Calls Try.prog 35 #[.string (Str a), .string (Str b)] w fun e w' => e = .returned (.int .i64 (cmpStr a b)) ∧ w' = w := by
  go_enter Try.func35, Try.ntmps35
  go_wp2_with fail
  refine (nan_str a w).mono ?_; rintro e w1 ⟨rfl, rfl⟩
  go_wp2_with fail
  refine (nan_str b w1).mono ?_; rintro e w2 ⟨rfl, rfl⟩
  cases h1 : ltS a b with
  | true =>
    have q : Op.bytesLess a b = true := h1
    go_wp2
    go_ret
    exact ⟨by unfold cmpStr; rw [h1]; rfl, rfl⟩
  | false =>
    have q : Op.bytesLess a b = false := h1
    by_cases he : a = b
    · subst he
      have q2 : (a == a) = true := by simp
      go_wp2
      go_ret
      exact ⟨by unfold cmpStr; rw [h1]; rfl, rfl⟩
    · have q2 : (a == b) = false := beq_eq_false_iff_ne.2 he
      have h2 : ltS b a = true := by
        cases h2 : ltS b a with
        | true => rfl
        | false => exact absurd (lt_total a b h1 h2) he
      have H2 := hid h2
      clear h2 he
      go_wp2
      go_ret
      exact ⟨by unfold cmpStr; rw [h1, H2.out]; rfl, rfl⟩
def cmpInt (a b : Int) : Int := if a < b then -1 else if b < a then 1 else 0
set_option maxRecDepth 100000 in
theorem compare_int (a b : Int) (w : World) : Calls Try.prog 48 #[.int .i64 a, .int .i64 b] w fun e w' => e = .returned (.int .i64 (cmpInt a b)) ∧ w' = w := by
  go_enter Try.func48, Try.ntmps48
  go_wp2_with fail
  refine (nan_int a w).mono ?_; rintro e w1 ⟨rfl, rfl⟩
  go_wp2_with fail
  refine (nan_int b w1).mono ?_; rintro e w2 ⟨rfl, rfl⟩
  by_cases h1 : a < b
  · have q : decide (a < b) = true := decide_eq_true h1
    go_wp2
    go_ret
    exact ⟨by unfold cmpInt; rw [if_pos h1]; rfl, rfl⟩
  · have q : decide (a < b) = false := decide_eq_false h1
    by_cases h2 : b < a
    · have q2 : decide (b < a) = true := decide_eq_true h2
      go_wp2
      go_ret
      exact ⟨by unfold cmpInt; rw [if_neg (by omega), if_pos (by omega)]; rfl, rfl⟩
    · have q2 : decide (b < a) = false := decide_eq_false h2
      go_wp2
      go_ret
      exact ⟨by unfold cmpInt; rw [if_neg (by omega), if_neg (by omega)]; rfl, rfl⟩
def cmpI (x y : Prs.Itm) : Int := cmpStr x.1 y.1
def cmpJ (x y : PrJ.Itm) : Int := cmpInt x.1 y.1
def eqI (x y : Prs.Itm) : Bool := x.1 == y.1
def eqJ (x y : PrJ.Itm) : Bool := x.1 == y.1
set_option maxRecDepth 100000 in
theorem cmpI_ok : StabI.CmpOk 34 cmpI := by
  intro x y w
  go_enter Try.func34, Try.ntmps34
  go_wp2_with fail
  refine (compare_str x.1 y.1 _).mono ?_; rintro e w1 ⟨rfl, rfl⟩
  go_wp2
  go_ret
  exact ⟨rfl, below_al (below_al (below_rf w) _) _⟩
set_option maxRecDepth 100000 in
theorem cmpJ_ok : StabJ.CmpOk 47 cmpJ := by
  intro x y w
  go_enter Try.func47, Try.ntmps47
  go_wp2_with fail
  refine (compare_int x.1 y.1 _).mono ?_; rintro e w1 ⟨rfl, rfl⟩
  go_wp2
  go_ret
  exact ⟨rfl, below_al (below_al (below_rf w) _) _⟩
set_option maxRecDepth 100000 in
theorem eqI_ok : StabI.EqOk 37 eqI := by
  intro x y w
  go_enter Try.func37, Try.ntmps37
  go_wp2
  go_ret
  exact ⟨rfl, below_al (below_al (below_rf w) _) _⟩
set_option maxRecDepth 100000 in
theorem eqJ_ok : StabJ.EqOk 50 eqJ := by
  intro x y w
  go_enter Try.func50, Try.ntmps50
  go_wp2
  go_ret
  exact ⟨rfl, below_al (below_al (below_rf w) _) _⟩
end Go.Proofs.Ytiemcfkekaklgaa.W02
