/- Rows of pairs of texts. -/
import Derived.Test.YteeonfnaikndfaaBlk
import Derived.Test.YteeonfnaikndfaaT08
set_option linter.unusedVariables false
set_option linter.unusedSimpArgs false
namespace Go.Proofs.Yteeonfnaikndfaa.Itms
open Go.RowKit Go.Proofs.Yteeonfnaikndfaa.Lib Go.Proofs.Yteeonfnaikndfaa.T08
def its (l : List Itm) : List Value := l.flatMap fun x => [.string (Str x.1), .string (Str x.2)]
theorem its_cons (x : Itm) (l : List Itm) : its (x :: l) = .string (Str x.1) :: .string (Str x.2) :: its l := rfl
theorem its_app (l m : List Itm) : its (l ++ m) = its l ++ its m := by simp [its]
theorem its_len (l : List Itm) : (its l).length = 2 * l.length := by
  induction l with
  | nil => rfl
  | cons x l ih => rw [its_cons]; simp only [List.length_cons, ih]; omega
def itm (l : List Itm) (i : Nat) : Itm := l.getD i ([], [])
theorem itm_eq (l : List Itm) (i : Nat) (h : i < l.length) : itm l i = l[i] := by simp [itm, List.getD_eq_getElem?_getD, List.getElem?_eq_getElem h]
theorem take_itm (l : List Itm) (k : Nat) (h : k < l.length) : l.take (k + 1) = l.take k ++ [itm l k] := by
  rw [itm_eq l k h, List.take_add_one, List.getElem?_eq_getElem h]; rfl
theorem its_get (l : List Itm) : ∀ i, i < l.length → (its l)[2 * i]? = some (.string (Str (itm l i).1)) ∧ (its l)[2 * i + 1]? = some (.string (Str (itm l i).2)) := by
  induction l with
  | nil => intro i h; simp at h
  | cons x l ih =>
    intro i h
    rw [its_cons]
    cases i with
    | zero => exact ⟨rfl, rfl⟩
    | succ i =>
      have := ih i (by simpa using h)
      rw [show 2 * (i + 1) = 2 * i + 2 by omega]
      simpa [itm] using this
theorem its_drop (l : List Itm) : ∀ k, its (l.drop k) = (its l).drop (2 * k) := by
  induction l with
  | nil => intro k; simp [its]
  | cons x l ih =>
    intro k
    cases k with
    | zero => simp
    | succ k => rw [List.drop_succ_cons, ih, its_cons, show 2 * (k + 1) = 2 * k + 2 by omega]; rfl
theorem its_take (l : List Itm) : ∀ k, its (l.take k) = (its l).take (2 * k) := by
  induction l with
  | nil => intro k; simp [its]
  | cons x l ih =>
    intro k
    cases k with
    | zero => simp [its]
    | succ k => rw [List.take_succ_cons, its_cons, ih, its_cons, show 2 * (k + 1) = 2 * k + 2 by omega]; rfl
theorem its_one (l : List Itm) : ∀ u ∈ its l, u.oneCell' = true := by
  induction l with
  | nil => intro u h; simp [its] at h
  | cons x l ih =>
    intro u h
    rw [its_cons] at h
    rcases List.mem_cons.1 h with rfl | h
    · rfl
    · rcases List.mem_cons.1 h with rfl | h
      · rfl
      · exact ih u h
theorem rd_itm {w : World} {A : Option Addr} {l : List Itm} (h : Rd w A (its l)) {j : Nat} (hj : j < l.length) : ∃ b o, A = some ⟨b, o, none⟩ ∧ w.cell? ⟨b, o + j * 2, none⟩ = some (.string (Str (itm l j).1)) ∧ w.cell? ⟨b, o + j * 2 + 1, none⟩ = some (.string (Str (itm l j).2)) := by
  obtain ⟨g1, g2⟩ := its_get l j hj
  rcases h with h | ⟨b, o, rfl, h⟩
  · rw [h] at g1; simp at g1
  · exact ⟨b, o, rfl, by rw [Nat.mul_comm j 2]; exact h _ _ g1, by rw [Nat.mul_comm j 2, Nat.add_assoc]; exact h _ _ g2⟩
theorem rd_dropN {w : World} {b o : Nat} {xs : List Value} (h : Rd w (some ⟨b, o, none⟩) xs) (n : Nat) : Rd w (some ⟨b, o + n, none⟩) (xs.drop n) := by
  rcases h with h | ⟨b', o', e, h⟩
  · exact .inl (by rw [h, List.drop_nil])
  · injection e with e; injection e with e1 e2; subst e1; subst e2
    refine .inr ⟨_, _, rfl, fun j x hj => ?_⟩
    rw [List.getElem?_drop] at hj
    rw [Nat.add_assoc]
    exact h _ _ hj
end Go.Proofs.Yteeonfnaikndfaa.Itms
