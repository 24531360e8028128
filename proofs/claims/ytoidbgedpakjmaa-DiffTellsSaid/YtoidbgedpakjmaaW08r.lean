/- The walks of layer 8: the document's items, nodes, counts, right pairs. The walks of layer 8: the document's counts and right pairs. The walks of layer 8: the document's right pairs. -/
import Derived.Test.YtoidbgedpakjmaaW08f
set_option linter.unusedVariables false
set_option linter.unusedSimpArgs false
namespace Go.Proofs.Ytoidbgedpakjmaa.W08
open Go.RowKit Go.Proofs.Ytoidbgedpakjmaa.Lib Go.Proofs.Ytoidbgedpakjmaa.Sha Go.Proofs.Ytoidbgedpakjmaa.T07 Go.Proofs.Ytoidbgedpakjmaa.T08 Go.Proofs.Ytoidbgedpakjmaa.QTail Go.Proofs.Ytoidbgedpakjmaa.Bld Go.Proofs.Ytoidbgedpakjmaa.Itms Go.Proofs.Ytoidbgedpakjmaa.W07 Go.Proofs.Ytoidbgedpakjmaa.WSeq
attribute [local go_sem] Str_size Str_toList Str_extract Str_append Str_get bt_nn bt_lt List.length_append take_rest sha_len two_len
end Go.Proofs.Ytoidbgedpakjmaa.W08
namespace Go.Proofs.Ytoidbgedpakjmaa.W08
open Go.RowKit Go.Proofs.Ytoidbgedpakjmaa.Lib Go.Proofs.Ytoidbgedpakjmaa.Sha Go.Proofs.Ytoidbgedpakjmaa.T07 Go.Proofs.Ytoidbgedpakjmaa.T08 Go.Proofs.Ytoidbgedpakjmaa.QTail Go.Proofs.Ytoidbgedpakjmaa.Bld Go.Proofs.Ytoidbgedpakjmaa.Itms Go.Proofs.Ytoidbgedpakjmaa.W07 Go.Proofs.Ytoidbgedpakjmaa.WSeq
attribute [local go_sem] Str_size Str_toList Str_extract Str_append Str_get bt_nn bt_lt List.length_append take_rest sha_len two_len
theorem toldGo_mono (v : List UInt8) (k : Nat) : toldGo v k ≤ toldGo v (k + 1) := by rw [toldGo]; omega
theorem toldGo_le (v : List UInt8) : ∀ d k, toldGo v k ≤ toldGo v (k + d)
  | 0, k => Nat.le_refl _
  | d + 1, k => Nat.le_trans (toldGo_le v d k) (toldGo_mono v (k + d))
theorem bt_drop' (v : List UInt8) (a i : Nat) : bt (v.drop a) i = bt v (a + i) := by unfold bt; simp [List.getD_eq_getElem?_getD]
theorem sum_le (l : List Itm) (h : ∀ i, i < l.length → told (itm l i).2 ≤ 1099511627776) : ∀ k, k ≤ l.length → ((l.take k).map fun x => told x.2).sum ≤ 1099511627776 * k := by
  intro k
  induction k with
  | zero => intro _; simp
  | succ k ih =>
    intro hk
    have h1 := ih (by omega)
    have h2 := h k (by omega)
    rw [sum_snoc l k (by omega)]
    omega
end Go.Proofs.Ytoidbgedpakjmaa.W08
namespace Go.Proofs.Ytoidbgedpakjmaa.W08
open Go.RowKit Go.Proofs.Ytoidbgedpakjmaa.Lib Go.Proofs.Ytoidbgedpakjmaa.Sha Go.Proofs.Ytoidbgedpakjmaa.T07 Go.Proofs.Ytoidbgedpakjmaa.T08 Go.Proofs.Ytoidbgedpakjmaa.QTail Go.Proofs.Ytoidbgedpakjmaa.Bld Go.Proofs.Ytoidbgedpakjmaa.Itms Go.Proofs.Ytoidbgedpakjmaa.W07 Go.Proofs.Ytoidbgedpakjmaa.WSeq
attribute [local go_sem] Str_size Str_toList Str_extract Str_append Str_get bt_nn bt_lt List.length_append take_rest sha_len two_len
theorem lastS_take (l : List Itm) (k : Nat) (h : k < l.length) : lastS (l.take (k + 1)) = (itm l k).1 := by
  rw [take_itm l k h, lastS_snoc]
theorem take_empty (l : List Itm) (k : Nat) (h : k < l.length) : (l.take k).isEmpty = decide (k = 0) := by
  cases k with
  | zero => simp
  | succ k => rw [take_itm l k (by omega), isEmpty_snoc]; simp
theorem right_take (l : List Itm) (k : Nat) (h : k < l.length) : rightS (l.take (k + 1)) = (rightS (l.take k) && (decide (k = 0) || ltS (itm l (k - 1)).1 (itm l k).1) && !badS (itm l k)) := by
  unfold rightS
  rw [take_itm l k h, okS_snoc, take_empty l k h, List.any_append]
  have e : k = 0 ∨ lastS (l.take k) = (itm l (k - 1)).1 := by
    cases k with
    | zero => exact .inl rfl
    | succ k => exact .inr (lastS_take l k (by omega))
  rcases e with rfl | e
  · simp
  · rw [e]
    cases okS (l.take k) <;> cases (l.take k).any badS <;> cases hb : badS (itm l k) <;> cases (decide (k = 0) || ltS (itm l (k - 1)).1 (itm l k).1) <;> simp [hb]
theorem right_prefix (l : List Itm) (k : Nat) (hf : rightS (l.take k) = false) : rightS l = false := by
  unfold rightS at hf ⊢
  rw [Bool.and_eq_false_iff] at hf ⊢
  rcases hf with h | h
  · exact .inl (okS_prefix (List.take_prefix k l) h)
  · refine .inr ?_
    simp only [Bool.not_eq_false'] at h ⊢
    obtain ⟨x, hx, hb⟩ := List.any_eq_true.1 h
    exact List.any_eq_true.2 ⟨x, List.mem_of_mem_take hx, hb⟩
end Go.Proofs.Ytoidbgedpakjmaa.W08
