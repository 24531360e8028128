/- The walks of layer 8: the document's tree of a list of pairs. -/
import Derived.Test.YtoidbgedpakjmaaW08r
import Derived.Test.YtoidbgedpakjmaaW08f
import Derived.Test.YtoidbgedpakjmaaW07r
import Derived.Test.YtoidbgedpakjmaaT08
set_option linter.unusedVariables false
set_option linter.unusedSimpArgs false
namespace Go.Proofs.Ytoidbgedpakjmaa.W08
open Go.RowKit Go.Proofs.Ytoidbgedpakjmaa.Lib Go.Proofs.Ytoidbgedpakjmaa.Sha Go.Proofs.Ytoidbgedpakjmaa.T07 Go.Proofs.Ytoidbgedpakjmaa.T08 Go.Proofs.Ytoidbgedpakjmaa.QTail Go.Proofs.Ytoidbgedpakjmaa.Bld Go.Proofs.Ytoidbgedpakjmaa.Itms Go.Proofs.Ytoidbgedpakjmaa.W01 Go.Proofs.Ytoidbgedpakjmaa.W07 Go.Proofs.Ytoidbgedpakjmaa.WSeq
attribute [local go_sem] Str_size Str_toList Str_extract Str_append Str_get bt_nn bt_lt List.length_append take_rest sha_len two_len
/-- where the pairs of a round lie: where they lay at the start, or in a row of the call's own, below D -/
def CurOk (w : World) (D : Nat) (W : World) (A' : Option Addr) (c' : Nat) (cur : List Itm) : Prop :=
  Rd w A' (its cur) ∨ (W.ownsRow w.heap.size 51 2 (.slice A' cur.length c') cur.length (its cur) ∧ ∀ a, A' = some a → a.block < D)
theorem CurOk.rd {w : World} {D : Nat} {W : World} {A' : Option Addr} {c' : Nat} {cur : List Itm} (h : CurOk w D W A' c' cur) (hB : Below w.heap.size w W) : Rd W A' (its cur) := by
  rcases h with h | ⟨h, _⟩
  · exact h.below hB
  · obtain ⟨A2, c2, e, _, hr⟩ := Rd.own h
    injection e with e1 e2 e3; subst e1; exact hr
theorem CurOk.below {w : World} {D : Nat} {W W1 : World} {A' : Option Addr} {c' : Nat} {cur : List Itm} (h : CurOk w D W A' c' cur) (hB : Below W.heap.size W W1) : CurOk w D W1 A' c' cur := by
  rcases h with h | ⟨h, h2⟩
  · exact .inl h
  · exact .inr ⟨own_of_below h hB, h2⟩
theorem CurOk.grown {w : World} {D : Nat} {W W1 : World} {A' : Option Addr} {c' : Nat} {cur : List Itm} {ob : Option Nat} (h : CurOk w D W A' c' cur) (hg : W.grownBy W1 ob)
    (hne : W.ownsRow w.heap.size 51 2 (.slice A' cur.length c') cur.length (its cur) → (∀ a, A' = some a → a.block < D) → ∀ k, (Value.slice A' cur.length c').ownBlock = some k → ob ≠ some k) : CurOk w D W1 A' c' cur := by
  rcases h with h | ⟨h, h2⟩
  · exact .inl h
  · exact .inr ⟨own_grown h hg (hne h h2), h2⟩
theorem CurOk.raise {w : World} {D D' : Nat} {W : World} {A' : Option Addr} {c' : Nat} {cur : List Itm} (h : CurOk w D W A' c' cur) (hD : D ≤ D') : CurOk w D' W A' c' cur := by
  rcases h with h | ⟨h, h2⟩
  · exact .inl h
  · exact .inr ⟨h, fun a e => Nat.lt_of_lt_of_le (h2 a e) hD⟩
theorem ti_ritem : TI Try.prog 22 51 2 32 := TI.of Try.underlying22 (by kernel_rfl) (by decide) (by decide)
def nextS (lv : Nat) (l : List Itm) : List UInt8 × List (List UInt8) := ((riseS (lv + 1) (levelS lv l).1).1, (levelS lv l).2 ++ (riseS (lv + 1) (levelS lv l).1).2)
theorem next_one (lv : Nat) (l : List Itm) (h : (levelS lv l).1.length = 1) : nextS lv l = ((itm (levelS lv l).1 0).2.take 32, (levelS lv l).2) := by
  rw [nextS, rise_one _ _ h, List.append_nil]; rfl
theorem next_more (lv : Nat) (l : List Itm) (h : 2 ≤ (levelS lv l).1.length) : nextS lv l = ((nextS (lv + 1) (levelS lv l).1).1, (levelS lv l).2 ++ (nextS (lv + 1) (levelS lv l).1).2) := by
  rw [nextS, rise_more _ _ h]; rfl
theorem tree_next (l : List Itm) (h : l.length ≠ 0) : treeS l = nextS 0 l := by rw [treeS, if_neg h]; rfl
end Go.Proofs.Ytoidbgedpakjmaa.W08
