/- A region that draws its order, whose operations only read what stood at its start, and whose callees make memory but change nothing that stood there: one walk of the written order serves every order. -/
import Derived.Test.YteeonfnaikndfaaQTail
import Derived.Test.YteeonfnaikndfaaLib
set_option linter.unusedVariables false
namespace Go.Proofs.Yteeonfnaikndfaa.QTail
open Go Go.RowKit Go.Proofs.Yteeonfnaikndfaa.Lib
variable {P : Program} {ops : Array Oper}
theorem wp_region_mild {id : Nat} {Q : Exit → Act → World → Prop} {a : Act} {w : World} {l : List Oper} (B : Nat) (hm : P.follows .mixedOrders = true) (hB : Region.lexB .any l.toArray = true)
    (h : wpQuiet P l.toArray (fun w' => Below B w w') (fun a' => ∀ w', Below B w w' → Q .normal a' w') l a) : (Code.region id l.toArray true).wp P Q a w :=
  wp_region_quiet (C := fun w' => Below B w w') hm hB (below_drewN (Below.refl B w) 1) (by simpa using h)
theorem mild_read {C : World → Prop} {o : Oper} {a : Act} {K : Act → Prop} (hw : Region.wanted o (yielded ops a.tmps) = true)
    (h : ∃ v, (∀ W, C W → (execOp a.eval o).run P W = .ok (.value v) W) ∧ K (a.put o.dst v)) : if Region.wanted o (yielded ops a.tmps) then o.quiet P a C K else K (a.put o.dst undef) := by
  rw [if_pos hw]
  obtain ⟨v, h1, hk⟩ := h
  refine ⟨v, fun W hW => ?_, hk⟩
  unfold Oper.quietAt
  rw [h1 W hW]
  exact ⟨rfl, rfl⟩
theorem mild_call {C : World → Prop} {o : Oper} {a : Act} {K : Act → Prop} (hw : Region.wanted o (yielded ops a.tmps) = true)
    (h : ∃ f args, (∀ W, C W → (execOp a.eval o).run P W = .ok (.enter f args) W) ∧ ∃ v, (∀ W, C W → Calls P f args W fun e w' => e = .returned v ∧ C w') ∧ K (a.put o.dst v)) : if Region.wanted o (yielded ops a.tmps) then o.quiet P a C K else K (a.put o.dst undef) := by
  rw [if_pos hw]
  obtain ⟨f, args, h1, v, hc, hk⟩ := h
  refine ⟨v, fun W hW => ?_, hk⟩
  unfold Oper.quietAt
  rw [h1 W hW]
  exact ⟨rfl, hc W hW⟩
theorem mild_skip {C : World → Prop} {o : Oper} {a : Act} {K : Act → Prop} (hw : Region.wanted o (yielded ops a.tmps) = false) (hk : K (a.put o.dst undef)) : if Region.wanted o (yielded ops a.tmps) then o.quiet P a C K else K (a.put o.dst undef) := by
  rw [if_neg (by rw [hw]; decide)]
  exact hk
theorem wpAny_ctail {C : World → Prop} {Q : Exit → Act → World → Prop} {a : Act} {w : World} {l : List Oper} {listed : Array Bool} (lo n : Nat) (hC : C w) (hln : lo ≤ n) (hB : tailB l.toArray lo n listed = true) (inv0 : HeadInv .any l.toArray n listed)
    (h : wpQuiet P l.toArray C (fun a' => ∀ W, C W → wpList P l.toArray Q (l.drop n) a' W) ((l.take n).drop lo) a) : wpAny P .any l.toArray Q (l.length - lo) listed a w := by
  simp only [tailB, Bool.and_eq_true, decide_eq_true_eq] at hB
  obtain ⟨⟨⟨⟨hsel, hn⟩, hs⟩, hc⟩, hlex⟩ := hB
  have hn' : n < l.length := by simpa using hn
  have htl : ((l.take n).drop lo).length = n - lo := by simp; omega
  have hdl : (l.drop n).length = l.toArray.size - n := by simp
  have H := T_lex (md := .any) (g := l.toArray.size - n) hsel (waits_of hs hc hn) ((l.take n).drop lo) lo listed a (Nat.le_refl _) (fun j hj => by
    rw [htl] at hj
    rw [List.getElem?_drop, List.getElem?_take_of_lt (by omega)]; simp) (by omega) inv0 (by rw [htl]; exact hlex) h
  have := any_of_T (Q' := Q) (g := l.toArray.size - n) (fun listed a' w' hw' hL => by
    have := wpAny_of_seq (md := .any) (Q' := Q) (l.drop n) n listed a' w' (fun j => by simp [List.getElem?_drop]) (by rw [hdl]; exact hL.1) (hL.2 w' hw')
    rwa [hdl] at this) _ _ _ w hC H
  rw [htl, show n - lo + (l.toArray.size - n) = l.length - lo by rw [show l.toArray.size = l.length from rfl]; omega] at this
  exact this
/-- The first operation is a copy, for which the tail need not wait; the head reads, and calls what changes nothing that stood; the tail is walked as written. -/
theorem wp_region_mtail {id : Nat} {Q : Exit → Act → World → Prop} {a : Act} {w : World} {o : Oper} {l : List Oper} (B n : Nat) {v : Value} (hn : 1 ≤ n) (hm : P.follows .mixedOrders = true) (hf : Region.free .any (o :: l).toArray (Array.replicate (l.length + 1) false) 0 = true) (hr : (Region.ready .any (o :: l).toArray (Array.replicate (l.length + 1) false)).contains 0 = true)
    (hB : tailB (o :: l).toArray 1 n ((Array.replicate (l.length + 1) false).setIfInBounds 0 true) = true)
    (hQ : ∀ c a w, Q (.panic c) (a.put o.dst v) w → Q (.panic c) a w) (hy : Yields P (o :: l).toArray o v a)
    (h : wpQuiet P (o :: l).toArray (fun w' => Below B w w') (fun a' => ∀ W, Below B w W → wpList P (o :: l).toArray Q ((o :: l).drop n) a' W) (((o :: l).take n).drop 1) (a.put o.dst v)) : (Code.region id (o :: l).toArray true).wp P Q a w := by
  refine wp_region_any hm ?_
  have hsel : Region.noSelect (o :: l).toArray = true := by
    simp only [tailB, Bool.and_eq_true] at hB
    exact hB.1.1.1.1
  have h0 : HeadInv .any (o :: l).toArray n (Array.replicate (l.length + 1) false) := inv_start (o :: l) n
  refine wpAny_take (i := 0) (oi := o) rfl hsel hf hr hQ hy ?_
  exact wpAny_ctail 1 n (below_drewN (Below.refl B w) 1) hn hB (h0.set (by simpa using hr) (by omega)) h
end Go.Proofs.Yteeonfnaikndfaa.QTail
