/- A region that draws its order, all of whose operations but the last ones read, or call what only draws: one walk of the written order serves every order; what stores stands at the end. The kit has this for callees that leave the very world; here the world may have drawn. A region that draws its order, whose operations only read what stood at its start, and whose callees make memory but change nothing that stood there: one walk of the written order serves every order. -/
import Derived.StillTail
import Derived.StillTailTactics
import Derived.Deep.QuietTactic
import Derived.Test.YtoidbgedpakjmaaLib
set_option linter.unusedVariables false
namespace Go.Proofs.Ytoidbgedpakjmaa.QTail
open Go
variable {P : Program} {ops : Array Oper} {md : Region.Mode} {C : World → Prop}
def AnyT (P : Program) (md : Region.Mode) (ops : Array Oper) (C : World → Prop) (n : Nat) (L : Array Bool → Act → Prop) : Nat → Array Bool → Act → Prop
  | 0, listed, a => L listed a
  | f + 1, listed, a => Region.ready md ops listed ≠ [] ∧ ∀ i ∈ Region.ready md ops listed, i < n ∧ qOp P ops C i (AnyT P md ops C n L f (listed.setIfInBounds i true)) a
theorem any_of_T {n g : Nat} {L : Array Bool → Act → Prop} {Q' : Exit → Act → World → Prop} (hL : ∀ listed a w, C w → L listed a → wpAny P md ops Q' g listed a w) :
    ∀ (f : Nat) (listed : Array Bool) (a : Act) (w : World), C w → AnyT P md ops C n L f listed a → wpAny P md ops Q' (f + g) listed a w := by
  intro f
  induction f with
  | zero => intro listed a w hw h; rw [Nat.zero_add]; exact hL _ _ _ hw h
  | succ f ih =>
    intro listed a w hw h
    rw [Nat.add_right_comm]
    exact ⟨fun h0 => absurd h0 h.1, fun i hi => wpOp_of_qOp hw (fun a' w' hw' k => ih _ a' w' hw' k) (h.2 i hi).2⟩
/-- The tail waits for each operation of the head, from lo on. -/
def Waits (md : Region.Mode) (ops : Array Oper) (lo n : Nat) : Prop :=
  ∀ listed, HeadInv md ops n listed → ∀ i, lo ≤ i → i < n → listed.getD i true = false → ∀ t, n ≤ t → t ∉ Region.ready md ops listed
def sinkFrom (md : Region.Mode) (ops : Array Oper) (lo n : Nat) : Bool :=
  (List.range n).all fun i => decide (i < lo) || (List.range (n + 1)).any fun j => decide (i < j) && Region.waitsFor md ops j i
theorem waits_of {lo n : Nat} (hs : sinkFrom md ops lo n = true) (hc : Region.chainB md ops n = true) (hn : n < ops.size) : Waits md ops lo n := by
  intro listed inv i hlo hi hun t ht hr
  have key : ∀ (d i : Nat), n - i = d → lo ≤ i → i < n → listed.getD i true = false → n ∉ Region.ready md ops listed := by
    intro d
    induction d using Nat.strongRecOn with
    | _ d ih =>
      intro i hd hlo hi hun hr
      obtain ⟨_, ot, hot, hall⟩ := mem_ready.1 hr
      have h1 := List.all_eq_true.1 hs i (List.mem_range.2 hi)
      rw [Bool.or_eq_true] at h1
      rcases h1 with h1 | h1
      · have := of_decide_eq_true h1; omega
      · obtain ⟨j, hj, hj2⟩ := List.any_eq_true.1 h1
        simp only [Bool.and_eq_true, decide_eq_true_eq] at hj2
        obtain ⟨oj, hoj, e, he, hb, hon⟩ := Region.waitsFor_spec hj2.2
        have hjle : j ≤ n := by have := List.mem_range.1 hj; omega
        by_cases hjt : j = n
        · subst hjt
          obtain rfl : oj = ot := Option.some.inj (hoj.symm.trans hot)
          have h2 := hall e he hb
          rw [hon, getD_both hun] at h2
          cases h2
        · cases hl : listed.getD j false with
          | true =>
            have h2 := inv.closed j oj hoj hl e he hb
            rw [hon, getD_both hun] at h2
            cases h2
          | false =>
            have hjs : j < listed.size := by rw [inv.size]; omega
            exact ih (n - j) (by omega) j rfl (by omega) (by omega) (getD_in hjs hl) hr
  by_cases htn : t = n
  · subst htn; exact key _ i rfl hlo hi hun hr
  · obtain ⟨_, ot, hot, hall⟩ := mem_ready.1 hr
    have htlt : t < ops.size := (Array.getElem?_eq_some_iff.1 hot).1
    have h1 := List.all_eq_true.1 hc t (List.mem_range.2 htlt)
    simp only [Bool.or_eq_true, decide_eq_true_eq] at h1
    rcases h1 with h1 | h1
    · omega
    · obtain ⟨o', ho', e, he, hb, hon⟩ := Region.waitsFor_spec h1
      obtain rfl : o' = ot := Option.some.inj (ho'.symm.trans hot)
      have h2 := hall e he hb
      rw [hon, getD_both (inv.tail (t - 1) (by omega) (by omega))] at h2
      cases h2
theorem T_first {lo n i : Nat} {oi : Oper} {v : Value} {L : Array Bool → Act → Prop} (hi : ops[i]? = some oi) (hsel : ∀ (j : Nat) (o : Oper) cs b, ops[j]? = some o → o.op ≠ .select cs b)
    (hwt : Waits md ops lo n) (hlo : lo ≤ i) (hin : i < n)
    (hdone : ∀ listed a, L listed a → ∀ j ∈ Region.ready md ops listed, n ≤ j) (f : Nat) :
    ∀ (listed : Array Bool) (a : Act), HeadInv md ops n listed →
      (∀ j oj, ops[j]? = some oj → j ≠ i → listed.getD j true = false → (∀ e ∈ oj.after, Region.binds md e = true → e.on ≠ i) → oi.apart ops oj = true) →
      i ∈ Region.ready md ops listed → YieldsIn P ops C oi v a →
      AnyT P md ops C n L f (listed.setIfInBounds i true) (a.put oi.dst v) → AnyT P md ops C n L (f + 1) listed a := by
  induction f with
  | zero =>
    intro listed a inv _ hr hy H
    have hun := (mem_ready.1 hr).1
    refine ⟨fun h => (by rw [h] at hr; cases hr), fun j hj => ?_⟩
    have hjn : j < n := Nat.lt_of_not_le fun h => hwt _ inv i hlo hin hun j h hj
    refine ⟨hjn, ?_⟩
    by_cases hji : j = i
    · subst hji; exact hy.qOp hi H
    · have := hdone _ _ H j (ready_mono hj hji)
      omega
  | succ f ih =>
    intro listed a inv hfree hr hy H
    have hun := (mem_ready.1 hr).1
    refine ⟨fun h => (by rw [h] at hr; cases hr), fun j hj => ?_⟩
    have hjn : j < n := Nat.lt_of_not_le fun h => hwt _ inv i hlo hin hun j h hj
    refine ⟨hjn, ?_⟩
    by_cases hji : j = i
    · subst hji; exact hy.qOp hi H
    · have h1 := (H.2 j (ready_mono hj hji)).2
      obtain ⟨hjun, oj, hoj, hall⟩ := mem_ready.1 hj
      have hnot : ∀ e ∈ oj.after, Region.binds md e = true → e.on ≠ i := by
        intro e he hb heq
        have k := hall e he hb
        rw [heq, getD_both hun] at k
        cases k
      have h2 := qOp_put hoj (hfree j oj hoj hji hjun hnot) (fun cs b => hsel i oi cs b hi) (fun cs b => hsel j oj cs b hoj) hy h1
      refine qOp_mono (fun a' h3 => ih (listed.setIfInBounds j true) a' (inv.set hj hjn) (fun k ok hk hki hun' hno => hfree k ok hk hki ?_ hno) (ready_mono hr (Ne.symm hji)) h3.1 ?_) h2
      · by_cases hjk : j = k
        · subst hjk; exact hjun
        · rwa [getD_set_ne true hjk] at hun'
      · rw [Array.setIfInBounds_comm _ _ hji]
        exact h3.2
theorem T_lex {lo n g : Nat} {Lq : Act → Prop} (hsel : Region.noSelect ops = true) (hwt : Waits md ops lo n) :
    ∀ (l : List Oper) (k : Nat) (listed : Array Bool) (a : Act), lo ≤ k → (∀ j, j < l.length → l[j]? = ops[k + j]?) → k + l.length = n → HeadInv md ops n listed →
    Region.lexHead md ops g l.length k listed = true → wpQuiet P ops C Lq l a →
    AnyT P md ops C n (fun listed' a' => Region.seqB md ops g n listed' = true ∧ Lq a') l.length listed a := by
  intro l
  induction l with
  | nil =>
    intro k listed a _ _ hk _ hB h
    obtain rfl : k = n := by simpa using hk
    exact ⟨by simpa [Region.lexHead] using hB, h⟩
  | cons o l ih =>
    intro k listed a hlo hl hk inv hB h
    have h0 : ops[k]? = some o := by simpa using (hl 0 (by simp)).symm
    simp only [List.length_cons, Region.lexHead, Bool.and_eq_true] at hB
    obtain ⟨⟨hr, hf⟩, hB'⟩ := hB
    have hkn : k < n := by simp only [List.length_cons] at hk; omega
    have hr' : k ∈ Region.ready md ops listed := by simpa using hr
    have hst : qOp P ops C k (wpQuiet P ops C Lq l) a := by unfold qOp; simp only [h0]; exact h
    obtain ⟨v, hy, hK⟩ := yieldsIn_of_qOp h0 hst
    refine T_first h0 (Region.noSelect_spec hsel) hwt hlo hkn (fun listed' a' hL => seqB_ready hL.1) l.length listed a inv (Region.free_spec h0 hf) hr' hy (ih (k + 1) _ _ (by omega) (fun j hj => ?_) (by simp only [List.length_cons] at hk; omega) (inv.set hr' hkn) hB' hK)
    have := hl (j + 1) (by simp; omega)
    simpa [Nat.add_assoc, Nat.add_comm 1 j] using this
/-- may the tail, from n on, be walked as written, behind a head that only reads (its first lo operations are done) -/
def tailB (ops : Array Oper) (lo n : Nat) (listed : Array Bool) : Bool :=
  Region.noSelect ops && decide (n < ops.size) && sinkFrom .any ops lo n && Region.chainB .any ops n && Region.lexHead .any ops (ops.size - n) (n - lo) lo listed
theorem wpAny_qtail {Q : Exit → Act → World → Prop} {a : Act} {w : World} {l : List Oper} {listed : Array Bool} (lo n : Nat) (hln : lo ≤ n) (hB : tailB l.toArray lo n listed = true) (inv0 : HeadInv .any l.toArray n listed)
    (h : wpQuiet P l.toArray (fun w' => ∃ k, w' = w.drewN k) (fun a' => ∀ k, wpList P l.toArray Q (l.drop n) a' (w.drewN k)) ((l.take n).drop lo) a) : wpAny P .any l.toArray Q (l.length - lo) listed a (w.drewN 1) := by
  simp only [tailB, Bool.and_eq_true, decide_eq_true_eq] at hB
  obtain ⟨⟨⟨⟨hsel, hn⟩, hs⟩, hc⟩, hlex⟩ := hB
  have hn' : n < l.length := by simpa using hn
  have htl : ((l.take n).drop lo).length = n - lo := by simp; omega
  have hdl : (l.drop n).length = l.toArray.size - n := by simp
  have H := T_lex (md := .any) (g := l.toArray.size - n) hsel (waits_of hs hc hn) ((l.take n).drop lo) lo listed a (Nat.le_refl _) (fun j hj => by
    rw [htl] at hj
    rw [List.getElem?_drop, List.getElem?_take_of_lt (by omega)]; simp) (by omega) inv0 (by rw [htl]; exact hlex) h
  have := any_of_T (Q' := Q) (g := l.toArray.size - n) (fun listed a' w' hw' hL => by
    obtain ⟨k, rfl⟩ := hw'
    have := wpAny_of_seq (md := .any) (Q' := Q) (l.drop n) n listed a' (w.drewN k) (fun j => by simp [List.getElem?_drop]) (by rw [hdl]; exact hL.1) (hL.2 k)
    rwa [hdl] at this) _ _ _ (w.drewN 1) ⟨1, rfl⟩ H
  rw [htl, show n - lo + (l.toArray.size - n) = l.length - lo by rw [show l.toArray.size = l.length from rfl]; omega] at this
  exact this
theorem inv_start (l : List Oper) (n : Nat) : HeadInv .any l.toArray n (Array.replicate l.toArray.size false) :=
  ⟨by simp, fun j oj _ hl => (by rw [getD_replicate_false] at hl; cases hl), fun t _ ht => getD_in (by simpa using ht) (getD_replicate_false _ _)⟩
/-- The head (its first n operations) is quiet in the class; the tail is walked as it is written, from every world of the class. -/
theorem wp_region_qtail {id : Nat} {Q : Exit → Act → World → Prop} {a : Act} {w : World} {l : List Oper} (n : Nat) (hm : P.follows .mixedOrders = true) (hB : tailB l.toArray 0 n (Array.replicate l.toArray.size false) = true)
    (h : wpQuiet P l.toArray (fun w' => ∃ k, w' = w.drewN k) (fun a' => ∀ k, wpList P l.toArray Q (l.drop n) a' (w.drewN k)) (l.take n) a) : (Code.region id l.toArray true).wp P Q a w :=
  wp_region_any hm (wpAny_qtail (w := w) 0 n (Nat.zero_le _) hB (inv_start l n) h)
/-- The first operation is a copy, for which the tail need not wait; then as before. -/
theorem wp_region_mqtail {id : Nat} {Q : Exit → Act → World → Prop} {a : Act} {w : World} {o : Oper} {l : List Oper} (n : Nat) {v : Value} (hn : 1 ≤ n) (hm : P.follows .mixedOrders = true) (hf : Region.free .any (o :: l).toArray (Array.replicate (l.length + 1) false) 0 = true) (hr : (Region.ready .any (o :: l).toArray (Array.replicate (l.length + 1) false)).contains 0 = true)
    (hB : tailB (o :: l).toArray 1 n ((Array.replicate (l.length + 1) false).setIfInBounds 0 true) = true)
    (hQ : ∀ c a w, Q (.panic c) (a.put o.dst v) w → Q (.panic c) a w) (hy : Yields P (o :: l).toArray o v a)
    (h : wpQuiet P (o :: l).toArray (fun w' => ∃ k, w' = w.drewN k) (fun a' => ∀ k, wpList P (o :: l).toArray Q ((o :: l).drop n) a' (w.drewN k)) (((o :: l).take n).drop 1) (a.put o.dst v)) : (Code.region id (o :: l).toArray true).wp P Q a w := by
  refine wp_region_any hm ?_
  have hsel : Region.noSelect (o :: l).toArray = true := by
    simp only [tailB, Bool.and_eq_true] at hB
    exact hB.1.1.1.1
  have h0 : HeadInv .any (o :: l).toArray n (Array.replicate (l.length + 1) false) := inv_start (o :: l) n
  refine wpAny_take (i := 0) (oi := o) rfl hsel hf hr hQ hy ?_
  exact wpAny_qtail (w := w) 1 n hn hB (h0.set (by simpa using hr) (by omega)) h
end Go.Proofs.Ytoidbgedpakjmaa.QTail
namespace Go.Proofs.Ytoidbgedpakjmaa.QTail
open Go Go.RowKit Go.Proofs.Ytoidbgedpakjmaa.Lib
variable {P : Program} {ops : Array Oper}
theorem wp_region_mild {id : Nat} {Q : Exit → Act → World → Prop} {a : Act} {w : World} {l : List Oper} (B : Nat) (hm : P.follows .mixedOrders = true) (hB : Region.lexB .any l.toArray = true)
    (h : wpQuiet P l.toArray (fun w' => Below B w w') (fun a' => ∀ w', Below B w w' → Q .normal a' w') l a) : (Code.region id l.toArray true).wp P Q a w :=
  wp_region_quiet (C := fun w' => Below B w w') hm hB (below_drewN (Below.refl B w) 1) (by simpa using h)
theorem mild_read {C : World → Prop} {o : Oper} {a : Act} {K : Act → Prop} (hw : Region.wanted o (yielded ops a.tmps) = true)
    (h : ∃ v, (∀ W, C W → (execOp a.eval o).run P W = .ok (.value v) W) ∧ K (a.put o.dst v)) : if Region.wanted o (yielded ops a.tmps) then o.quiet P a C K else K (a.put o.dst undef) := by
  rw [if_pos hw]
  obtain ⟨v, h1, hk⟩ := h
  refine ⟨v, fun W hW => ?_, hk⟩
  unfold Oper.quietAt
  rw [h1 W hW]
  exact ⟨rfl, rfl⟩
theorem mild_call {C : World → Prop} {o : Oper} {a : Act} {K : Act → Prop} (hw : Region.wanted o (yielded ops a.tmps) = true)
    (h : ∃ f args, (∀ W, C W → (execOp a.eval o).run P W = .ok (.enter f args) W) ∧ ∃ v, (∀ W, C W → Calls P f args W fun e w' => e = .returned v ∧ C w') ∧ K (a.put o.dst v)) : if Region.wanted o (yielded ops a.tmps) then o.quiet P a C K else K (a.put o.dst undef) := by
  rw [if_pos hw]
  obtain ⟨f, args, h1, v, hc, hk⟩ := h
  refine ⟨v, fun W hW => ?_, hk⟩
  unfold Oper.quietAt
  rw [h1 W hW]
  exact ⟨rfl, hc W hW⟩
theorem mild_skip {C : World → Prop} {o : Oper} {a : Act} {K : Act → Prop} (hw : Region.wanted o (yielded ops a.tmps) = false) (hk : K (a.put o.dst undef)) : if Region.wanted o (yielded ops a.tmps) then o.quiet P a C K else K (a.put o.dst undef) := by
  rw [if_neg (by rw [hw]; decide)]
  exact hk
theorem wpAny_ctail {C : World → Prop} {Q : Exit → Act → World → Prop} {a : Act} {w : World} {l : List Oper} {listed : Array Bool} (lo n : Nat) (hC : C w) (hln : lo ≤ n) (hB : tailB l.toArray lo n listed = true) (inv0 : HeadInv .any l.toArray n listed)
    (h : wpQuiet P l.toArray C (fun a' => ∀ W, C W → wpList P l.toArray Q (l.drop n) a' W) ((l.take n).drop lo) a) : wpAny P .any l.toArray Q (l.length - lo) listed a w := by
  simp only [tailB, Bool.and_eq_true, decide_eq_true_eq] at hB
  obtain ⟨⟨⟨⟨hsel, hn⟩, hs⟩, hc⟩, hlex⟩ := hB
  have hn' : n < l.length := by simpa using hn
  have htl : ((l.take n).drop lo).length = n - lo := by simp; omega
  have hdl : (l.drop n).length = l.toArray.size - n := by simp
  have H := T_lex (md := .any) (g := l.toArray.size - n) hsel (waits_of hs hc hn) ((l.take n).drop lo) lo listed a (Nat.le_refl _) (fun j hj => by
    rw [htl] at hj
    rw [List.getElem?_drop, List.getElem?_take_of_lt (by omega)]; simp) (by omega) inv0 (by rw [htl]; exact hlex) h
  have := any_of_T (Q' := Q) (g := l.toArray.size - n) (fun listed a' w' hw' hL => by
    have := wpAny_of_seq (md := .any) (Q' := Q) (l.drop n) n listed a' w' (fun j => by simp [List.getElem?_drop]) (by rw [hdl]; exact hL.1) (hL.2 w' hw')
    rwa [hdl] at this) _ _ _ w hC H
  rw [htl, show n - lo + (l.toArray.size - n) = l.length - lo by rw [show l.toArray.size = l.length from rfl]; omega] at this
  exact this
/-- The first operation is a copy, for which the tail need not wait; the head reads, and calls what changes nothing that stood; the tail is walked as written. -/
theorem wp_region_mtail {id : Nat} {Q : Exit → Act → World → Prop} {a : Act} {w : World} {o : Oper} {l : List Oper} (B n : Nat) {v : Value} (hn : 1 ≤ n) (hm : P.follows .mixedOrders = true) (hf : Region.free .any (o :: l).toArray (Array.replicate (l.length + 1) false) 0 = true) (hr : (Region.ready .any (o :: l).toArray (Array.replicate (l.length + 1) false)).contains 0 = true)
    (hB : tailB (o :: l).toArray 1 n ((Array.replicate (l.length + 1) false).setIfInBounds 0 true) = true)
    (hQ : ∀ c a w, Q (.panic c) (a.put o.dst v) w → Q (.panic c) a w) (hy : Yields P (o :: l).toArray o v a)
    (h : wpQuiet P (o :: l).toArray (fun w' => Below B w w') (fun a' => ∀ W, Below B w W → wpList P (o :: l).toArray Q ((o :: l).drop n) a' W) (((o :: l).take n).drop 1) (a.put o.dst v)) : (Code.region id (o :: l).toArray true).wp P Q a w := by
  refine wp_region_any hm ?_
  have hsel : Region.noSelect (o :: l).toArray = true := by
    simp only [tailB, Bool.and_eq_true] at hB
    exact hB.1.1.1.1
  have h0 : HeadInv .any (o :: l).toArray n (Array.replicate (l.length + 1) false) := inv_start (o :: l) n
  refine wpAny_take (i := 0) (oi := o) rfl hsel hf hr hQ hy ?_
  exact wpAny_ctail 1 n (below_drewN (Below.refl B w) 1) hn hB (h0.set (by simpa using hr) (by omega)) h
end Go.Proofs.Ytoidbgedpakjmaa.QTail
