/- A region that draws its order, within a round of a loop over a run: all but the last operations read or call quietly; the tail (a call of yield, a store) is walked as written. The kit's laws that take an operation first ask for a fence without a round. A region that draws its order: all operations but one read, or call what changes nothing that stood; one stores into a cell that no other one reads. One walk of the written order serves every order. (D: what holds of the world, ahead of the store and behind it.) -/
import Derived.Test.YtoidbgedpakjmaaMild
import Derived.OrdersIn
import Derived.TacticsIn
import Derived.RangeFuncCalls
import Derived.Test.YtoidbgedpakjmaaRun
set_option linter.unusedVariables false
set_option linter.unusedSimpArgs false
namespace Go.Proofs.Ytoidbgedpakjmaa.QTail
open Go Go.RowKit
variable {P : Program} {ops : Array Oper} {md : Region.Mode} {C : World → Prop}
def NoDefer (ops : Array Oper) : Bool := ops.all fun o => match o.op with | .defer _ => false | _ => true
theorem noDefer_at {ops : Array Oper} (h : NoDefer ops = true) {i : Nat} {o : Oper} (ho : ops[i]? = some o) : ∀ c, o.op ≠ .defer c := by
  intro c e
  unfold NoDefer at h
  rw [Array.all_eq_true] at h
  obtain ⟨hlt, he⟩ := Array.getElem?_eq_some_iff.1 ho
  have := h i hlt
  rw [he, e] at this
  cases this
theorem rowsIn_wide' {n : Nat} {row : String} {args : Array Value} {w : World} {R : Value → World → Prop} {r : Nat} (h : Rows P row args w R) : RowsIn (Fence.wide.inRound r) n P row args w R :=
  fun c cs _ => let ⟨v, w', hr, s⟩ := h c cs; ⟨v, w', hr, (show StepsIn (Machine.fenced P Fence.wide) P _ _ from stepsIn_wide.2 s)⟩
theorem oper_in {o : Oper} {a : Act} {w : World} {K : Act → World → Prop} {Q : Exit → Act → World → Prop} {r n : Nat} (hd : ∀ c, o.op ≠ .defer c) (h : o.wp P a w K Q) : o.wpIn (Fence.wide.inRound r) n P a w K Q := by
  refine ⟨fun _ _ => trivial, ?_⟩
  rw [Oper.semAt_eq _ _ _ hd]
  unfold Oper.wp at h
  generalize (execOp a.eval o).run P w = res at *
  cases res with
  | ok nx w' =>
    cases nx with
    | value v => exact h
    | skip => exact h
    | defer d => exact h
    | enter f args => exact ⟨fun e => by simp [Fence.wide] at e, CallsIn.inRound r (callsIn_wide.2 h)⟩
    | row row args => exact ⟨fun e => by simp [Fence.wide] at e, rowsIn_wide' h⟩
    | _ => exact h.elim
  | halt x w' =>
    cases x <;> exact h
theorem wpOpIn_of_qOp {i : Nat} {a : Act} {K : Act → Prop} {K' : Act → World → Prop} {Q' : Exit → Act → World → Prop} {w : World} {r n : Nat} (hnd : NoDefer ops = true) (hC : C w) (h : ∀ a w', C w' → K a → K' a w') (hh : qOp P ops C i K a) : wpOpIn (Fence.wide.inRound r) n P ops Q' i K' a w := by
  unfold qOp at hh
  unfold wpOpIn
  split
  · rename_i ho; simp only [ho] at hh; exact h _ _ hC hh
  · rename_i o ho
    simp only [ho] at hh
    split
    · rename_i hw; simp only [hw, if_true] at hh; exact oper_in (noDefer_at hnd ho) (Oper.wp_of_quiet hC h hh)
    · rename_i hw; simp only [hw] at hh; exact ⟨fun _ _ => trivial, h _ _ hC hh⟩
theorem anyIn_of_T {n g : Nat} {L : Array Bool → Act → Prop} {Q' : Exit → Act → World → Prop} {r m : Nat} (hnd : NoDefer ops = true) (hL : ∀ listed a w, C w → L listed a → wpAnyIn (Fence.wide.inRound r) m P md ops Q' g listed a w) :
    ∀ (f : Nat) (listed : Array Bool) (a : Act) (w : World), C w → AnyT P md ops C n L f listed a → wpAnyIn (Fence.wide.inRound r) m P md ops Q' (f + g) listed a w := by
  intro f
  induction f with
  | zero => intro listed a w hw h; rw [Nat.zero_add]; exact hL _ _ _ hw h
  | succ f ih =>
    intro listed a w hw h
    rw [Nat.add_right_comm]
    exact ⟨fun h0 => absurd h0 h.1, fun i hi => wpOpIn_of_qOp hnd hw (fun a' w' hw' k => ih _ a' w' hw' k) (h.2 i hi).2⟩
theorem wpAnyIn_of_seq {F : Fence} {m : Nat} {Q' : Exit → Act → World → Prop} : ∀ (l : List Oper) (k : Nat) (listed : Array Bool) (a : Act) (w : World), (∀ j, l[j]? = ops[k + j]?) →
    Region.seqB md ops l.length k listed = true → wpListIn F m P ops Q' l a w → wpAnyIn F m P md ops Q' l.length listed a w
  | [], _, _, _, _, _, hB, h => ⟨by simpa [Region.seqB] using hB, h⟩
  | o :: l, k, listed, a, w, hl, hB, h => by
    have h0 : ops[k]? = some o := by simpa using (hl 0).symm
    simp only [List.length_cons, Region.seqB, Bool.and_eq_true, decide_eq_true_eq] at hB
    refine ⟨fun h1 => (by rw [hB.1] at h1; cases h1), fun i hi => ?_⟩
    rw [hB.1] at hi
    have hik : i = k := by simpa using hi
    subst hik
    have hw : wpOpIn F m P ops Q' i (wpListIn F m P ops Q' l) a w := by unfold wpOpIn; simp only [h0]; exact h
    exact wpOpIn_mono (fun a' w' h' => wpAnyIn_of_seq l (i + 1) _ a' w' (fun j => by have := hl (j + 1); simpa [Nat.add_assoc, Nat.add_comm 1 j] using this) hB.2 h') hw
/-- The head (its first n operations) keeps to the class; the tail is walked as it is written, from every world of the class. -/
theorem wpIn_region_ctail {id : Nat} {Q : Exit → Act → World → Prop} {a : Act} {w : World} {l : List Oper} {r m : Nat} (C : World → Prop) (n : Nat) (hC : C w.drew) (hm : P.follows .mixedOrders = true) (hnd : NoDefer l.toArray = true) (hB : tailB l.toArray 0 n (Array.replicate l.toArray.size false) = true)
    (h : wpQuiet P l.toArray C (fun a' => ∀ W, C W → wpListIn (Fence.wide.inRound r) m P l.toArray Q (l.drop n) a' W) (l.take n) a) : (Code.region id l.toArray true).wpIn (Fence.wide.inRound r) m P Q a w := by
  refine wpIn_region_any hm ?_
  simp only [tailB, Bool.and_eq_true, decide_eq_true_eq] at hB
  obtain ⟨⟨⟨⟨hsel, hn⟩, hs⟩, hc⟩, hlex⟩ := hB
  have hn' : n < l.length := by simpa using hn
  have htl : (l.take n).length = n := by simp; omega
  have hdl : (l.drop n).length = l.toArray.size - n := by simp
  have H := T_lex (md := .any) (g := l.toArray.size - n) hsel (waits_of hs hc hn) (l.take n) 0 (Array.replicate l.toArray.size false) a (Nat.le_refl _) (fun j hj => by
    rw [htl] at hj
    rw [List.getElem?_take_of_lt (by omega)]; simp) (by omega) (inv_start l n) (by rw [htl]; exact hlex) h
  have := anyIn_of_T (Q' := Q) (r := r) (m := m) (g := l.toArray.size - n) hnd (fun listed a' w' hw' hL => by
    have := wpAnyIn_of_seq (F := Fence.wide.inRound r) (m := m) (md := .any) (Q' := Q) (l.drop n) n listed a' w' (fun j => by simp [List.getElem?_drop]) (by rw [hdl]; exact hL.1) (hL.2 w' hw')
    rwa [hdl] at this) _ _ _ w.drew hC H
  rw [htl, show n + (l.toArray.size - n) = l.toArray.size by rw [show l.toArray.size = l.length from rfl]; omega] at this
  exact this
/-- The same outside of rounds. -/
theorem wp_region_ctail {id : Nat} {Q : Exit → Act → World → Prop} {a : Act} {w : World} {l : List Oper} (C : World → Prop) (n : Nat) (hC : C w.drew) (hm : P.follows .mixedOrders = true) (hB : tailB l.toArray 0 n (Array.replicate l.toArray.size false) = true)
    (h : wpQuiet P l.toArray C (fun a' => ∀ W, C W → wpList P l.toArray Q (l.drop n) a' W) (l.take n) a) : (Code.region id l.toArray true).wp P Q a w :=
  wp_region_any hm (by
    have := wpAny_ctail (Q := Q) (w := w.drew) (a := a) (listed := Array.replicate l.toArray.size false) 0 n hC (Nat.zero_le _) hB (inv_start l n) h
    simpa using this)
end Go.Proofs.Ytoidbgedpakjmaa.QTail
namespace Go.Proofs.Ytoidbgedpakjmaa.QTail
open Go Go.RowKit Go.Proofs.Ytoidbgedpakjmaa.Lib
variable {P : Program} {ops : Array Oper} {md : Region.Mode} {D : Bool → World → Prop} {s : Nat} {pr : Nat → Bool}
/-- what an operation may do: yield a value, call quietly; the store alone moves on -/
def upM (P : Program) (D : Bool → World → Prop) (st b : Bool) (w : World) (v : Value) : Result Next → Prop
  | .ok (.value u) w' => st = false ∧ w' = w ∧ u = v
  | .ok .skip w' => v = undef ∧ D (b || st) w'
  | .ok (.enter f args) w' => st = false ∧ w' = w ∧ Calls P f args w (fun e w'' => e = .returned v ∧ D b w'')
  | _ => False
def quietM (P : Program) (D : Bool → World → Prop) (s : Nat) (pr : Nat → Bool) (i : Nat) (o : Oper) (a : Act) (next : Act → Prop) : Prop :=
  ∃ v, (∀ b w, (i = s ∨ pr i = true → b = false) → D b w → upM P D (decide (i = s)) b w v ((execOp a.eval o).run P w)) ∧ next (a.put o.dst v)
def wpQuietM (P : Program) (ops : Array Oper) (D : Bool → World → Prop) (s : Nat) (pr : Nat → Bool) (Q : Act → Prop) : List Oper → Nat → Act → Prop
  | [], _, a => Q a
  | o :: rest, i, a => if Region.wanted o (yielded ops a.tmps) then quietM P D s pr i o a (wpQuietM P ops D s pr Q rest (i + 1)) else i ≠ s ∧ wpQuietM P ops D s pr Q rest (i + 1) (a.put o.dst undef)
theorem wpQuietM_nil {Q : Act → Prop} {i : Nat} {a : Act} (h : Q a) : wpQuietM P ops D s pr Q [] i a := h
theorem wpQuietM_step {Q : Act → Prop} {a : Act} {o : Oper} {i : Nat} {rest : List Oper}
    (h : ∀ K : Act → Prop, (∀ a, wpQuietM P ops D s pr Q rest (i + 1) a → K a) → if Region.wanted o (yielded ops a.tmps) then quietM P D s pr i o a K else i ≠ s ∧ K (a.put o.dst undef)) : wpQuietM P ops D s pr Q (o :: rest) i a :=
  h _ (fun _ h => h)
def qOpM (P : Program) (ops : Array Oper) (D : Bool → World → Prop) (s : Nat) (pr : Nat → Bool) (i : Nat) (K : Act → Prop) (a : Act) : Prop :=
  match ops[i]? with
  | none => False
  | some o => if Region.wanted o (yielded ops a.tmps) then quietM P D s pr i o a K else i ≠ s ∧ K (a.put o.dst undef)
theorem qOpM_mono {i : Nat} {a : Act} {K K' : Act → Prop} (h : ∀ a, K a → K' a) (hh : qOpM P ops D s pr i K a) : qOpM P ops D s pr i K' a := by
  unfold qOpM at *
  split
  · rename_i ho; simp only [ho] at hh
  · rename_i o ho
    simp only [ho] at hh
    split
    · rename_i hw; simp only [hw, if_true] at hh; obtain ⟨v, h1, h2⟩ := hh; exact ⟨v, h1, h _ h2⟩
    · rename_i hw; simp only [hw] at hh; exact ⟨hh.1, h _ hh.2⟩
def AnyM (P : Program) (md : Region.Mode) (ops : Array Oper) (D : Bool → World → Prop) (s : Nat) (pr : Nat → Bool) (Q : Act → Prop) : Nat → Array Bool → Act → Prop
  | 0, listed, a => Region.ready md ops listed = [] ∧ listed.getD s false = true ∧ Q a
  | f + 1, listed, a => Region.ready md ops listed ≠ [] ∧ ∀ i ∈ Region.ready md ops listed, qOpM P ops D s pr i (AnyM P md ops D s pr Q f (listed.setIfInBounds i true)) a
theorem getD_ready {listed : Array Bool} {i : Nat} (h : listed.getD i true = false) : i < listed.size ∧ listed.getD i false = false := by
  rcases Nat.lt_or_ge i listed.size with h' | h'
  · simp [h'] at h ⊢; exact h
  · simp [h'] at h
theorem getD_set {listed : Array Bool} {i s : Nat} (h : i < listed.size) : (listed.setIfInBounds i true).getD s false = (listed.getD s false || decide (i = s)) := by
  by_cases e : i = s
  · subst e; simp [h]
  · rw [getD_set_ne false e]; simp [e]
/-- what is listed has all listed that it waits for -/
def Closed (md : Region.Mode) (ops : Array Oper) (listed : Array Bool) : Prop := ∀ j oj, ops[j]? = some oj → listed.getD j false = true → ∀ e ∈ oj.after, Region.binds md e = true → listed.getD e.on false = true
theorem Closed.set {listed : Array Bool} {i : Nat} (h : Closed md ops listed) (hr : i ∈ Region.ready md ops listed) : Closed md ops (listed.setIfInBounds i true) := by
  intro j oj hj hl e he hb
  by_cases hij : i = j
  · subst hij
    obtain ⟨_, o, ho, hall⟩ := mem_ready.1 hr
    obtain rfl : o = oj := Option.some.inj (ho.symm.trans hj)
    exact getD_set_true (hall e he hb)
  · rw [getD_set_ne false hij] at hl
    exact getD_set_true (h j oj hj hl e he hb)
/-- does operation s wait, through others, for operation i? -/
def reachB (md : Region.Mode) (ops : Array Oper) : Nat → Nat → Nat → Bool
  | 0, _, _ => false
  | f + 1, s, i => match ops[s]? with
    | none => false
    | some o => o.after.any fun e => Region.binds md e && (e.on == i || reachB md ops f e.on i)
theorem reach_listed {listed : Array Bool} (h : Closed md ops listed) : ∀ (f s i : Nat), reachB md ops f s i = true → listed.getD s false = true → listed.getD i false = true := by
  intro f
  induction f with
  | zero => intro s i h1; cases h1
  | succ f ih =>
    intro s i h1 h2
    rw [reachB] at h1
    cases ho : ops[s]? with
    | none => rw [ho] at h1; cases h1
    | some o =>
      rw [ho] at h1
      dsimp only at h1
      rw [Array.any_eq_true] at h1
      obtain ⟨k, hk, h3⟩ := h1
      simp only [Bool.and_eq_true, Bool.or_eq_true, beq_iff_eq] at h3
      have h4 := h s o ho h2 o.after[k] (Array.getElem_mem hk) h3.1
      rcases h3.2 with h5 | h5
      · rw [h5] at h4; exact h4
      · exact ih _ _ h5 h4
theorem any_of_M {Q : Act → Prop} {Q' : Exit → Act → World → Prop} (g : Nat) (hpr : ∀ i, pr i = true → reachB md ops g s i = true) (hQ : ∀ a w, D true w → Q a → Q' .normal a w) :
    ∀ (f : Nat) (listed : Array Bool) (a : Act) (w : World), Closed md ops listed → D (listed.getD s false) w → AnyM P md ops D s pr Q f listed a → wpAny P md ops Q' f listed a w := by
  intro f
  induction f with
  | zero => rintro listed a w _ hw ⟨h1, h2, h3⟩; rw [h2] at hw; exact ⟨h1, hQ _ _ hw h3⟩
  | succ f ih =>
    intro listed a w hcl hw h
    refine ⟨fun h0 => absurd h0 h.1, fun i hi => ?_⟩
    obtain ⟨hlt, hfl⟩ := getD_ready (mem_ready.1 hi).1
    have hcl2 := hcl.set hi
    have h2 := h.2 i hi
    unfold qOpM at h2
    unfold wpOp
    split
    · rename_i ho; simp only [ho] at h2
    · rename_i o ho
      simp only [ho] at h2
      split
      · rename_i hwn
        simp only [hwn, if_true] at h2
        obtain ⟨v, h3, h4⟩ := h2
        have h5 := h3 _ w (fun e => by
          rcases e with e | e
          · subst e; exact hfl
          · cases hq : listed.getD s false with
            | false => rfl
            | true => rw [reach_listed hcl g s i (hpr i e) hq] at hfl; cases hfl) hw
        refine .inl ?_
        unfold Oper.wp
        generalize (execOp a.eval o).run P w = r at *
        cases r with
        | ok n w' =>
          cases n <;> simp only [upM] at h5 <;> simp only [Oper.upon]
          case value u =>
            obtain ⟨e0, e1, e2⟩ := h5
            rw [e1, e2]
            exact ih _ _ _ hcl2 (by rw [getD_set hlt, e0, Bool.or_false]; exact hw) h4
          case skip =>
            obtain ⟨e1, e2⟩ := h5
            rw [← e1]
            exact ih _ _ _ hcl2 (by rw [getD_set hlt]; exact e2) h4
          case enter g args =>
            obtain ⟨e0, e1, hc⟩ := h5
            rw [e1]
            refine hc.mono ?_
            rintro e w'' ⟨he, hw''⟩
            subst he
            exact ih _ _ _ hcl2 (by rw [getD_set hlt, e0, Bool.or_false]; exact hw'') h4
        | halt x w' => simp only [upM] at h5
      · rename_i hwn
        simp only [hwn] at h2
        exact ih _ _ _ hcl2 (by rw [getD_set hlt, decide_eq_false h2.1, Bool.or_false]; exact hw) h2.2
def YieldsM (P : Program) (ops : Array Oper) (D : Bool → World → Prop) (s : Nat) (pr : Nat → Bool) (i : Nat) (o : Oper) (v : Value) (a : Act) : Prop :=
  (Region.wanted o (yielded ops a.tmps) = true ∧ ∀ b w, (i = s ∨ pr i = true → b = false) → D b w → upM P D (decide (i = s)) b w v ((execOp a.eval o).run P w)) ∨
  (Region.wanted o (yielded ops a.tmps) = false ∧ i ≠ s ∧ v = undef)
theorem YieldsM.qOp {i : Nat} {o : Oper} {v : Value} {a : Act} (hi : ops[i]? = some o) (hy : YieldsM P ops D s pr i o v a) {K : Act → Prop} (h : K (a.put o.dst v)) : qOpM P ops D s pr i K a := by
  unfold qOpM
  simp only [hi]
  rcases hy with ⟨hw, hv⟩ | ⟨hw, hn, rfl⟩
  · simp only [hw, if_true]; exact ⟨v, hv, h⟩
  · simp only [hw, Bool.false_eq_true, if_false]; exact ⟨hn, h⟩
theorem YieldsM.of_same {i : Nat} {o : Oper} {v : Value} {a a' : Act} (hy : YieldsM P ops D s pr i o v a) (he : execOp a'.eval o = execOp a.eval o)
    (hw : Region.wanted o (yielded ops a'.tmps) = Region.wanted o (yielded ops a.tmps)) : YieldsM P ops D s pr i o v a' := by
  unfold YieldsM at *
  rw [he, hw]
  exact hy
theorem yieldsM_of_qOp {i : Nat} {o : Oper} {a : Act} {K : Act → Prop} (hi : ops[i]? = some o) (h : qOpM P ops D s pr i K a) : ∃ v, YieldsM P ops D s pr i o v a ∧ K (a.put o.dst v) := by
  unfold qOpM at h
  simp only [hi] at h
  by_cases hw : Region.wanted o (yielded ops a.tmps) = true
  · simp only [hw, if_true] at h
    obtain ⟨v, h1, h2⟩ := h
    exact ⟨v, .inl ⟨hw, h1⟩, h2⟩
  · simp only [hw] at h
    exact ⟨undef, .inr ⟨by simpa using hw, h.1, rfl⟩, h.2⟩
theorem qOpM_put {i j : Nat} {oi oj : Oper} {v : Value} (hj : ops[j]? = some oj) (hap : oi.apart ops oj = true)
    (hsi : ∀ cs b, oi.op ≠ .select cs b) (hsj : ∀ cs b, oj.op ≠ .select cs b) {K : Act → Prop} {a : Act}
    (hy : YieldsM P ops D s pr i oi v a) (h : qOpM P ops D s pr j K (a.put oi.dst v)) :
    qOpM P ops D s pr j (fun a' => YieldsM P ops D s pr i oi v a' ∧ K (a'.put oi.dst v)) a := by
  obtain ⟨h1, h2, h3⟩ := Oper.apart_spec hap
  have keep : ∀ (a : Act), YieldsM P ops D s pr i oi v a → ∀ u, YieldsM P ops D s pr i oi v (a.put oj.dst u) := fun a hy u =>
    hy.of_same (execOp_put oi hsi a oj.dst u h3) (wanted_put oi a oj.dst u h3)
  unfold qOpM at *
  simp only [hj] at *
  rw [wanted_put oj a oi.dst v h1] at h
  split
  · rename_i hw
    simp only [hw, if_true] at h
    obtain ⟨u, hu, hn⟩ := h
    refine ⟨u, fun b w hb hw' => ?_, keep a hy u, by rw [← Act.put_comm a v u h2]; exact hn⟩
    have := hu b w hb hw'
    rwa [execOp_put oj hsj a oi.dst v h1] at this
  · rename_i hw
    simp only [hw] at h
    exact ⟨h.1, keep a hy _, by rw [← Act.put_comm a v undef h2]; exact h.2⟩
theorem anyM_first {Q : Act → Prop} {i : Nat} {oi : Oper} {v : Value} (hi : ops[i]? = some oi) (hsel : ∀ (j : Nat) (o : Oper) cs b, ops[j]? = some o → o.op ≠ .select cs b) :
    ∀ (fuel : Nat) (listed : Array Bool) (a : Act),
      (∀ j oj, ops[j]? = some oj → j ≠ i → listed.getD j true = false → (∀ e ∈ oj.after, Region.binds md e = true → e.on ≠ i) → oi.apart ops oj = true) →
      i ∈ Region.ready md ops listed → YieldsM P ops D s pr i oi v a →
      AnyM P md ops D s pr Q fuel (listed.setIfInBounds i true) (a.put oi.dst v) → AnyM P md ops D s pr Q (fuel + 1) listed a := by
  intro fuel
  induction fuel with
  | zero =>
    intro listed a _ hr hy H
    refine ⟨fun h => (by rw [h] at hr; cases hr), fun j hj => ?_⟩
    by_cases hji : j = i
    · subst hji; exact hy.qOp hi H
    · have := ready_mono hj hji
      rw [H.1] at this
      cases this
  | succ fuel ih =>
    intro listed a hfree hr hy H
    refine ⟨fun h => (by rw [h] at hr; cases hr), fun j hj => ?_⟩
    by_cases hji : j = i
    · subst hji; exact hy.qOp hi H
    · have h1 := H.2 j (ready_mono hj hji)
      obtain ⟨hjun, oj, hoj, hall⟩ := mem_ready.1 hj
      have hnot : ∀ e ∈ oj.after, Region.binds md e = true → e.on ≠ i := fun e he hb heq => by
        have h1 := hall e he hb
        rw [heq, (getD_ready (mem_ready.1 hr).1).2] at h1
        cases h1
      have h2 := qOpM_put hoj (hfree j oj hoj hji hjun hnot) (fun cs b => hsel i oi cs b hi) (fun cs b => hsel j oj cs b hoj) hy h1
      have hfree' : ∀ k ok, ops[k]? = some ok → k ≠ i → (listed.setIfInBounds j true).getD k true = false →
          (∀ e ∈ ok.after, Region.binds md e = true → e.on ≠ i) → oi.apart ops ok = true := fun k ok hk hki hun hno => by
        refine hfree k ok hk hki ?_ hno
        by_cases hjk : j = k
        · subst hjk; exact hjun
        · rw [getD_set_ne true hjk] at hun; exact hun
      refine qOpM_mono (fun a' h3 => ih (listed.setIfInBounds j true) a' hfree' (ready_mono hr (Ne.symm hji)) h3.1 ?_) h2
      rw [Array.setIfInBounds_comm _ _ hji]
      exact h3.2
theorem anyM_lex {Q : Act → Prop} (hs : Region.noSelect ops = true) : ∀ (l : List Oper) (k : Nat) (listed : Array Bool) (a : Act), (∀ j, l[j]? = ops[k + j]?) → s < k + l.length → (s < k → listed.getD s false = true) →
    Region.lexFrom md ops l.length k listed = true → wpQuietM P ops D s pr Q l k a → AnyM P md ops D s pr Q l.length listed a
  | [], k, _, _, _, hsz, hd, hB, h => ⟨by simpa [Region.lexFrom] using hB, hd (by simpa using hsz), h⟩
  | o :: l, k, listed, a, hl, hsz, hd, hB, h => by
    have h0 : ops[k]? = some o := by simpa using (hl 0).symm
    simp only [List.length_cons, Region.lexFrom, Bool.and_eq_true] at hB
    obtain ⟨⟨hr, hf⟩, hB'⟩ := hB
    have hr' : k ∈ Region.ready md ops listed := by simpa using hr
    have hst : qOpM P ops D s pr k (wpQuietM P ops D s pr Q l (k + 1)) a := by unfold qOpM; simp only [h0]; exact h
    obtain ⟨v, hy, hK⟩ := yieldsM_of_qOp h0 hst
    have hlt := (getD_ready (mem_ready.1 hr').1).1
    exact anyM_first h0 (Region.noSelect_spec hs) l.length listed a (Region.free_spec h0 hf) hr' hy
      (anyM_lex hs l (k + 1) _ _ (fun j => by have := hl (j + 1); simpa [Nat.add_assoc, Nat.add_comm 1 j] using this) (by simp only [List.length_cons] at hsz; omega)
        (fun hk => by
          rw [getD_set hlt]
          rcases Nat.lt_or_ge s k with h1 | h1
          · rw [hd h1]; rfl
          · rw [decide_eq_true (by omega : k = s), Bool.or_true]) hB' hK)
theorem closed_start (n : Nat) : Closed md ops (Array.replicate n false) := by
  intro j oj _ hl
  have e : (Array.replicate n false).getD j false = false := by simp only [Array.getD_eq_getD_getElem?, Array.getElem?_replicate]; split <;> rfl
  rw [e] at hl; cases hl
/-- The law: the written order's walk serves every order; D false holds first, D true behind. Operations of pr are waited for by the store. -/
theorem wp_region_mixed2 {id : Nat} {Q : Exit → Act → World → Prop} {a : Act} {w : World} {l : List Oper} (D : Bool → World → Prop) (s : Nat) (pr : Nat → Bool) (hpr : ∀ i, pr i = true → reachB .any l.toArray l.length s i = true) (hs : s < l.length) (hm : P.follows .mixedOrders = true) (hB : Region.lexB .any l.toArray = true) (hD : D false w.drew)
    (h : wpQuietM P l.toArray D s pr (fun a' => ∀ W, D true W → Q .normal a' W) l 0 a) : (Code.region id l.toArray true).wp P Q a w := by
  simp only [Region.lexB, Bool.and_eq_true] at hB
  refine wp_region_any hm (any_of_M (s := s) (pr := pr) (Q := fun a' => ∀ W, D true W → Q .normal a' W) l.length hpr (fun _ w' hw' h => h w' hw') _ _ _ _ (closed_start _) ?_ ?_)
  · have e : (Array.replicate l.toArray.size false).getD s false = false := by simp only [Array.getD_eq_getD_getElem?, Array.getElem?_replicate]; split <;> rfl
    rw [e]; exact hD
  · have := anyM_lex (D := D) (s := s) (pr := pr) (md := .any) hB.1 l 0 (Array.replicate l.toArray.size false) a (by simp) (by simpa using hs) (fun h => absurd h (Nat.not_lt_zero _)) (by simpa using hB.2) h
    simpa using this
theorem wp_region_mixed {id : Nat} {Q : Exit → Act → World → Prop} {a : Act} {w : World} {l : List Oper} (D : Bool → World → Prop) (s : Nat) (hs : s < l.length) (hm : P.follows .mixedOrders = true) (hB : Region.lexB .any l.toArray = true) (hD : D false w.drew)
    (h : wpQuietM P l.toArray D s (fun _ => false) (fun a' => ∀ W, D true W → Q .normal a' W) l 0 a) : (Code.region id l.toArray true).wp P Q a w :=
  wp_region_mixed2 D s (fun _ => false) (fun _ h => by cases h) hs hm hB hD h
theorem mx_skip {o : Oper} {a : Act} {i : Nat} {K : Act → Prop} (hw : Region.wanted o (yielded ops a.tmps) = false) (hi : i ≠ s) (hk : K (a.put o.dst undef)) : if Region.wanted o (yielded ops a.tmps) then quietM P D s pr i o a K else i ≠ s ∧ K (a.put o.dst undef) := by
  rw [if_neg (by rw [hw]; decide)]
  exact ⟨hi, hk⟩
theorem mx_read {o : Oper} {a : Act} {i : Nat} {K : Act → Prop} (hw : Region.wanted o (yielded ops a.tmps) = true) (hi : i ≠ s)
    (h : ∃ v, (∀ b W, D b W → (execOp a.eval o).run P W = .ok (.value v) W) ∧ K (a.put o.dst v)) : if Region.wanted o (yielded ops a.tmps) then quietM P D s pr i o a K else i ≠ s ∧ K (a.put o.dst undef) := by
  rw [if_pos hw]
  obtain ⟨v, h1, hk⟩ := h
  refine ⟨v, fun b W _ hW => ?_, hk⟩
  rw [h1 b W hW, decide_eq_false hi]
  exact ⟨rfl, rfl, rfl⟩
theorem mx_call {o : Oper} {a : Act} {i : Nat} {K : Act → Prop} (hst : ∀ b W W', D b W → Below W.heap.size W W' → D b W') (hw : Region.wanted o (yielded ops a.tmps) = true) (hi : i ≠ s)
    (h : ∃ f args, (∀ b W, D b W → (execOp a.eval o).run P W = .ok (.enter f args) W) ∧ ∃ v, (∀ b W, D b W → Calls P f args W fun e w' => e = .returned v ∧ Below W.heap.size W w') ∧ K (a.put o.dst v)) : if Region.wanted o (yielded ops a.tmps) then quietM P D s pr i o a K else i ≠ s ∧ K (a.put o.dst undef) := by
  rw [if_pos hw]
  obtain ⟨f, args, h1, v, hc, hk⟩ := h
  refine ⟨v, fun b W _ hW => ?_, hk⟩
  rw [h1 b W hW, decide_eq_false hi]
  exact ⟨rfl, rfl, (hc b W hW).mono fun e w' h => ⟨h.1, hst b W w' hW h.2⟩⟩
/-- an operation that the store waits for: it sees the cell as it was -/
theorem mx_pre {o : Oper} {a : Act} {i : Nat} {K : Act → Prop} (hw : Region.wanted o (yielded ops a.tmps) = true) (hi : i ≠ s) (hp : pr i = true)
    (h : ∃ v, (∀ W, D false W → (execOp a.eval o).run P W = .ok (.value v) W) ∧ K (a.put o.dst v)) : if Region.wanted o (yielded ops a.tmps) then quietM P D s pr i o a K else i ≠ s ∧ K (a.put o.dst undef) := by
  rw [if_pos hw]
  obtain ⟨v, h1, hk⟩ := h
  refine ⟨v, fun b W hb hW => ?_, hk⟩
  obtain rfl := hb (.inr hp)
  rw [h1 W hW, decide_eq_false hi]
  exact ⟨rfl, rfl, rfl⟩
theorem mx_call_pre {o : Oper} {a : Act} {i : Nat} {K : Act → Prop} (hst : ∀ W W', D false W → Below W.heap.size W W' → D false W') (hw : Region.wanted o (yielded ops a.tmps) = true) (hi : i ≠ s) (hp : pr i = true)
    (h : ∃ f args, (∀ W, D false W → (execOp a.eval o).run P W = .ok (.enter f args) W) ∧ ∃ v, (∀ W, D false W → Calls P f args W fun e w' => e = .returned v ∧ Below W.heap.size W w') ∧ K (a.put o.dst v)) : if Region.wanted o (yielded ops a.tmps) then quietM P D s pr i o a K else i ≠ s ∧ K (a.put o.dst undef) := by
  rw [if_pos hw]
  obtain ⟨f, args, h1, v, hc, hk⟩ := h
  refine ⟨v, fun b W hb hW => ?_, hk⟩
  obtain rfl := hb (.inr hp)
  rw [h1 W hW, decide_eq_false hi]
  exact ⟨rfl, rfl, (hc W hW).mono fun e w' h => ⟨h.1, hst W w' hW h.2⟩⟩
theorem mx_store {o : Oper} {a : Act} {i : Nat} {K : Act → Prop} (hw : Region.wanted o (yielded ops a.tmps) = true) (hi : i = s)
    (h : (∀ W, D false W → ∃ W', (execOp a.eval o).run P W = .ok .skip W' ∧ D true W') ∧ K (a.put o.dst undef)) : if Region.wanted o (yielded ops a.tmps) then quietM P D s pr i o a K else i ≠ s ∧ K (a.put o.dst undef) := by
  rw [if_pos hw]
  obtain ⟨h1, hk⟩ := h
  refine ⟨undef, fun b W hb hW => ?_, hk⟩
  obtain rfl := hb (.inl hi)
  obtain ⟨W', hr, hd⟩ := h1 W hW
  rw [hr, decide_eq_true hi]
  exact ⟨rfl, hd⟩
/-- The class for a store into a struct's cell of two fields. -/
def CellD (w5 : World) (rb : Nat) (T : TypeId) (c0 c1 d0 d1 : Value) (b : Bool) (W : World) : Prop := Run.Mv (fun k => k = rb) w5 W ∧ W.heap[rb]? = some (.cells (if b then #[d0, d1] else #[c0, c1]) T (0, 0))
variable {w5 : World} {rb : Nat} {T : TypeId} {c0 c1 d0 d1 : Value}
theorem CellD.stab (b : Bool) (W W' : World) (h : CellD w5 rb T c0 c1 d0 d1 b W) (hb : Below W.heap.size W W') : CellD w5 rb T c0 c1 d0 d1 b W' :=
  ⟨h.1.trans (Run.Mv.of_below (O := fun k => k = rb) hb) (fun _ h => h) (fun _ _ h => h), (hb.block rb (Array.getElem?_eq_some_iff.1 h.2).1).trans h.2⟩
theorem CellD.start (h : w5.heap[rb]? = some (.cells #[c0, c1] T (0, 0))) : CellD w5 rb T c0 c1 d0 d1 false w5.drew := ⟨Run.Mv.of_below (below_drewN (below_rf w5) 1), h⟩
theorem CellD.read {b : Bool} {W : World} (h : CellD w5 rb T c0 c1 d0 d1 b W) {k i : Nat} {v : Value} (hv : w5.cell? ⟨k, i, none⟩ = some v) (hk : k ≠ rb) : W.cell? ⟨k, i, none⟩ = some v := h.1.cell hv hk
theorem CellD.rd {b : Bool} {W : World} (h : CellD w5 rb T c0 c1 d0 d1 b W) {A : Option Addr} {xs : List Value} (hr : Rd w5 A xs) (hn : ∀ b o, A = some ⟨b, o, none⟩ → b ≠ rb) : Rd W A xs := by
  rcases hr with h' | ⟨b', o, rfl, h'⟩
  · exact .inl h'
  · exact .inr ⟨b', o, rfl, fun j x hj => h.read (h' j x hj) (hn b' o rfl)⟩
theorem CellD.fz {b : Bool} {W : World} (h : CellD w5 rb T c0 c1 d0 d1 b W) (i : Nat) : W.frozen? ⟨rb, i, none⟩ = false := Go.Lib.frozen_of_heap h.2 i
theorem CellD.gc0 {W : World} (h : CellD w5 rb T c0 c1 d0 d1 false W) : W.cell? ⟨rb, 0, none⟩ = some c0 := by rw [Go.Lib.cell_of_heap h.2]; rfl
theorem CellD.gc1 {W : World} (h : CellD w5 rb T c0 c1 d0 d1 false W) : W.cell? ⟨rb, 1, none⟩ = some c1 := by rw [Go.Lib.cell_of_heap h.2]; rfl
theorem CellD.gd0 {W : World} (h : CellD w5 rb T c0 c1 d0 d1 true W) : W.cell? ⟨rb, 0, none⟩ = some d0 := by rw [Go.Lib.cell_of_heap h.2]; rfl
theorem CellD.gd1 {W : World} (h : CellD w5 rb T c0 c1 d0 d1 true W) : W.cell? ⟨rb, 1, none⟩ = some d1 := by rw [Go.Lib.cell_of_heap h.2]; rfl
theorem CellD.set {W : World} (h : CellD w5 rb T c0 c1 d0 d1 false W) : CellD w5 rb T c0 c1 d0 d1 true ((W.setCell ⟨rb, 0, none⟩ d0).setCell ⟨rb, 1, none⟩ d1) :=
  ⟨(h.1.trans (Run.Mv.setCell (O := fun k => k = rb) W ⟨rb, 0, none⟩ d0 rfl) (fun _ h => h) (fun _ _ h => h)).trans (Run.Mv.setCell (O := fun k => k = rb) _ ⟨rb, 1, none⟩ d1 rfl) (fun _ h => h) (fun _ _ h => h), by
    have h1 := heap_setCell_same W rb 0 _ _ d0 h.2
    have h2 := heap_setCell_same (W.setCell ⟨rb, 0, none⟩ d0) rb 1 _ _ d1 h1
    exact h2⟩
end Go.Proofs.Ytoidbgedpakjmaa.QTail
