/- A region that draws its order, in which one operation makes memory and all others read: some may come ahead of the maker, some behind it. The walks of the document's answers of layer 11: the way to a key. The walk of the document's answer of layer 11: nodes as a proof. -/
import Derived.Test.YteeonfnaikndfaaMixed
import Derived.Test.YteeonfnaikndfaaP08
import Derived.Test.YteeonfnaikndfaaWit
import Derived.Test.YteeonfnaikndfaaW11
set_option linter.unusedVariables false
set_option linter.unusedSimpArgs false
namespace Go.Proofs.Yteeonfnaikndfaa.QTail
open Go Go.RowKit Go.Proofs.Yteeonfnaikndfaa.Lib
variable {P : Program} {ops : Array Oper} {md : Region.Mode} {D : Bool → World → Prop} {s : Nat} {pr : Nat → Bool}
/-- what an operation may do: yield a value; the maker alone moves on -/
def upK (P : Program) (D : Bool → World → Prop) (st : Bool) (w : World) (v : Value) : Result Next → Prop
  | .ok (.value u) w' => u = v ∧ ((st = true ∧ D true w') ∨ (st = false ∧ w' = w))
  | _ => False
def quietK (P : Program) (D : Bool → World → Prop) (s : Nat) (pr : Nat → Bool) (i : Nat) (o : Oper) (a : Act) (next : Act → Prop) : Prop :=
  ∃ v, (∀ b w, ((i = s → b = false) ∧ (pr i = true → b = true)) → D b w → upK P D (decide (i = s)) w v ((execOp a.eval o).run P w)) ∧ next (a.put o.dst v)
def wpQuietK (P : Program) (ops : Array Oper) (D : Bool → World → Prop) (s : Nat) (pr : Nat → Bool) (Q : Act → Prop) : List Oper → Nat → Act → Prop
  | [], _, a => Q a
  | o :: rest, i, a => if Region.wanted o (yielded ops a.tmps) then quietK P D s pr i o a (wpQuietK P ops D s pr Q rest (i + 1)) else i ≠ s ∧ wpQuietK P ops D s pr Q rest (i + 1) (a.put o.dst undef)
theorem wpQuietK_nil {Q : Act → Prop} {i : Nat} {a : Act} (h : Q a) : wpQuietK P ops D s pr Q [] i a := h
theorem wpQuietK_step {Q : Act → Prop} {a : Act} {o : Oper} {i : Nat} {rest : List Oper}
    (h : ∀ K : Act → Prop, (∀ a, wpQuietK P ops D s pr Q rest (i + 1) a → K a) → if Region.wanted o (yielded ops a.tmps) then quietK P D s pr i o a K else i ≠ s ∧ K (a.put o.dst undef)) : wpQuietK P ops D s pr Q (o :: rest) i a :=
  h _ (fun _ h => h)
def qOpK (P : Program) (ops : Array Oper) (D : Bool → World → Prop) (s : Nat) (pr : Nat → Bool) (i : Nat) (K : Act → Prop) (a : Act) : Prop :=
  match ops[i]? with
  | none => False
  | some o => if Region.wanted o (yielded ops a.tmps) then quietK P D s pr i o a K else i ≠ s ∧ K (a.put o.dst undef)
theorem qOpK_mono {i : Nat} {a : Act} {K K' : Act → Prop} (h : ∀ a, K a → K' a) (hh : qOpK P ops D s pr i K a) : qOpK P ops D s pr i K' a := by
  unfold qOpK at *
  split
  · rename_i ho; simp only [ho] at hh
  · rename_i o ho
    simp only [ho] at hh
    split
    · rename_i hw; simp only [hw, if_true] at hh; obtain ⟨v, h1, h2⟩ := hh; exact ⟨v, h1, h _ h2⟩
    · rename_i hw; simp only [hw] at hh; exact ⟨hh.1, h _ hh.2⟩
def AnyK (P : Program) (md : Region.Mode) (ops : Array Oper) (D : Bool → World → Prop) (s : Nat) (pr : Nat → Bool) (Q : Act → Prop) : Nat → Array Bool → Act → Prop
  | 0, listed, a => Region.ready md ops listed = [] ∧ listed.getD s false = true ∧ Q a
  | f + 1, listed, a => Region.ready md ops listed ≠ [] ∧ ∀ i ∈ Region.ready md ops listed, qOpK P ops D s pr i (AnyK P md ops D s pr Q f (listed.setIfInBounds i true)) a
theorem any_of_K {Q : Act → Prop} {Q' : Exit → Act → World → Prop} (g : Nat) (hps : pr s = false) (hpr : ∀ i, pr i = true → reachB md ops g i s = true) (hQ : ∀ a w, D true w → Q a → Q' .normal a w) :
    ∀ (f : Nat) (listed : Array Bool) (a : Act) (w : World), Closed md ops listed → D (listed.getD s false) w → AnyK P md ops D s pr Q f listed a → wpAny P md ops Q' f listed a w := by
  intro f
  induction f with
  | zero => rintro listed a w _ hw ⟨h1, h2, h3⟩; rw [h2] at hw; exact ⟨h1, hQ _ _ hw h3⟩
  | succ f ih =>
    intro listed a w hcl hw h
    refine ⟨fun h0 => absurd h0 h.1, fun i hi => ?_⟩
    obtain ⟨hlt, hfl⟩ := getD_ready (mem_ready.1 hi).1
    have hcl2 := hcl.set hi
    have h2 := h.2 i hi
    unfold qOpK at h2
    unfold wpOp
    split
    · rename_i ho; simp only [ho] at h2
    · rename_i o ho
      simp only [ho] at h2
      split
      · rename_i hwn
        simp only [hwn, if_true] at h2
        obtain ⟨v, h3, h4⟩ := h2
        have h5 := h3 _ w ⟨fun e => by subst e; exact hfl, fun e => by
          have hl := reach_listed hcl2 g i s (hpr i e) (by rw [getD_set hlt, decide_eq_true rfl, Bool.or_true])
          rw [getD_set hlt] at hl
          by_cases q : i = s
          · subst q; rw [hps] at e; cases e
          · rwa [decide_eq_false q, Bool.or_false] at hl⟩ hw
        refine .inl ?_
        unfold Oper.wp
        generalize (execOp a.eval o).run P w = r at *
        cases r with
        | ok n w' =>
          cases n <;> simp only [upK] at h5 <;> simp only [Oper.upon]
          case value u =>
            obtain ⟨e1, e2⟩ := h5
            rw [e1]
            rcases e2 with ⟨e0, e2⟩ | ⟨e0, e2⟩
            · exact ih _ _ _ hcl2 (by rw [getD_set hlt, e0, Bool.or_true]; exact e2) h4
            · rw [e2]
              exact ih _ _ _ hcl2 (by rw [getD_set hlt, e0, Bool.or_false]; exact hw) h4
        | halt x w' => simp only [upK] at h5
      · rename_i hwn
        simp only [hwn] at h2
        exact ih _ _ _ hcl2 (by rw [getD_set hlt, decide_eq_false h2.1, Bool.or_false]; exact hw) h2.2
def YieldsK (P : Program) (ops : Array Oper) (D : Bool → World → Prop) (s : Nat) (pr : Nat → Bool) (i : Nat) (o : Oper) (v : Value) (a : Act) : Prop :=
  (Region.wanted o (yielded ops a.tmps) = true ∧ ∀ b w, ((i = s → b = false) ∧ (pr i = true → b = true)) → D b w → upK P D (decide (i = s)) w v ((execOp a.eval o).run P w)) ∨
  (Region.wanted o (yielded ops a.tmps) = false ∧ i ≠ s ∧ v = undef)
theorem YieldsK.qOp {i : Nat} {o : Oper} {v : Value} {a : Act} (hi : ops[i]? = some o) (hy : YieldsK P ops D s pr i o v a) {K : Act → Prop} (h : K (a.put o.dst v)) : qOpK P ops D s pr i K a := by
  unfold qOpK
  simp only [hi]
  rcases hy with ⟨hw, hv⟩ | ⟨hw, hn, rfl⟩
  · simp only [hw, if_true]; exact ⟨v, hv, h⟩
  · simp only [hw, Bool.false_eq_true, if_false]; exact ⟨hn, h⟩
theorem YieldsK.of_same {i : Nat} {o : Oper} {v : Value} {a a' : Act} (hy : YieldsK P ops D s pr i o v a) (he : execOp a'.eval o = execOp a.eval o)
    (hw : Region.wanted o (yielded ops a'.tmps) = Region.wanted o (yielded ops a.tmps)) : YieldsK P ops D s pr i o v a' := by
  unfold YieldsK at *
  rw [he, hw]
  exact hy
theorem yieldsK_of_qOp {i : Nat} {o : Oper} {a : Act} {K : Act → Prop} (hi : ops[i]? = some o) (h : qOpK P ops D s pr i K a) : ∃ v, YieldsK P ops D s pr i o v a ∧ K (a.put o.dst v) := by
  unfold qOpK at h
  simp only [hi] at h
  by_cases hw : Region.wanted o (yielded ops a.tmps) = true
  · simp only [hw, if_true] at h
    obtain ⟨v, h1, h2⟩ := h
    exact ⟨v, .inl ⟨hw, h1⟩, h2⟩
  · simp only [hw] at h
    exact ⟨undef, .inr ⟨by simpa using hw, h.1, rfl⟩, h.2⟩
theorem qOpK_put {i j : Nat} {oi oj : Oper} {v : Value} (hj : ops[j]? = some oj) (hap : oi.apart ops oj = true)
    (hsi : ∀ cs b, oi.op ≠ .select cs b) (hsj : ∀ cs b, oj.op ≠ .select cs b) {K : Act → Prop} {a : Act}
    (hy : YieldsK P ops D s pr i oi v a) (h : qOpK P ops D s pr j K (a.put oi.dst v)) :
    qOpK P ops D s pr j (fun a' => YieldsK P ops D s pr i oi v a' ∧ K (a'.put oi.dst v)) a := by
  obtain ⟨h1, h2, h3⟩ := Oper.apart_spec hap
  have keep : ∀ (a : Act), YieldsK P ops D s pr i oi v a → ∀ u, YieldsK P ops D s pr i oi v (a.put oj.dst u) := fun a hy u =>
    hy.of_same (execOp_put oi hsi a oj.dst u h3) (wanted_put oi a oj.dst u h3)
  unfold qOpK at *
  simp only [hj] at *
  rw [wanted_put oj a oi.dst v h1] at h
  split
  · rename_i hw
    simp only [hw, if_true] at h
    obtain ⟨u, hu, hn⟩ := h
    refine ⟨u, fun b w hb hw' => ?_, keep a hy u, by rw [← Act.put_comm a v u h2]; exact hn⟩
    have := hu b w hb hw'
    rwa [execOp_put oj hsj a oi.dst v h1] at this
  · rename_i hw
    simp only [hw] at h
    exact ⟨h.1, keep a hy _, by rw [← Act.put_comm a v undef h2]; exact h.2⟩
theorem anyK_first {Q : Act → Prop} {i : Nat} {oi : Oper} {v : Value} (hi : ops[i]? = some oi) (hsel : ∀ (j : Nat) (o : Oper) cs b, ops[j]? = some o → o.op ≠ .select cs b) :
    ∀ (fuel : Nat) (listed : Array Bool) (a : Act),
      (∀ j oj, ops[j]? = some oj → j ≠ i → listed.getD j true = false → (∀ e ∈ oj.after, Region.binds md e = true → e.on ≠ i) → oi.apart ops oj = true) →
      i ∈ Region.ready md ops listed → YieldsK P ops D s pr i oi v a →
      AnyK P md ops D s pr Q fuel (listed.setIfInBounds i true) (a.put oi.dst v) → AnyK P md ops D s pr Q (fuel + 1) listed a := by
  intro fuel
  induction fuel with
  | zero =>
    intro listed a _ hr hy H
    refine ⟨fun h => (by rw [h] at hr; cases hr), fun j hj => ?_⟩
    by_cases hji : j = i
    · subst hji; exact hy.qOp hi H
    · have := ready_mono hj hji
      rw [H.1] at this
      cases this
  | succ fuel ih =>
    intro listed a hfree hr hy H
    refine ⟨fun h => (by rw [h] at hr; cases hr), fun j hj => ?_⟩
    by_cases hji : j = i
    · subst hji; exact hy.qOp hi H
    · have h1 := H.2 j (ready_mono hj hji)
      obtain ⟨hjun, oj, hoj, hall⟩ := mem_ready.1 hj
      have hnot : ∀ e ∈ oj.after, Region.binds md e = true → e.on ≠ i := fun e he hb heq => by
        have h1 := hall e he hb
        rw [heq, (getD_ready (mem_ready.1 hr).1).2] at h1
        cases h1
      have h2 := qOpK_put hoj (hfree j oj hoj hji hjun hnot) (fun cs b => hsel i oi cs b hi) (fun cs b => hsel j oj cs b hoj) hy h1
      have hfree' : ∀ k ok, ops[k]? = some ok → k ≠ i → (listed.setIfInBounds j true).getD k true = false →
          (∀ e ∈ ok.after, Region.binds md e = true → e.on ≠ i) → oi.apart ops ok = true := fun k ok hk hki hun hno => by
        refine hfree k ok hk hki ?_ hno
        by_cases hjk : j = k
        · subst hjk; exact hjun
        · rw [getD_set_ne true hjk] at hun; exact hun
      refine qOpK_mono (fun a' h3 => ih (listed.setIfInBounds j true) a' hfree' (ready_mono hr (Ne.symm hji)) h3.1 ?_) h2
      rw [Array.setIfInBounds_comm _ _ hji]
      exact h3.2
theorem anyK_lex {Q : Act → Prop} (hs : Region.noSelect ops = true) : ∀ (l : List Oper) (k : Nat) (listed : Array Bool) (a : Act), (∀ j, l[j]? = ops[k + j]?) → s < k + l.length → (s < k → listed.getD s false = true) →
    Region.lexFrom md ops l.length k listed = true → wpQuietK P ops D s pr Q l k a → AnyK P md ops D s pr Q l.length listed a
  | [], k, _, _, _, hsz, hd, hB, h => ⟨by simpa [Region.lexFrom] using hB, hd (by simpa using hsz), h⟩
  | o :: l, k, listed, a, hl, hsz, hd, hB, h => by
    have h0 : ops[k]? = some o := by simpa using (hl 0).symm
    simp only [List.length_cons, Region.lexFrom, Bool.and_eq_true] at hB
    obtain ⟨⟨hr, hf⟩, hB'⟩ := hB
    have hr' : k ∈ Region.ready md ops listed := by simpa using hr
    have hst : qOpK P ops D s pr k (wpQuietK P ops D s pr Q l (k + 1)) a := by unfold qOpK; simp only [h0]; exact h
    obtain ⟨v, hy, hK⟩ := yieldsK_of_qOp h0 hst
    have hlt := (getD_ready (mem_ready.1 hr').1).1
    exact anyK_first h0 (Region.noSelect_spec hs) l.length listed a (Region.free_spec h0 hf) hr' hy
      (anyK_lex hs l (k + 1) _ _ (fun j => by have := hl (j + 1); simpa [Nat.add_assoc, Nat.add_comm 1 j] using this) (by simp only [List.length_cons] at hsz; omega)
        (fun hk => by
          rw [getD_set hlt]
          rcases Nat.lt_or_ge s k with h1 | h1
          · rw [hd h1]; rfl
          · rw [decide_eq_true (by omega : k = s), Bool.or_true]) hB' hK)
/-- The law: the written order's walk serves every order; D false holds first, D true behind. Operations of pr are waited for by the store. -/
theorem wp_region_make {id : Nat} {Q : Exit → Act → World → Prop} {a : Act} {w : World} {l : List Oper} (D : Bool → World → Prop) (s : Nat) (pr : Nat → Bool) (hps : pr s = false) (hpr : ∀ i, pr i = true → reachB .any l.toArray l.length i s = true) (hs : s < l.length) (hm : P.follows .mixedOrders = true) (hB : Region.lexB .any l.toArray = true) (hD : D false w.drew)
    (h : wpQuietK P l.toArray D s pr (fun a' => ∀ W, D true W → Q .normal a' W) l 0 a) : (Code.region id l.toArray true).wp P Q a w := by
  simp only [Region.lexB, Bool.and_eq_true] at hB
  refine wp_region_any hm (any_of_K (s := s) (pr := pr) (Q := fun a' => ∀ W, D true W → Q .normal a' W) l.length hps hpr (fun _ w' hw' h => h w' hw') _ _ _ _ (closed_start _) ?_ ?_)
  · have e : (Array.replicate l.toArray.size false).getD s false = false := by simp only [Array.getD_eq_getD_getElem?, Array.getElem?_replicate]; split <;> rfl
    rw [e]; exact hD
  · have := anyK_lex (D := D) (s := s) (pr := pr) (md := .any) hB.1 l 0 (Array.replicate l.toArray.size false) a (by simp) (by simpa using hs) (fun h => absurd h (Nat.not_lt_zero _)) (by simpa using hB.2) h
    simpa using this
theorem mk_skip {o : Oper} {a : Act} {i : Nat} {K : Act → Prop} (hw : Region.wanted o (yielded ops a.tmps) = false) (hi : i ≠ s) (hk : K (a.put o.dst undef)) : if Region.wanted o (yielded ops a.tmps) then quietK P D s pr i o a K else i ≠ s ∧ K (a.put o.dst undef) := by
  rw [if_neg (by rw [hw]; decide)]
  exact ⟨hi, hk⟩
theorem mk_read {o : Oper} {a : Act} {i : Nat} {K : Act → Prop} (hw : Region.wanted o (yielded ops a.tmps) = true) (hi : i ≠ s)
    (h : ∃ v, (∀ b W, D b W → (execOp a.eval o).run P W = .ok (.value v) W) ∧ K (a.put o.dst v)) : if Region.wanted o (yielded ops a.tmps) then quietK P D s pr i o a K else i ≠ s ∧ K (a.put o.dst undef) := by
  rw [if_pos hw]
  obtain ⟨v, h1, hk⟩ := h
  refine ⟨v, fun b W _ hW => ?_, hk⟩
  rw [h1 b W hW, decide_eq_false hi]
  exact ⟨rfl, .inr ⟨rfl, rfl⟩⟩
/-- an operation that waits for the maker: it sees what was made -/
theorem mk_post {o : Oper} {a : Act} {i : Nat} {K : Act → Prop} (hw : Region.wanted o (yielded ops a.tmps) = true) (hi : i ≠ s) (hp : pr i = true)
    (h : ∃ v, (∀ W, D true W → (execOp a.eval o).run P W = .ok (.value v) W) ∧ K (a.put o.dst v)) : if Region.wanted o (yielded ops a.tmps) then quietK P D s pr i o a K else i ≠ s ∧ K (a.put o.dst undef) := by
  rw [if_pos hw]
  obtain ⟨v, h1, hk⟩ := h
  refine ⟨v, fun b W hb hW => ?_, hk⟩
  obtain rfl := hb.2 hp
  rw [h1 W hW, decide_eq_false hi]
  exact ⟨rfl, .inr ⟨rfl, rfl⟩⟩
theorem mk_make {o : Oper} {a : Act} {i : Nat} {K : Act → Prop} (hw : Region.wanted o (yielded ops a.tmps) = true) (hi : i = s)
    (h : ∃ v, (∀ W, D false W → ∃ W', (execOp a.eval o).run P W = .ok (.value v) W' ∧ D true W') ∧ K (a.put o.dst v)) : if Region.wanted o (yielded ops a.tmps) then quietK P D s pr i o a K else i ≠ s ∧ K (a.put o.dst undef) := by
  rw [if_pos hw]
  obtain ⟨v, h1, hk⟩ := h
  refine ⟨v, fun b W hb hW => ?_, hk⟩
  obtain rfl := hb.1 hi
  obtain ⟨W', hr, hd⟩ := h1 W hW
  rw [hr, decide_eq_true hi]
  exact ⟨rfl, .inl ⟨rfl, hd⟩⟩
/-- The class: the world of the start, or that with the new block. -/
def MakeD (w : World) (o : Obj) (b : Bool) (W : World) : Prop := W = if b then w.alloc o else w
end Go.Proofs.Yteeonfnaikndfaa.QTail
namespace Go.Proofs.Yteeonfnaikndfaa.Wit
open Go Go.RowKit Go.Proofs.Yteeonfnaikndfaa Go.Proofs.Yteeonfnaikndfaa.Lib Go.Proofs.Yteeonfnaikndfaa.Sha Go.Proofs.Yteeonfnaikndfaa.T07 Go.Proofs.Yteeonfnaikndfaa.T08 Go.Proofs.Yteeonfnaikndfaa.Itms Go.Proofs.Yteeonfnaikndfaa.WSeq Go.Proofs.Yteeonfnaikndfaa.Ord Go.Proofs.Yteeonfnaikndfaa.W08 Go.Proofs.Yteeonfnaikndfaa.Inj Go.Proofs.Yteeonfnaikndfaa.Tree
/-- the texts of a way behind a node -/
def contW (f : Src) (key : List UInt8) (k : Nat) (m : Nat × List Itm) : Option (List (List UInt8)) :=
  if endsAt m key = true then some [] else (wayGo (srcNx f) key k () ((itm m.2 (placeS m.2 key)).2.take 32) m.1 (some (itm m.2 (placeS m.2 key)))).map (·.1)
theorem cont_go (f : Src) (key : List UInt8) (k : Nat) (p : List UInt8) (lv : Nat) (x : Option Itm) : (wayGo (srcNx f) key (k + 1) () p lv x).map (·.1) = match f p with
    | none => none
    | some s => match nodeS s lv x with
      | none => none
      | some m => (contW f key k m).map (s :: ·) := by
  rw [way_step]
  cases hp : f p with
  | none =>
    have e : srcNx f () p = none := by unfold srcNx; rw [hp]
    rw [e]; rfl
  | some s =>
    have e : srcNx f () p = some (s, ()) := by unfold srcNx; rw [hp]
    rw [e]
    dsimp only
    cases h2 : nodeS s lv x with
    | none => rfl
    | some m =>
      dsimp only
      unfold contW
      by_cases he : endsAt m key = true
      · rw [if_pos he, if_pos he]; rfl
      · rw [if_neg he, if_neg he]
        rcases wayGo (srcNx f) key k () ((itm m.2 (placeS m.2 key)).2.take 32) m.1 (some (itm m.2 (placeS m.2 key))) with _ | ⟨ts, n, z⟩ <;> rfl
theorem cont_end {f : Src} {key : List UInt8} {k : Nat} {m : Nat × List Itm} (h : endsAt m key = true) : contW f key k m = some [] := by unfold contW; rw [if_pos h]
theorem bel_node {f : Src} {lv : Nat} {x : Itm} : belowP f lv x = match f (x.2.take 32) with
    | none => none
    | some s => nodeS s lv (some x) := by
  unfold belowP atS nodeS
  cases f (x.2.take 32) with
  | none => rfl
  | some s =>
    dsimp only
    cases parseS s <;> rfl
theorem cont_step {f : Src} {key : List UInt8} {k : Nat} {m : Nat × List Itm} (h : ¬ endsAt m key = true) : contW f key (k + 1) m = match f ((itm m.2 (placeS m.2 key)).2.take 32) with
    | none => none
    | some s => match nodeS s m.1 (some (itm m.2 (placeS m.2 key))) with
      | none => none
      | some n => (contW f key k n).map (s :: ·) := by
  conv => lhs; unfold contW
  rw [if_neg h, cont_go]
theorem way_first (f : Src) (key root : List UInt8) : (wayS (srcNx f) key () root).map (·.1) = match f root with
    | none => none
    | some s => match parseS s with
      | none => none
      | some m => (contW f key 33 m).map (s :: ·) := by
  unfold wayS
  rw [cont_go]
  cases f root with
  | none => rfl
  | some s =>
    dsimp only
    unfold nodeS
    cases parseS s <;> rfl
end Go.Proofs.Yteeonfnaikndfaa.Wit
namespace Go.Proofs.Yteeonfnaikndfaa.P08
open Go Go.RowKit Go.Proofs.Yteeonfnaikndfaa Go.Proofs.Yteeonfnaikndfaa.Lib Go.Proofs.Yteeonfnaikndfaa.Sha Go.Proofs.Yteeonfnaikndfaa.T07 Go.Proofs.Yteeonfnaikndfaa.T08 Go.Proofs.Yteeonfnaikndfaa.Itms Go.Proofs.Yteeonfnaikndfaa.WSeq Go.Proofs.Yteeonfnaikndfaa.Ord Go.Proofs.Yteeonfnaikndfaa.W08 Go.Proofs.Yteeonfnaikndfaa.W01 Go.Proofs.Yteeonfnaikndfaa.Inj Go.Proofs.Yteeonfnaikndfaa.Tree Go.Proofs.Yteeonfnaikndfaa.Bld Go.Proofs.Yteeonfnaikndfaa.QTail Go.Proofs.Yteeonfnaikndfaa.Wit
attribute [local go_sem] Str_size Str_toList Str_extract take_rest
/-- how far a key's place is looked for -/
theorem place_end {l : List Itm} {key : List UInt8} {a : Nat} (hok : okS l = true) (ha : a ≤ l.length) (h1 : ∀ t, t < a → ltS (itm l t).1 key = true) (h2 : a < l.length → ltS (itm l a).1 key = false) : a = placeS l key :=
  place_one l key a _ ⟨ha, h1, fun t ht htl => place_hi l key hok a t ht htl (h2 (by omega))⟩ (place_s l key hok)
/-- what the document's way answers -/
def RWay (B : Nat) (r : Option (List (List UInt8))) (e : Ending) (W : World) : Prop :=
  (r = none ∧ e = .returned (.tuple #[.slice none 0 0, .bool false])) ∨ ∃ ts v, r = some ts ∧ e = .returned (.tuple #[v, .bool true]) ∧ W.ownsRow B 9 1 v ts.length (strs ts)
set_option maxRecDepth 100000 in
set_option maxHeartbeats 6400000 in
theorem rway_any (A : Option Addr) (c : Nat) (ns : List (List UInt8)) (root key : List UInt8) (hn : ns.length ≤ 1000000) (hs : ∀ s ∈ ns, s.length ≤ 1000000000) (w : World) (hrd : Rd w A (strs ns)) :
    Calls Try.prog 33 #[.agg #[.slice A ns.length c], .string (Str root), .string (Str key)] w fun e w' => RWay w.heap.size ((wayS (srcNx (getL ns)) key () root).map (·.1)) e w' ∧ Below w.heap.size w w' := by
  have HWF := hid (way_first (getL ns) key root)
  obtain ⟨R, hR⟩ : ∃ R, R = (wayS (srcNx (getL ns)) key () root).map (·.1) := ⟨_, rfl⟩
  rw [← hR] at HWF ⊢
  clear hR
  obtain ⟨w0, hw0⟩ : ∃ w0, w0 = w.alloc (Obj.cells #[.slice A ns.length c] 71) := ⟨_, rfl⟩
  have hb0 : Below w.heap.size w w0 := by rw [hw0]; exact below_al (below_rf w) _
  have hbx : w0.heap[w.heap.size]? = some (Obj.cells #[.slice A ns.length c] 71 (0, 0)) := by rw [hw0]; exact heap_new _ _
  have x0 : w0.cell? ⟨w.heap.size, 0, none⟩ = some (.slice A ns.length c) := by rw [Go.Lib.cell_of_heap hbx]; rfl
  have hbc : ∀ W, Below w0.heap.size w0 W → W.cell? ⟨w.heap.size, 0, none⟩ = some (.slice A ns.length c) := fun W hW => (hW.cell (World.block_lt_of_cell? _ _ x0)).trans x0
  have hrw : ∀ W, Below w0.heap.size w0 W → Rd W A (strs ns) := fun W hW => (hrd.below hb0).below hW
  have HBC := hid hbc
  have HRW := hid hrw
  have HB0 := hid hb0
  have HS := hid hs
  have HG := hid (fun W (hW : Below w0.heap.size w0 W) p => get_any A c ns p hn hs W (hrw W hW))
  have HG0 := hid (get_any A c ns root hn hs w0 (hrw w0 (below_rf w0)))
  clear hrd hbx hb0 hbc hrw
  go_enter Try.func33, Try.ntmps33
  go_wp2_with fail
  rw [← hw0]
  clear hw0
  (with_reducible refine HG0.out.mono ?_); rintro e w1 ⟨ho, hb1⟩
  have HB1 := hid hb1
  clear x0
  cases hg : getL ns root with
  | none =>
    rw [hg] at ho
    obtain rfl : e = .returned (.tuple #[.string (Str []), .bool false]) := ho
    have HR := hid (show R = none by rw [HWF.out, hg])
    clear hg hb1
    go_wp2
    go_ret2
    exact ⟨.inl ⟨HR.out, rfl⟩, HB0.out.trans (HB1.out.mono HB0.out.size)⟩
  | some s =>
    rw [hg] at ho
    obtain rfl : e = .returned (.tuple #[.string (Str s), .bool true]) := ho
    have hsl := get_short hs hg
    have HPG := hid (parse_gen s w1 hsl)
    have HV := hid (show R = match parseS s with
      | none => none
      | some m => (contW (getL ns) key 33 m).map (s :: ·) by rw [HWF.out, hg])
    clear hg hb1 HWF
    go_wp2_with fail
    (with_reducible refine HPG.out.mono ?_); rintro e w2 ⟨⟨k, A2, n2, c2, ok, rfl, hat⟩, hb2⟩
    have HB2 := hid (below_tr HB1.out hb2)
    unfold RootAt at hat
    cases ok with
    | false =>
      rw [if_neg (by decide)] at hat
      have HR := hid (show R = none by rw [HV.out, hat.1])
      clear hat hb2
      go_wp2
      go_ret2
      exact ⟨.inl ⟨HR.out, rfl⟩, HB0.out.trans (HB2.out.mono HB0.out.size)⟩
    | true =>
      rw [if_pos rfl] at hat
      obtain ⟨lv, its, hps, rfl, rfl, hown2⟩ := hat
      obtain ⟨f1, f2, f3, f4, _⟩ := parse_facts hps
      have HOW2 := hid (own_base hown2 (show w0.heap.size ≤ w1.heap.size from HB1.out.size))
      have HF3 := hid f3
      have HOK := hid (right_ok f4)
      have HV2 : Hid (R = (contW (getL ns) key 33 (lv, its)).map (s :: ·)) := hid (by rw [HV.out, hps])
      obtain ⟨w3, hw3⟩ : ∃ w3, w3 = w2.alloc (Obj.cells #[.string (Str s)] 9) := ⟨_, rfl⟩
      have hb3 : Below w2.heap.size w2 w3 := by rw [hw3]; exact below_al (below_rf w2) _
      have HB3 := hid (below_tr HB2.out hb3)
      have HON : Hid (w3.ownsRow w0.heap.size 9 1 (.slice (some ⟨w2.heap.size, 0, none⟩) 1 1) 1 (strs [s])) := hid (by
        rw [hw3]
        exact own_base (own_new w2 9 1 [.string (Str s)] rfl) HB2.out.size)
      have HOW3 := hid (own_of_below HOW2.out hb3)
      clear f3 f4 hps hown2 hb2 hb3 HV HOW2
      go_wp2
      rw [← hw3]
      clear hw3
      have hrel0 : Hid (R = (contW (getL ns) key 33 (lv, its)).map ([s] ++ ·)) := HV2
      go_loopw [10, 11, 12] (fun lvv iv ov wr => ∃ (lv : Nat) (its : List Itm) (acc : List (List UInt8)) (fu : Nat), lvv = .int .i64 (lv : Int) ∧ lv ≤ fu ∧ lv ≤ 32 ∧ its.length ≤ 16 ∧ acc.length + fu ≤ 34 ∧ Hid (∀ x ∈ its, okVal lv x.2 = true) ∧ Hid (okS its = true) ∧ Hid (R = (contW (getL ns) key fu (lv, its)).map (acc ++ ·)) ∧ wr.ownsRow w0.heap.size 27 2 iv its.length (Itms.its its) ∧ wr.ownsRow w0.heap.size 9 1 ov acc.length (strs acc) ∧ Hid (Below w0.heap.size w0 wr)) (fun lvv _ _ _ => (intOf lvv).toNat)
      case atStart => exact ⟨lv, its, [s], 33, rfl, by omega, f1, f2, by simp, HF3, HOK, hrel0, HOW3.out, HON.out, HB3⟩
      case round =>
        clear hrel0 HV2 HF3 HOK f1 f2 HOW3 HON HB3 HB2 HB1 hsl
        obtain ⟨lv, its, acc, fu, rfl, hlf, hlv, h16, haf, HOV, HOK, HR, hown, hout, HB⟩ := hrel
        obtain ⟨A4, c4, rfl⟩ := own_succ hown
        obtain ⟨A5, c5, rfl⟩ := own_succ hout
        have HOWN := hid hown
        have HOUT := hid hout
        obtain ⟨wo, rfl⟩ : ∃ wo, wo = wr := ⟨_, rfl⟩
        have HBW := hid (HB0.out.trans (HB.out.mono HB0.out.size))
        clear hown hout
        go_wp2
        go_loopw [13] (fun av wi => ∃ a : Nat, a ≤ its.length ∧ av = .int .i64 (a : Int) ∧ Hid (∀ t, t < a → ltS (itm its t).1 key = true) ∧ wi = wo) (fun av _ => its.length - (intOf av).toNat)
        case atStart => exact ⟨0, by omega, rfl, hid (fun t h => by omega), rfl⟩
        case round =>
          obtain ⟨a, ha, rfl, HLO, rfl⟩ := hrel
          by_cases hlt : a < its.length
          · obtain ⟨b4, o4, rfl, hk4, hv4⟩ := rd_itm (rd_own HOWN.out) hlt
            obtain ⟨x, hx⟩ : ∃ x, x = itm its a := ⟨_, rfl⟩
            rw [← hx] at hk4 hv4
            cases hl9 : ltS x.1 key with
            | true =>
              have hl8 : Op.bytesLess x.1 key = true := hl9
              have HLO2 : Hid (∀ t, t < a + 1 → ltS (itm its t).1 key = true) := hid (fun t ht => by
                rcases Nat.lt_or_ge t a with h | h
                · exact HLO.out t h
                · obtain rfl : t = a := by omega
                  rw [← hx]; exact hl9)
              clear hl9 hx
              go_wp2
              go_roundw
              case rel => exact ⟨a + 1, by omega, by go_num, HLO2, trivial⟩
              case measure => simp [intOf]; omega
            | false =>
              have hl8 : Op.bytesLess x.1 key = false := hl9
              have hpl : a = placeS its key := place_end HOK.out ha HLO.out (fun _ => by rw [← hx]; exact hl9)
              have HPL := hid hpl
              have HX := hid hx
              have HLT := hid hlt
              have hne9 : ((a : Int) == (its.length : Int)) = false := beq_eq_false_iff_ne.2 (by omega)
              clear hl9 hpl HLO hx
              by_cases h0 : lv = 0
              · have g0 : ((lv : Int) == 0) = true := beq_iff_eq.2 (by omega)
                have hen : endsAt (lv, its) key = true := by unfold endsAt; rw [decide_eq_true h0]; rfl
                have HRR := hid (show R = some acc by rw [HR.out, cont_end hen]; simp)
                clear hen h0
                go_wp2
                go_ret2
                exact ⟨.inr ⟨acc, _, HRR.out, rfl, own_base HOUT.out HB0.out.size⟩, HBW.out⟩
              · have g0 : ((lv : Int) == 0) = false := beq_eq_false_iff_ne.2 (by omega)
                have hen : ¬ endsAt (lv, its) key = true := by unfold endsAt; dsimp only; rw [← HPL.out, decide_eq_false h0, decide_eq_false (by omega : ¬ a = its.length)]; decide
                obtain ⟨fu', rfl⟩ : ∃ fu', fu = fu' + 1 := ⟨fu - 1, by omega⟩
                have hR := HR.out
                rw [cont_step hen, ← HPL.out, ← HX.out] at hR
                have HRR := hid hR
                have HXO : Hid (okVal lv x.2 = true) := hid (HOV.out x (by rw [HX.out, itm_eq its a hlt]; exact List.getElem_mem _))
                have hx40 := okVal_len HXO.out (by omega)
                have hx32 : 32 ≤ x.2.length := by omega
                have hx32i : (32 : Int) ≤ (x.2.length : Int) := by omega
                have hlv1 : 1 ≤ lv := by omega
                obtain ⟨w5, hw5⟩ : ∃ w5, w5 = wr.alloc (Obj.cells #[.string (Str x.1), .string (Str x.2)] 27) := ⟨_, rfl⟩
                have hb5 : Below wr.heap.size wr w5 := by rw [hw5]; exact below_al (below_rf wr) _
                have hy5 : w5.heap[wr.heap.size]? = some (Obj.cells #[.string (Str x.1), .string (Str x.2)] 27 (0, 0)) := by rw [hw5]; exact heap_new _ _
                have HB5 := hid (below_tr HB.out hb5)
                have y0 : w5.cell? ⟨wr.heap.size, 0, none⟩ = some (.string (Str x.1)) := by rw [Go.Lib.cell_of_heap hy5]; rfl
                have y1 : w5.cell? ⟨wr.heap.size, 1, none⟩ = some (.string (Str x.2)) := by rw [Go.Lib.cell_of_heap hy5]; rfl
                have z0 := HBC.out w5 HB5.out
                have HBE := hid (below_any A c ns lv x hlv1 hlv HXO.out hn hs w5 (HRW.out w5 HB5.out))
                have HOUT5 := hid (own_of_below HOUT.out hb5)
                have HY5 := hid hy5
                have HZ5 := hid (show w0.heap.size ≤ w5.heap.size from Nat.le_trans HB.out.size hb5.size)
                rw [hw5] at y0 y1 z0
                clear hb5 hy5 hR hen h0 hx40
                go_wp2_with fail
                rw [← hw5]
                (with_reducible refine HBE.out.mono ?_); rintro e w6 ⟨⟨A6, n6, c6, ok6, rfl, hbel⟩, hb6⟩
                have HB6 := hid (below_tr HB5.out hb6)
                have HBW6 := hid (HB0.out.trans (HB6.out.mono HB0.out.size))
                have HOUT6 := hid (own_of_below HOUT5.out hb6)
                have hy6 := (hb6.block wr.heap.size (Array.getElem?_eq_some_iff.1 HY5.out).1).trans HY5.out
                have HY6 := hid hy6
                unfold BelAt at hbel
                clear hw5 y0 y1 z0 HBE hy6
                cases ok6 with
                | false =>
                  rw [if_neg (by decide)] at hbel
                  have HRN := hid (show R = none by
                    rw [HRR.out]
                    have h9 := hbel.1
                    rw [bel_node] at h9
                    cases hgq : getL ns (x.2.take 32) with
                    | none => rfl
                    | some q => rw [hgq] at h9; dsimp only at h9 ⊢; rw [h9]; rfl)
                  clear hbel hb6
                  go_wp2
                  go_ret2
                  exact ⟨.inl ⟨HRN.out, rfl⟩, HBW6.out⟩
                | true =>
                  rw [if_pos rfl] at hbel
                  obtain ⟨m, l6, hb9, rfl, hown6⟩ := hbel
                  obtain ⟨e1, _, _, _, hat⟩ := below_lv hb9
                  dsimp only at e1
                  obtain ⟨u1, u2, u3, u4, _⟩ := at_facts hat
                  have hgt : ∃ t, getL ns (x.2.take 32) = some t ∧ nodeS t lv (some x) = some (m, l6) := by
                    rw [bel_node] at hb9
                    cases hgq : getL ns (x.2.take 32) with
                    | none => rw [hgq] at hb9; cases hb9
                    | some q => rw [hgq] at hb9; exact ⟨q, rfl, hb9⟩
                  obtain ⟨t, hg1, hg2⟩ := hgt
                  have hwr : IntKind.i64.wrap ((lv : Int) - 1) = (m : Int) := by rw [IntKind.wrap_i64]; omega
                  have HRN := hid (show R = (contW (getL ns) key fu' (m, l6)).map ((acc ++ [t]) ++ ·) by
                    rw [HRR.out, hg1]; dsimp only; rw [hg2]; dsimp only
                    cases contW (getL ns) key fu' (m, l6) <;> simp)
                  have htl := get_short hs hg1
                  have HO6 := hid (own_base hown6 HZ5.out)
                  have HU3 := hid u3
                  have HU4 := hid (right_ok u4)
                  have hmf : m ≤ fu' := by omega
                  have hml : m < lv := by omega
                  have y0 : w6.cell? ⟨w.heap.size, 0, none⟩ = some (.slice A ns.length c) := HBC.out w6 HB6.out
                  have y1 : w6.cell? ⟨wr.heap.size, 1, none⟩ = some (.string (Str x.2)) := by rw [Go.Lib.cell_of_heap HY6.out]; rfl
                  have n0 : ∀ W, Below w6.heap.size w6 W → W.cell? ⟨w.heap.size, 0, none⟩ = some (.slice A ns.length c) := fun W hW => (hW.cell (World.block_lt_of_cell? _ _ y0)).trans y0
                  have n1 : ∀ W, Below w6.heap.size w6 W → W.cell? ⟨wr.heap.size, 1, none⟩ = some (.string (Str x.2)) := fun W hW => (hW.cell (World.block_lt_of_cell? _ _ y1)).trans y1
                  have hget : ∀ W, Below w6.heap.size w6 W → Calls Try.prog 63 #[.agg #[.slice A ns.length c], .string (Str (x.2.take 32))] W fun e w' => e = .returned (.tuple #[.string (Str t), .bool true]) ∧ Below w6.heap.size w6 w' := fun W hW =>
                    (HG.out W (below_tr HB6.out hW) (x.2.take 32)).mono fun e w' h => ⟨by have := h.1; rw [hg1] at this; exact this, hW.trans (h.2.mono hW.size)⟩
                  clear hb6 hb9 hat hown6 u3 u4 e1 hg1 hg2 y0 y1
                  go_wp2
                  refine wp_region_mild w6.heap.size (by kernel_rfl) (by kernel_rfl) ?_
                  repeat (
                    refine wpQuiet_step (fun K hK => ?_)
                    first
                      | (refine mild_skip (by rfl) (hK _ ?_)
                         clear hK K)
                      | (refine mild_read (by rfl) ?_
                         apply Exists.intro
                         refine ⟨fun W hW => ?_, hK _ ?_⟩
                         (go_simp; first | rfl | (rw [if_neg (by omega)]) | (rw [if_pos (by omega)]))
                         clear hK K)
                      | (refine mild_call (by rfl) ?_
                         apply Exists.intro
                         apply Exists.intro
                         refine ⟨fun W hW => ?_, ?_⟩
                         (go_simp; exact ⟨rfl, rfl⟩)
                         apply Exists.intro
                         refine ⟨fun W hW => ?_, hK _ ?_⟩
                         (with_reducible exact (hget W hW))
                         clear hK K)
                    go_simp)
                  refine wpQuiet_nil ?_
                  intro W hW
                  have HBW7 := hid (below_tr HB6.out hW)
                  have HOUT7 := hid (own_of_below HOUT6.out hW)
                  have HO7 := hid (own_of_below HO6.out hW)
                  have HBWW := hid (below_tr HBW6.out hW)
                  clear n0 n1 hget hW
                  go_wp2_with (at_builtin; (refine wpList_appN W11.ti_st (.tmp 78) (.tmp 80) (by rfl) (by rfl) w0.heap.size [.string (Str t)] 9 1 1 (by rfl) (by rfl) HOUT7.out (by rfl) (by simp [Value.oneCell']) HBW7.out HBW7.out.size (by omega) ?_; intro A7 c7 w7 ho7 hg7 hB7 hs7))
                  have HO8 := hid (own_grown (own_of_below HO7.out (below_al (below_rf W) (Obj.cells [Value.string (Str t)].toArray 9))) hg7 (fun q hq => own_ne (own_of_below HO7.out (below_al (below_rf W) (Obj.cells [Value.string (Str t)].toArray 9))) (own_of_below HOUT7.out (below_al (below_rf W) (Obj.cells [Value.string (Str t)].toArray 9))) (by decide) q hq))
                  go_wp2
                  go_roundw
                  case rel => exact ⟨m, l6, acc ++ [t], fu', rfl, hmf, u1, u2, by simp; omega, HU3, HU4, HRN, HO8.out, by rw [← strs_app, List.length_append]; exact ho7, hid hB7⟩
                  case measure => simp [intOf]; omega
          · obtain rfl : a = its.length := by omega
            have hpl : its.length = placeS its key := place_end HOK.out ha HLO.out (fun h => absurd h hlt)
            have hen : endsAt (lv, its) key = true := by unfold endsAt; dsimp only; rw [← hpl]; simp
            have HRR := hid (show R = some acc by rw [HR.out, cont_end hen]; simp)
            clear hpl hen hlt
            go_wp2
            all_goals
              go_ret2
              exact ⟨.inr ⟨acc, _, HRR.out, rfl, own_base HOUT.out HB0.out.size⟩, HBW.out⟩
end Go.Proofs.Yteeonfnaikndfaa.P08
namespace Go.Proofs.Yteeonfnaikndfaa.P08
open Go Go.RowKit Go.Proofs.Yteeonfnaikndfaa Go.Proofs.Yteeonfnaikndfaa.Lib Go.Proofs.Yteeonfnaikndfaa.Sha Go.Proofs.Yteeonfnaikndfaa.T07 Go.Proofs.Yteeonfnaikndfaa.T08 Go.Proofs.Yteeonfnaikndfaa.Itms Go.Proofs.Yteeonfnaikndfaa.WSeq Go.Proofs.Yteeonfnaikndfaa.Ord Go.Proofs.Yteeonfnaikndfaa.W08 Go.Proofs.Yteeonfnaikndfaa.W01 Go.Proofs.Yteeonfnaikndfaa.Inj Go.Proofs.Yteeonfnaikndfaa.Tree Go.Proofs.Yteeonfnaikndfaa.Bld Go.Proofs.Yteeonfnaikndfaa.QTail Go.Proofs.Yteeonfnaikndfaa.Wit
attribute [local go_sem] Str_size Str_toList Str_extract Str_append List.length_append
theorem four_mod (n : Nat) : [Lib.u8 (IntKind.u8.wrap ((n : Int) / 16777216)), Lib.u8 (IntKind.u8.wrap ((n : Int) / 65536)), Lib.u8 (IntKind.u8.wrap ((n : Int) / 256)), Lib.u8 (IntKind.u8.wrap (n : Int))] = four n := by
  have hw : ∀ x : Int, IntKind.u8.wrap x = x % 256 := fun x => rfl
  unfold four
  rw [hw, hw, hw, hw, u8_mod _ (by omega), u8_mod _ (by omega), u8_mod _ (by omega), u8_mod _ (by omega)]
  rfl
set_option maxRecDepth 100000 in
set_option maxHeartbeats 3200000 in
theorem rbytes_any (A : Option Addr) (c : Nat) (ts : List (List UInt8)) (hn : ts.length ≤ 1000) (hs : ∀ s ∈ ts, s.length ≤ 1000000000) (hb : (bytesS ts).length ≤ 1000000000000) (w : World) (hrd : Rd w A (strs ts)) :
    Calls Try.prog 34 #[.slice A ts.length c] w fun e w' => e = .returned (.string (Str (bytesS ts))) ∧ Below w.heap.size w w' := by
  have HRD := hid hrd
  have HS := hid hs
  have HBL := hid hb
  clear hrd hs hb
  go_enter Try.func34, Try.ntmps34
  go_wp2
  go_loopw [3, 4] (fun sv iv wr => ∃ k : Nat, k ≤ ts.length ∧ iv = .int .i64 (k : Int) ∧ sv = .string (Str (bytesS (ts.take k))) ∧ Hid (Below w.heap.size w wr)) (fun _ iv _ => ts.length - (intOf iv).toNat)
  case atStart => exact ⟨0, by omega, rfl, by rw [List.take_zero]; show _ = Value.string (Str []); rw [Str_nil], hid (below_rf w)⟩
  case round =>
    obtain ⟨k, hk, rfl, rfl, HB⟩ := hrel
    by_cases hlt : k < ts.length
    · obtain ⟨ba, oa, rfl, hc1⟩ := (HRD.out.below HB.out).str hlt
      have hsl := HS.out (sat ts k) (by rw [sat_eq ts k hlt]; exact List.getElem_mem hlt)
      have hsn := W11.bytes_snoc ts k hlt
      obtain ⟨t, ht⟩ : ∃ t, t = sat ts k := ⟨_, rfl⟩
      rw [← ht] at hc1 hsl hsn
      obtain ⟨acc, hacc⟩ : ∃ acc, acc = bytesS (ts.take k) := ⟨_, rfl⟩
      rw [← hacc] at hsn ⊢
      have HSN := hid hsn
      have HACC := hid hacc
      have hal : acc.length ≤ 1000000000000 := by
        rw [hacc]
        have h1 : (bytesS (ts.take k)).length ≤ (bytesS ts).length := by
          conv => rhs; rw [← List.take_append_drop k ts]
          unfold bytesS
          rw [List.map_append, List.flatten_append, List.length_append]; omega
        have := HBL.out
        omega
      have HF := hid (four_mod t.length)
      have h4l : (four t.length).length = 4 := rfl
      have hc1a : (wr.alloc (Obj.cells #[Value.int IntKind.u8 (IntKind.u8.wrap ((t.length : Int) / 16777216)), Value.int IntKind.u8 (IntKind.u8.wrap ((t.length : Int) / 65536)), Value.int IntKind.u8 (IntKind.u8.wrap ((t.length : Int) / 256)), Value.int IntKind.u8 (IntKind.u8.wrap (t.length : Int))] 5)).cell? ⟨ba, oa + k, none⟩ = some (.string (Str t)) := ((below_al (below_rf wr) _).cell (World.block_lt_of_cell? _ _ hc1)).trans hc1
      clear ht hsn hacc
      go_wp2
      refine wp_region_make (MakeD wr.drew (Obj.cells #[Value.int IntKind.u8 (IntKind.u8.wrap ((t.length : Int) / 16777216)), Value.int IntKind.u8 (IntKind.u8.wrap ((t.length : Int) / 65536)), Value.int IntKind.u8 (IntKind.u8.wrap ((t.length : Int) / 256)), Value.int IntKind.u8 (IntKind.u8.wrap (t.length : Int))] 5)) 12 (fun i => decide (i = 13)) (by decide) ?hpr (by decide) (by kernel_rfl) (by kernel_rfl) rfl ?hw
      case hpr =>
        intro i hi
        have e : i = 13 := by simpa using hi
        subst e
        show reachB _ _ _ 13 12 = true
        kernel_rfl
      case hw =>
        repeat (
          refine wpQuietK_step (fun K hK => ?_)
          first
            | (refine mk_read (by rfl) (by decide) ?_
               apply Exists.intro
               refine ⟨fun b W hW => ?_, hK _ ?_⟩
               (rcases b with _ | _
                · (have hW' : W = wr.drew := hW); subst hW'; (go_simp) <;> (first | rfl | (rw [if_neg (by omega)]) | (rw [if_pos (by omega)]) | omega)
                · (have hW' := (show W = wr.drew.alloc _ from hW)); subst hW'; (go_simp) <;> (first | rfl | (rw [if_neg (by omega)]) | (rw [if_pos (by omega)]) | omega))
               clear hK K)
          go_simp)
        refine wpQuietK_step (fun K hK => ?_)
        refine mk_make (by rfl) (by rfl) ?_
        apply Exists.intro
        refine ⟨fun W hW => ?_, hK _ ?_⟩
        · (have hW' : W = wr.drew := hW); subst hW'
          refine ⟨_, ?_, rfl⟩
          go_simp
          rfl
        clear hK K
        go_simp
        refine wpQuietK_step (fun K hK => ?_)
        refine mk_post (by rfl) (by decide) (by rfl) ?_
        apply Exists.intro
        refine ⟨fun W hW => ?_, hK _ ?_⟩
        · (have hW' := (show W = wr.drew.alloc _ from hW)); subst hW'
          go_simp
          have h4 : (convert 33 9 (Value.slice (some ⟨wr.heap.size, 0, none⟩) 4 4)).run Try.prog (wr.alloc (Obj.cells #[Value.int IntKind.u8 (IntKind.u8.wrap ((t.length : Int) / 16777216)), Value.int IntKind.u8 (IntKind.u8.wrap ((t.length : Int) / 65536)), Value.int IntKind.u8 (IntKind.u8.wrap ((t.length : Int) / 256)), Value.int IntKind.u8 (IntKind.u8.wrap (t.length : Int))] 5)).drew = .ok (.string (Str (four t.length))) (wr.alloc (Obj.cells #[Value.int IntKind.u8 (IntKind.u8.wrap ((t.length : Int) / 16777216)), Value.int IntKind.u8 (IntKind.u8.wrap ((t.length : Int) / 65536)), Value.int IntKind.u8 (IntKind.u8.wrap ((t.length : Int) / 256)), Value.int IntKind.u8 (IntKind.u8.wrap (t.length : Int))] 5)).drew := by
            rw [← HF.out]
            exact conv4 wr.drew 33 5 9 5 Try.underlying33 Try.underlying5 Try.underlying9 _ _ _ _ 4
          rw [h4]
          rfl
        clear hK K
        go_simp
        repeat (
          refine wpQuietK_step (fun K hK => ?_)
          first
            | (refine mk_read (by rfl) (by decide) ?_
               apply Exists.intro
               refine ⟨fun b W hW => ?_, hK _ ?_⟩
               (rcases b with _ | _
                · (have hW' : W = wr.drew := hW); subst hW'; (go_simp) <;> (first | rfl | (rw [if_neg (by omega)]) | (rw [if_pos (by omega)]) | omega)
                · (have hW' := (show W = wr.drew.alloc _ from hW)); subst hW'; (go_simp) <;> (first | rfl | (rw [if_neg (by omega)]) | (rw [if_pos (by omega)]) | omega))
               clear hK K)
          go_simp)
        refine wpQuietK_nil ?_
        intro W hW
        have hWb : Below wr.heap.size wr W := by
          rw [show W = (wr.alloc (Obj.cells #[Value.int IntKind.u8 (IntKind.u8.wrap ((t.length : Int) / 16777216)), Value.int IntKind.u8 (IntKind.u8.wrap ((t.length : Int) / 65536)), Value.int IntKind.u8 (IntKind.u8.wrap ((t.length : Int) / 256)), Value.int IntKind.u8 (IntKind.u8.wrap (t.length : Int))] 5)).drew from hW]
          exact below_drewN (below_al (below_rf wr) _) 1
        have HB2 := hid (below_tr HB.out hWb)
        clear hW hWb
        go_wp2
        go_roundw
        case rel => exact ⟨k + 1, by omega, by go_num, by rw [HSN.out], HB2⟩
        case measure => simp [intOf]; omega
    · obtain rfl : k = ts.length := by omega
      rw [List.take_length]
      go_wp2
      go_ret
      exact ⟨rfl, HB.out⟩
end Go.Proofs.Yteeonfnaikndfaa.P08
