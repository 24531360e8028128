/- A region whose copies and slices are taken first and whose rest comes up one by one; append onto what has no room; pairs put in where they belong. -/
import Derived.Test.YtoidbgedpakjmaaMild
import Derived.Test.YtoidbgedpakjmaaOrd
import Derived.ArgAppend
set_option linter.unusedVariables false
set_option linter.unusedSimpArgs false
namespace Go.Proofs.Ytoidbgedpakjmaa.QTail
open Go Go.RowKit Go.Proofs.Ytoidbgedpakjmaa.Lib
variable {P : Program} {ops : Array Oper}
def forcedB (md : Region.Mode) (ops : Array Oper) : List Nat → Array Bool → Bool
  | [], listed => (Region.ready md ops listed).isEmpty
  | k :: ks, listed => decide (Region.ready md ops listed = [k]) && forcedB md ops ks (listed.setIfInBounds k true)
def opAt (l : List Oper) (k : Nat) : Oper := l.getD k ⟨none, .move (.tmp 0), 0, "", #[], none⟩
def opsAt (l : List Oper) (ks : List Nat) : List Oper := ks.map (opAt l)
theorem opsAt_cons {i : Nat} {is : List Nat} {o : Oper} (ho : ops[i]? = some o) : opsAt ops.toList (i :: is) = o :: opsAt ops.toList is := by
  have h : ops.toList[i]? = some o := by simpa using ho
  show opAt ops.toList i :: _ = _
  rw [opAt, List.getD_eq_getElem?_getD, h]; rfl
theorem wpAny_forced {md : Region.Mode} {Q : Exit → Act → World → Prop} : ∀ (ks : List Nat) (listed : Array Bool) (a : Act) (w : World), forcedB md ops ks listed = true → wpList P ops Q (opsAt ops.toList ks) a w → wpAny P md ops Q ks.length listed a w
  | [], listed, a, w, hB, h => ⟨by simpa [forcedB] using hB, h⟩
  | k :: ks, listed, a, w, hB, h => by
    simp only [forcedB, Bool.and_eq_true, decide_eq_true_eq] at hB
    have hk : k ∈ Region.ready md ops listed := by rw [hB.1]; simp
    obtain ⟨_, o, ho, _⟩ := mem_ready.1 hk
    refine ⟨fun h1 => (by rw [hB.1] at h1; cases h1), fun i hi => ?_⟩
    rw [hB.1] at hi
    obtain rfl : i = k := by simpa using hi
    have hl : opsAt ops.toList (i :: ks) = o :: opsAt ops.toList ks := opsAt_cons ho
    rw [hl] at h
    have hw : wpOp P ops Q i (wpList P ops Q (opsAt ops.toList ks)) a w := by unfold wpOp; simp only [ho]; exact h
    exact wpOp_mono (fun a' w' h' => wpAny_forced ks _ a' w' hB.2 h') hw
def takesB (md : Region.Mode) (ops : Array Oper) (ks : List Nat) : List Nat → Array Bool → Bool
  | [], listed => forcedB md ops ks listed
  | i :: is, listed => (Region.ready md ops listed).contains i && Region.free md ops listed i && takesB md ops ks is (listed.setIfInBounds i true)
def wpTakes (P : Program) (ops : Array Oper) (Q : Exit → Act → World → Prop) (K : Act → Prop) : List Oper → Act → Prop
  | [], a => K a
  | o :: os, a => ∃ v, Yields P ops o v a ∧ (∀ c a w, Q (.panic c) (Act.put a o.dst v) w → Q (.panic c) a w) ∧ wpTakes P ops Q K os (a.put o.dst v)
theorem wpAny_takes {md : Region.Mode} {Q : Exit → Act → World → Prop} (hs : Region.noSelect ops = true) (ks : List Nat) : ∀ (is : List Nat) (listed : Array Bool) (a : Act) (w : World), takesB md ops ks is listed = true →
    wpTakes P ops Q (fun a' => wpList P ops Q (opsAt ops.toList ks) a' w) (opsAt ops.toList is) a → wpAny P md ops Q (is.length + ks.length) listed a w
  | [], listed, a, w, hB, h => by rw [List.length_nil, Nat.zero_add]; exact wpAny_forced ks listed a w hB h
  | i :: is, listed, a, w, hB, h => by
    simp only [takesB, Bool.and_eq_true] at hB
    have hk : i ∈ Region.ready md ops listed := by simpa using hB.1.1
    obtain ⟨_, o, ho, _⟩ := mem_ready.1 hk
    have hl : opsAt ops.toList (i :: is) = o :: opsAt ops.toList is := opsAt_cons ho
    rw [hl] at h
    obtain ⟨v, hy, hq, h⟩ := h
    rw [List.length_cons, Nat.add_right_comm]
    exact wpAny_take ho hs hB.1.2 hB.1.1 hq hy (wpAny_takes hs ks is _ _ w hB.2 h)
/-- The operations 'is' yield in whatever world: they are taken first; the rest comes up one by one, in the order 'ks'. -/
theorem wp_region_takes {id : Nat} {Q : Exit → Act → World → Prop} {a : Act} {w : World} {l : List Oper} (is ks : List Nat) (hm : P.follows .mixedOrders = true) (hs : Region.noSelect l.toArray = true) (hlen : is.length + ks.length = l.length)
    (hB : takesB .any l.toArray ks is (Array.replicate l.length false) = true)
    (h : wpTakes P l.toArray Q (fun a' => wpList P l.toArray Q (opsAt l ks) a' (w.drewN 1)) (opsAt l is) a) : (Code.region id l.toArray true).wp P Q a w := by
  refine wp_region_any hm ?_
  have := wpAny_takes hs ks is _ _ _ hB h
  rw [hlen] at this
  exact this
theorem takes_cons {Q : Exit → Act → World → Prop} {K : Act → Prop} {o : Oper} {os : List Oper} {a : Act} (hw : Region.wanted o (yielded ops a.tmps) = true) (h : ∃ v, (∀ w, (execOp a.eval o).run P w = .ok (.value v) w) ∧ (∀ c a w, Q (.panic c) (Act.put a o.dst v) w → Q (.panic c) a w) ∧ wpTakes P ops Q K os (a.put o.dst v)) : wpTakes P ops Q K (o :: os) a := by
  obtain ⟨v, h1, hq, h2⟩ := h
  exact ⟨v, .inl ⟨hw, h1⟩, hq, h2⟩
theorem takes_nil {Q : Exit → Act → World → Prop} {K : Act → Prop} {a : Act} (h : K a) : wpTakes P ops Q K [] a := h
end Go.Proofs.Ytoidbgedpakjmaa.QTail
namespace Go.Proofs.Ytoidbgedpakjmaa.Lib
open Go Go.RowKit
theorem own_mono {w : World} {base base' n : Nat} {e : TypeId} {size : Nat} {v : Value} {xs : List Value} (h : w.ownsRow base e size v n xs) (hb : base' ≤ base) : w.ownsRow base' e size v n xs := by
  refine ⟨h.1, ?_⟩
  rcases h.2 with h | ⟨g, cap, cur, h1, h2, h3⟩
  · exact .inl h
  · exact .inr ⟨g, cap, cur, h1, Nat.le_trans hb h2, h3⟩
theorem rd_own {w : World} {base n c : Nat} {e : TypeId} {size : Nat} {A : Option Addr} {xs : List Value} (h : w.ownsRow base e size (.slice A n c) n xs) : Rd w A xs := by
  obtain ⟨A', c', e, _, hr⟩ := Rd.own h
  injection e with e1 e2 e3
  subst e1
  exact hr
theorem own_new (w : World) (e : TypeId) (size : Nat) (vs : List Value) (h : vs.length = size) : (w.alloc (.cells vs.toArray e)).ownsRow w.heap.size e size (.slice (some ⟨w.heap.size, 0, none⟩) 1 1) 1 vs :=
  ⟨by omega, .inr ⟨w.heap.size, 1, vs.toArray, rfl, Nat.le_refl _, heap_alloc_new w _, Nat.le_refl _, by decide, by simp [h], by rw [Nat.one_mul]; exact List.take_of_length_le (Nat.le_of_eq h)⟩⟩
/-- Whatever slice's elements behind a row of the call's own. -/
theorem wpList_appR {P : Program} {ops : Array Oper} {rest : List Oper} {o : Oper} {a : Act} {Q : Exit → Act → World → Prop} {W : World} {t e : TypeId} {size bytes : Nat} (ti : TI P t e size bytes) (s x : Operand)
    (hgd : Region.wanted o (yielded ops a.tmps) = true) (ho : o.op = .call { callee := .builtin .append, args := #[s, x], argTypes := #[t, t] }) (base : Nat) {v : Value} {n : Nat} {xs : List Value} (news : List Value) (A : Option Addr) (m c : Nat)
    (hs : a.eval s = v) (hx : a.eval x = .slice A m c) (hrd : Rd W A news) (hown : W.ownsRow base e size v n xs) (hl : news.length = m * size) (h1 : ∀ u ∈ news, u.oneCell' = true) (hb0 : base ≤ W.heap.size) (hbytes : (n + m) * bytes ≤ 140737488355328)
    (h : ∀ A' c' w', w'.ownsRow base e size (.slice A' (n + m) c') (n + m) (xs ++ news) → W.grownBy w' v.ownBlock → wpList P ops Q rest (a.put o.dst (.slice A' (n + m) c')) w') :
    wpList P ops Q (o :: rest) a W := by
  obtain ⟨i, z, h1', h2, h3, h4, h5, h6, h7, h8⟩ := ti
  have hn : n + m ≤ 140737488355328 := Nat.le_trans (Nat.le_mul_of_pos_right (n + m) h8) hbytes
  refine wpList_run hgd ?_
  cases A with
  | some ad =>
    refine wp_append_own _ s x t ho base e i z size bytes h1' h2 h3 h4 h5 h6 h7 v n xs hs hown ad m c news hx hl ?_ h1 (by unfold maxLen; omega) hbytes hb0 ?_
    · intro j u hj
      rcases hrd with rfl | ⟨b, o, e, hc⟩
      · simp at hj
      · cases e
        rw [Addr.add_lit]
        exact hc j u hj
    · intro v' w' ho' hg _
      obtain ⟨A', c', rfl⟩ := own_succ ho'
      exact h A' c' w' ho' hg
  | none =>
    have hnn : news = [] := by
      rcases hrd with rfl | ⟨b, o, e, hc⟩
      · rfl
      · cases e
    subst hnn
    have hm0 : m = 0 := by
      rw [List.length_nil] at hl
      rcases Nat.mul_eq_zero.1 hl.symm with h | h
      · exact h
      · omega
    subst hm0
    have hrun : (Builtin.append_ #[t, t] o.type #[v, .slice none 0 c]).run P W = .ok v W := by
      rcases hown.2 with ⟨rfl, rfl⟩ | ⟨g, cap, cur, rfl, hbg, hg, hnc, hcm, hcs, htake⟩
      · simp [Builtin.append_, run_underlying h1', sizeOf, typeInfo, h2, Builtin.lenOf, Builtin.firstCells]
      · simp [Builtin.append_, run_underlying h1', sizeOf, typeInfo, h2, Builtin.lenOf, Builtin.firstCells, hnc, storeCells]
    obtain ⟨A', c', hv⟩ := own_succ hown
    unfold Oper.wp execOp
    simp only [ho, resolve, invoke, builtin, Sem.run_bind, Sem.run_pure, Result.andThen_ok, List.map_toArray, List.map_cons, List.map_nil, hs, hx, hrun]
    subst hv
    exact h A' c' W (by rw [List.append_nil]; exact hown) ⟨rfl, rfl, rfl, Nat.le_refl _, fun _ _ _ => rfl⟩
/-- Elements behind a slice that has no room for them: a new row. -/
theorem wpList_appG {P : Program} {ops : Array Oper} {rest : List Oper} {o : Oper} {a : Act} {Q : Exit → Act → World → Prop} {W : World} {t e : TypeId} {size bytes : Nat} (ti : TI P t e size bytes) (s x : Operand)
    (hgd : o.guard = none) (ho : o.op = .call { callee := .builtin .append, args := #[s, x], argTypes := #[t, t] }) (A : Option Addr) (n cap : Nat) (olds : List Value) (news : List Value) (B : Option Addr) (m c : Nat)
    (hs : a.eval s = .slice A n cap) (hx : a.eval x = .slice B m c) (hro : Rd W A olds) (hno : A = none → n = 0 ∧ cap = 0) (hlo : olds.length = n * size) (hrd : Rd W B news) (hl : news.length = m * size) (h1 : ∀ u ∈ news, u.oneCell' = true) (hfull : cap < n + m) (hm : 0 < m) (hbytes : (n + m) * bytes ≤ 140737488355328)
    (h : ∀ A' c' w', w'.ownsRow W.heap.size e size (.slice A' (n + m) c') (n + m) (olds ++ news) → Below W.heap.size W w' → wpList P ops Q rest (a.put o.dst (.slice A' (n + m) c')) w') :
    wpList P ops Q (o :: rest) a W := by
  obtain ⟨i, z, h1', h2, h3, h4, h5, h6, h7, h8⟩ := ti
  have hn : n + m ≤ 140737488355328 := Nat.le_trans (Nat.le_mul_of_pos_right (n + m) h8) hbytes
  have hnz : 0 < news.length := by rw [hl]; exact Nat.mul_pos hm h7
  rcases hrd with rfl | ⟨b, off, rfl, hc⟩
  · simp at hnz
  · refine wpList_append_grows W hgd s x t ho e i z size bytes h1' h2 h3 h4 h5 h6 h7 A n cap olds hs hno hlo ?_ ⟨b, off, none⟩ m c news hx hl (fun j u hj => by rw [Addr.add_lit]; exact hc j u hj) h1 hfull (by unfold maxLen; omega) hbytes ?_
    · rintro ⟨b', o', p'⟩ e j u hj
      rcases hro with rfl | ⟨b2, o2, e2, hc2⟩
      · simp at hj
      · rw [e] at e2; cases e2
        rw [Addr.add_lit]
        exact hc2 j u hj
    · intro v' w' ho' hg
      obtain ⟨A', c', rfl⟩ := own_succ ho'
      exact h A' c' w' ho' ⟨hg.os, hg.tape, hg.output, hg.size, fun k hk => hg.block k hk (by simp)⟩
end Go.Proofs.Ytoidbgedpakjmaa.Lib
namespace Go.Proofs.Ytoidbgedpakjmaa.Ord
open Go.Proofs.Ytoidbgedpakjmaa.Lib Go.Proofs.Ytoidbgedpakjmaa.T08 Go.Proofs.Ytoidbgedpakjmaa.Itms Go.Proofs.Ytoidbgedpakjmaa.WSeq
/-- the first place whose key is not less -/
def placeS : List Itm → List UInt8 → Nat
  | [], _ => 0
  | y :: l, key => if ltS y.1 key = true then placeS l key + 1 else 0
theorem place_le : ∀ (l : List Itm) (key : List UInt8), placeS l key ≤ l.length
  | [], _ => Nat.le_refl _
  | y :: l, key => by
    unfold placeS
    have := place_le l key
    split
    · simpa using this
    · exact Nat.zero_le _
theorem place_at : ∀ (l : List Itm) (key : List UInt8) (a : Nat), a ≤ l.length → (∀ t, t < a → ltS (itm l t).1 key = true) → (a < l.length → ltS (itm l a).1 key = false) → placeS l key = a
  | [], key, a, h, _, _ => by
    obtain rfl : a = 0 := by simpa using h
    rfl
  | y :: l, key, 0, _, _, h => by
    have h0 : ltS y.1 key = false := h (by simp)
    unfold placeS
    rw [h0]; rfl
  | y :: l, key, a + 1, h, h1, h2 => by
    have h0 : ltS y.1 key = true := h1 0 (by omega)
    unfold placeS
    rw [if_pos h0, place_at l key a (by simpa using h) (fun t ht => h1 (t + 1) (by omega)) (fun ha => h2 (by simpa using ha))]
def insS (m : List Itm) (x : Itm) : List Itm := if placeS m x.1 < m.length ∧ (itm m (placeS m x.1)).1 = x.1 then m else m.take (placeS m x.1) ++ x :: m.drop (placeS m x.1)
def risingS (l : List Itm) : List Itm := l.foldl insS []
theorem rising_take (l : List Itm) (k : Nat) (h : k < l.length) : risingS (l.take (k + 1)) = insS (risingS (l.take k)) (itm l k) := by
  unfold risingS
  rw [take_itm l k h, List.foldl_append]
  rfl
theorem ins_len (m : List Itm) (x : Itm) : (insS m x).length ≤ m.length + 1 := by
  unfold insS
  have := place_le m x.1
  split
  · omega
  · simp; omega
theorem rising_len (l : List Itm) (k : Nat) : k ≤ l.length → (risingS (l.take k)).length ≤ k := by
  induction k with
  | zero => intro _; simp [risingS]
  | succ k ih =>
    intro h
    rw [rising_take l k h]
    have := ih (by omega)
    have := ins_len (risingS (l.take k)) (itm l k)
    omega
end Go.Proofs.Ytoidbgedpakjmaa.Ord
