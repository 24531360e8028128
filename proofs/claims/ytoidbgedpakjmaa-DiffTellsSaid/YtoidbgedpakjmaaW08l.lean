/- The walks of layer 8: a run over a tree of one node. The walks of layer 8: all pairs of a tree of one node. A run's pairs as a list: seq.List. -/
import Derived.Test.YtoidbgedpakjmaaW08q
import Derived.Maps.AppendAt
set_option linter.unusedVariables false
set_option linter.unusedSimpArgs false
namespace Go.Proofs.Ytoidbgedpakjmaa.W08
open Go.RowKit Go.Shelf Go.Proofs.Ytoidbgedpakjmaa.Lib Go.Proofs.Ytoidbgedpakjmaa.Sha Go.Proofs.Ytoidbgedpakjmaa.T08 Go.Proofs.Ytoidbgedpakjmaa.QTail Go.Proofs.Ytoidbgedpakjmaa.Itms Go.Proofs.Ytoidbgedpakjmaa.WSeq Go.Proofs.Ytoidbgedpakjmaa.Bld Go.Proofs.Ytoidbgedpakjmaa.Mp Go.Proofs.Ytoidbgedpakjmaa.Ord
attribute [local go_sem] Oper.semAt_some
attribute [local go_sem] Str_size Str_toList Str_extract Str_append Str_get bt_nn bt_lt List.length_append take_rest
def ownOf (BX : Nat) (W : World) : Option Nat := (W.cell? ⟨BX, 0, none⟩).bind Value.ownBlock
/-- what a round keeps: all cells but one variable's, and the row that the variable owns -/
structure KeepBut (BX : Nat) (W W' : World) : Prop where
  size : W.heap.size ≤ W'.heap.size
  cells : ∀ k cs t fr, W.heap[k]? = some (.cells cs t fr) → k ≠ BX → ownOf BX W ≠ some k → W'.heap[k]? = some (.cells cs t fr)
  own : ∀ k, ownOf BX W' = some k → ownOf BX W = some k ∨ W.heap.size ≤ k
theorem keep_t {BX : Nat} {A B C : World} (h : KeepBut BX A B) (k : KeepBut BX B C) : KeepBut BX A C := by
  refine ⟨Nat.le_trans h.size k.size, fun j cs t fr h1 h2 h3 => ?_, fun j hj => ?_⟩
  · refine k.cells j cs t fr (h.cells j cs t fr h1 h2 h3) h2 (fun e => ?_)
    rcases h.own j e with e2 | e2
    · exact h3 e2
    · have := (Array.getElem?_eq_some_iff.1 h1).1; omega
  · rcases k.own j hj with e | e
    · exact h.own j e
    · exact .inr (Nat.le_trans h.size e)
theorem cell_putObj {W : World} {l : Nat} {o o' : Obj} (h : W.heap[l]? = some o) (hc : o.isCells = false) (hc' : o'.isCells = false) (p : Addr) : True := trivial
/-- a block is safe: it is not the variable's, nor the row's that the variable owns; it holds what it held -/
structure Safe (BX : Nat) (W0 W : World) (k : Nat) : Prop where
  ne : k ≠ BX
  own : ownOf BX W ≠ some k
  lt : k < W0.heap.size
  size : W0.heap.size ≤ W.heap.size
  same : ∀ cs t fr, W0.heap[k]? = some (.cells cs t fr) → W.heap[k]? = some (.cells cs t fr)
theorem Safe.keep {BX : Nat} {W0 W W1 : World} {k : Nat} (h : Safe BX W0 W k) (hk : KeepBut BX W W1) : Safe BX W0 W1 k := by
  refine ⟨h.ne, fun e => ?_, h.lt, Nat.le_trans h.size hk.size, fun cs t fr hc => hk.cells k cs t fr (h.same cs t fr hc) h.ne h.own⟩
  rcases hk.own k e with e2 | e2
  · exact h.own e2
  · have := h.lt; have := h.size; omega
theorem keep_below {BX : Nat} {W W1 : World} (hB : Below W.heap.size W W1) (hlt : BX < W.heap.size) : KeepBut BX W W1 := by
  have e : ownOf BX W1 = ownOf BX W := by unfold ownOf; rw [hB.cell (p := ⟨BX, 0, none⟩) hlt]
  exact ⟨hB.size, fun k cs t fr h1 _ _ => (hB.block k (Array.getElem?_eq_some_iff.1 h1).1).trans h1, fun k hk => .inl (e ▸ hk)⟩
theorem grown_below {W W1 : World} (hB : Below W.heap.size W W1) : W.grownBy W1 none := ⟨hB.os, hB.tape, hB.output, hB.size, fun k hk _ => hB.block k hk⟩
theorem abides_below {J : List Itm → World → Prop} {B : Nat} (hJ : AbidesFrom B J) {s : List Itm} {W W1 : World} (h : J s W) (hB : Below W.heap.size W W1) : J s W1 :=
  hJ s W W1 none h (grown_below hB) (fun r e => by cases e)
theorem Safe.rd {BX : Nat} {W0 W : World} {A : Option Addr} {xs : List Value} (hrd : Rd W0 A xs) (hs : ∀ a, A = some a → Safe BX W0 W a.block ∧ ∃ cs t fr, W0.heap[a.block]? = some (.cells cs t fr)) : Rd W A xs := by
  rcases hrd with h | ⟨b, o, rfl, h⟩
  · exact .inl h
  · obtain ⟨h1, cs, t, fr, h2⟩ := hs _ rfl
    refine .inr ⟨b, o, rfl, fun j x hj => ?_⟩
    rw [← h j x hj]
    exact cell?_of_heap (by show W.heap[b]? = W0.heap[b]?; rw [h2]; exact h1.same cs t fr h2)
theorem safe_of {BX : Nat} {W : World} {k : Nat} (h1 : k ≠ BX) (h2 : ownOf BX W ≠ some k) (h3 : k < W.heap.size) : Safe BX W W k := ⟨h1, h2, h3, Nat.le_refl _, fun _ _ _ h => h⟩
theorem Safe.move {BX : Nat} {W0 W1 W : World} {k : Nat} (h : Safe BX W0 W1 k) (h2 : Safe BX W1 W k) : Safe BX W0 W k :=
  ⟨h.ne, h2.own, h.lt, Nat.le_trans h.size h2.size, fun cs t fr hc => h2.same cs t fr (h.same cs t fr hc)⟩
end Go.Proofs.Ytoidbgedpakjmaa.W08
namespace Go.Proofs.Ytoidbgedpakjmaa.W08
open Go.RowKit Go.Shelf Go.Proofs.Ytoidbgedpakjmaa.Lib Go.Proofs.Ytoidbgedpakjmaa.Sha Go.Proofs.Ytoidbgedpakjmaa.T08 Go.Proofs.Ytoidbgedpakjmaa.QTail Go.Proofs.Ytoidbgedpakjmaa.Itms Go.Proofs.Ytoidbgedpakjmaa.WSeq Go.Proofs.Ytoidbgedpakjmaa.Bld Go.Proofs.Ytoidbgedpakjmaa.Mp Go.Proofs.Ytoidbgedpakjmaa.Ord
attribute [local go_sem] Oper.semAt_some
attribute [local go_sem] Str_size Str_toList Str_extract Str_append Str_get bt_nn bt_lt List.length_append take_rest
theorem round_any {F : Fence} (hd : F.depth = none) {m m' : Nat} {P : Program} {l : Nat} {f : FuncId} {tmps : Array Value} {assign body : Code} {w : World} {R : Ending → World → Prop}
    (h : RoundIn F m P l f tmps assign body w R) : RoundIn F m' P l f tmps assign body w R := ⟨h.1, fun c cs _ => h.2 c cs (fun d h => by rw [hd] at h; cases h)⟩
theorem yield_any {F : Fence} (hd : F.depth = none) {m : Nat} (m' : Nat) {P : Program} {l : Nat} {args : Array Value} {W : World} {R : Ending → World → Prop} (h : YieldAt F m P l args W R) : YieldAt F m' P l args W R := by
  obtain ⟨fn, tmps, assign, body, hy, hR⟩ := h
  exact ⟨fn, tmps, assign, body, hy, round_any hd hR⟩
theorem place_nil (l : List Itm) : PlaceAt l [] 0 := ⟨Nat.zero_le _, fun t h => absurd h (Nat.not_lt_zero _), fun t _ _ => by unfold ltS; cases (itm l t).1 <;> rfl⟩
end Go.Proofs.Ytoidbgedpakjmaa.W08
namespace Go.Proofs.Ytoidbgedpakjmaa.W08
open Go.RowKit Go.Shelf Go.Proofs.Ytoidbgedpakjmaa.Lib Go.Proofs.Ytoidbgedpakjmaa.T08 Go.Proofs.Ytoidbgedpakjmaa.Itms Go.Proofs.Ytoidbgedpakjmaa.WSeq Go.Proofs.Ytoidbgedpakjmaa.Bld
attribute [local go_sem] Oper.semAt_some
theorem wpListIn_app2 {F : Fence} {n : Nat} {P : Program} (w : World) {ops : Array Oper} {rest : List Oper} {o : Oper} {a : Act} {Q : Exit → Act → World → Prop} {t e : TypeId} {size bytes : Nat} (ti : TI P t e size bytes)
    (hg : o.guard = none) (s x : Operand) (hop : o.op = Op.call { callee := Callee.builtin Builtin.append, args := #[s, x], argTypes := #[t, t] }) (base : Nat) {v : Value} {k : Nat} {xs : List Value} (A : Option Addr) (m c : Nat) (news : List Value)
    (hs : a.eval s = v) (hx : a.eval x = .slice A m c) (hown : w.ownsRow base e size v k xs) (hl : news.length = m * size) (hr : Rd w A news) (hA : A = none → m = 0) (hsp : ∀ a, A = some a → a.spot = none) (h1 : ∀ u ∈ news, u.oneCell' = true) (hb0 : base ≤ w.heap.size) (hbytes : (k + m) * bytes ≤ 140737488355328)
    (hK : ∀ v' w', w'.ownsRow base e size v' (k + m) (xs ++ news) → w.grownBy w' v.ownBlock → (v'.ownBlock = v.ownBlock ∨ v'.ownBlock = some w.heap.size) → wpListIn F n P ops Q rest (a.put o.dst v') w') :
    wpListIn F n P ops Q (o :: rest) a w := by
  refine wpListIn_plain hg fun K hK' => ?_
  obtain ⟨v', w', hrun, r1, r2, r3⟩ := run_appS w ti o.type base hown A m c news hl hr hA hsp h1 hbytes hb0
  unfold Oper.wpIn
  refine ⟨?_, ?_⟩
  · simp [Oper.about, hop, resolve, Target.leads, Sem.run_pure]
  · rw [Oper.semAt_plain F _ _ (by rw [hop]; intro c hc'; cases hc')]
    simp [execOp, hop, resolve, invoke, builtin, hs, hx, hrun, Result.andThen]
    exact hK' _ _ (hK v' w' r1 r2 r3)
theorem keep_b {BX : Nat} {w : World} (hBX : BX < w.heap.size) (W : World) (l : Nat) (o o' : Obj) (hl : w.heap.size ≤ l) (h : W.heap[l]? = some o) (hc : o.isCells = false) (_ : o.isWalk = false) : KeepBut BX W (W.putObj l o') := by
  have hg := grownBy_putObj' W l o'
  have e : ownOf BX (W.putObj l o') = ownOf BX W := by
    unfold ownOf
    have h2 : BX < W.heap.size := Nat.lt_of_lt_of_le hBX (Nat.le_trans hl (Nat.le_of_lt (Array.getElem?_eq_some_iff.1 h).1))
    rw [cell?_of_heap (w := W) (w1 := W.putObj l o') (p := ⟨BX, 0, none⟩) (hg.block BX h2 (by simp; omega))]
  refine ⟨hg.size, fun k cs t fr h1 _ _ => ?_, fun k hk => .inl (e ▸ hk)⟩
  refine (hg.block k (Array.getElem?_eq_some_iff.1 h1).1 (fun e => ?_)).trans h1
  injection e with e
  subst e
  rw [h] at h1
  injection h1 with h1
  subst h1
  cases hc
end Go.Proofs.Ytoidbgedpakjmaa.W08
