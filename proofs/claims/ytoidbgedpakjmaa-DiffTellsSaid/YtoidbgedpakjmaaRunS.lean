/- Runs over runs: what a run made of another one keeps. Runs over pairs of texts: seq.Of, seq.List, seq.Within. -/
import Derived.Test.YtoidbgedpakjmaaRun
import Derived.Shelf.Abstract
import Derived.Shelf.RegionOpen
import Derived.WalkKit
import Derived.OwnWalkIn
import Derived.TacticsInMore
import Derived.LoopNIn
import Derived.LoopIn
import Derived.Test.YtoidbgedpakjmaaOrd
import Derived.Test.YtoidbgedpakjmaaProg
set_option linter.unusedVariables false
set_option linter.unusedSimpArgs false
namespace Go.Proofs.Ytoidbgedpakjmaa.Run
open Go Go.RowKit Go.Proofs.Ytoidbgedpakjmaa.Lib
section
variable {α : Type}
/-- how many of the first i are kept -/
def idx (p : α → Bool) (xs : List α) (i : Nat) : Nat := ((xs.take i).filter p).length
theorem idx_0 (p : α → Bool) (xs : List α) : idx p xs 0 = 0 := rfl
theorem idx_step (p : α → Bool) (xs : List α) (i : Nat) (h : i < xs.length) : idx p xs (i + 1) = if p xs[i] then idx p xs i + 1 else idx p xs i := by
  unfold idx
  rw [List.take_succ_eq_append_getElem h, List.filter_append]
  by_cases hp : p xs[i] = true
  · rw [if_pos hp]; simp [List.filter_cons, hp]
  · rw [if_neg hp]; simp [List.filter_cons, hp]
theorem idx_all (p : α → Bool) (xs : List α) : idx p xs xs.length = (xs.filter p).length := by unfold idx; rw [List.take_length]
theorem idx_at (p : α → Bool) (xs : List α) (i : Nat) (h : i < xs.length) (hp : p xs[i] = true) : (xs.filter p)[idx p xs i]? = some xs[i] := by
  have e : xs = xs.take i ++ (xs[i] :: xs.drop (i + 1)) := by rw [List.getElem_cons_drop]; exact (List.take_append_drop i xs).symm
  have e2 : xs.filter p = (xs.take i).filter p ++ (xs[i] :: (xs.drop (i + 1)).filter p) := by
    conv => lhs; rw [e]
    rw [List.filter_append, List.filter_cons, if_pos hp]
  rw [e2]
  unfold idx
  rw [List.getElem?_append_right (Nat.le_refl _), Nat.sub_self]; rfl
end
/-- What a run over a run has: the loop's side (J, Jx; O0 its blocks, S0 the heap at first), By the box of the loop's yield, K the state of what it calls, whose blocks are Rk; ix: how many rounds of its own behind i of the other. -/
structure Ov where
  J : Nat → (Nat → Prop) → World → Prop
  Jx : Nat → (Nat → Prop) → World → Prop
  R' : Nat → Prop
  O0 : Nat → Prop
  S0 : Nat
  By : Nat
  yt : TypeId
  lp : Nat
  Rk : Nat → Prop
  K : Nat → World → Prop
  ix : Nat → Nat
  N' : Nat
variable (V : Ov)
structure Ov.Ok : Prop where
  stable : Stable V.R' V.S0 V.J
  stablex : Stable V.R' V.S0 V.Jx
  kR : ∀ k, V.Rk k → V.R' k
  kS : ∀ k, V.R' k → k < V.S0
  dO : ∀ k, V.O0 k → ¬ V.R' k
  by0 : V.By = V.S0
  keeps : ∀ i W W', V.K i W → Mv (fun k => ¬ V.Rk k) W W' → V.K i W'
def Ov.Bk (Ob O : Nat → Prop) (W : World) : Prop := (∀ k, O k ↔ (Ob k ∨ k = V.By ∨ V.Rk k)) ∧ ¬ Ob V.By ∧ (∀ k, Ob k → V.O0 k ∨ V.S0 ≤ k) ∧ Boxed W V.By V.yt (.func (.yield V.lp) #[] #[])
def Ov.I (i : Nat) (O : Nat → Prop) (W : World) : Prop := ∃ Ob, V.J (V.ix i) Ob W ∧ V.K i W ∧ V.Bk Ob O W
def Ov.Ix (c : Code) (i : Nat) (O : Nat → Prop) (W : World) : Prop := c = .ret ∧ ∃ Ob, ((V.Jx (V.ix i) Ob W ∧ 0 < V.ix i ∧ V.ix i ≤ V.N') ∨ (V.J (V.ix i) Ob W ∧ V.ix i = V.N')) ∧ V.K i W ∧ V.Bk Ob O W
variable {V}
theorem Ov.Bk.lt (h : V.Ok) {Ob O : Nat → Prop} {W : World} (hb : V.Bk Ob O W) (hO : ∀ k, Ob k → k < W.heap.size) : ∀ k, O k → k < W.heap.size := fun k hk => by
  have h1 := hb.2.2.2.lt
  have h2 := h.by0
  rcases (hb.1 k).1 hk with e | e | e
  · exact hO k e
  · omega
  · have := h.kS k (h.kR k e); omega
theorem Ov.Bk.mv {Ob O : Nat → Prop} {W W' : World} {X : Nat → Prop} (hb : V.Bk Ob O W) (hm : Mv X W W') (hX : ∀ k, O k → ¬ X k) : V.Bk Ob O W' := ⟨hb.1, hb.2.1, hb.2.2.1, boxed_mv hb.2.2.2 hm (hX _ ((hb.1 _).2 (.inr (.inl rfl))))⟩
theorem Ov.sub (h : V.Ok) {R : Nat → Prop} {B' : Nat} {Ob O : Nat → Prop} {W W' : World} (hR : ∀ k, R k → V.R' k) (hB : V.S0 ≤ B') (hb : V.Bk Ob O W) (hm : Mv (fun k => (R k ∨ B' ≤ k) ∧ ¬ O k) W W') :
    Mv (fun k => (V.R' k ∨ V.S0 ≤ k) ∧ ¬ Ob k) W W' ∧ Mv (fun k => ¬ V.Rk k) W W' := by
  refine ⟨hm.mono fun j hj q => ⟨?_, fun e => q.2 ((hb.1 j).2 (.inl e))⟩, hm.mono fun j hj q e => q.2 ((hb.1 j).2 (.inr (.inr e)))⟩
  rcases q.1 with q | q
  · exact .inl (hR _ q)
  · exact .inr (by omega)
theorem Ov.I_stable (h : V.Ok) {R : Nat → Prop} {B' : Nat} (hR : ∀ k, R k → V.R' k) (hB : V.S0 ≤ B') : Stable R B' V.I := by
  refine ⟨?_, ?_⟩
  · rintro i O W ⟨Ob, hj, hk, hb⟩
    exact hb.lt h (h.stable.1 _ _ _ hj)
  · rintro i O W W' ⟨Ob, hj, hk, hb⟩ hm
    obtain ⟨m1, m2⟩ := Ov.sub h hR hB hb hm
    exact ⟨Ob, h.stable.2 _ _ _ _ hj m1, h.keeps _ _ _ hk m2, hb.mv hm (fun k hk q => q.2 hk)⟩
theorem Ov.Ix_stable (h : V.Ok) {R : Nat → Prop} {B' : Nat} (hR : ∀ k, R k → V.R' k) (hB : V.S0 ≤ B') (c : Code) : Stable R B' (V.Ix c) := by
  refine ⟨?_, ?_⟩
  · rintro i O W ⟨_, Ob, hj, hk, hb⟩
    refine hb.lt h ?_
    rcases hj with hj | hj
    · exact h.stablex.1 _ _ _ hj.1
    · exact h.stable.1 _ _ _ hj.1
  · rintro i O W W' ⟨hc, Ob, hj, hk, hb⟩ hm
    obtain ⟨m1, m2⟩ := Ov.sub h hR hB hb hm
    refine ⟨hc, Ob, ?_, h.keeps _ _ _ hk m2, hb.mv hm (fun k hk q => q.2 hk)⟩
    rcases hj with hj | hj
    · exact .inl ⟨h.stablex.2 _ _ _ _ hj.1 m1, hj.2⟩
    · exact .inr ⟨h.stable.2 _ _ _ _ hj.1 m1, hj.2⟩
/-- At the loop's start. -/
theorem Ov.start (h : V.Ok) {W w1 : World} (h0 : V.J 0 V.O0 W) (hS : V.S0 = W.heap.size) (hk : V.K 0 W) (hi : V.ix 0 = 0) (hm : Mv (fun _ => False) W w1) (hy : Boxed w1 V.By V.yt (.func (.yield V.lp) #[] #[])) :
    V.I 0 (fun k => V.O0 k ∨ k = V.By ∨ V.Rk k) w1 := by
  have hlt := h.stable.1 _ _ _ h0
  have h2 := h.by0
  exact ⟨V.O0, by rw [hi]; exact h.stable.2 _ _ _ _ h0 (hm.mono fun _ _ h => h.elim), h.keeps _ _ _ hk (hm.mono fun _ _ h => h.elim), fun _ => Iff.rfl, fun e => by have := hlt _ e; omega, fun k e => .inl e, hy⟩
/-- The loop's blocks are none of the other run's. -/
theorem Ov.away (h : V.Ok) {R : Nat → Prop} (hR : ∀ k, R k → V.R' k) (hd : ∀ k, R k → ¬ V.Rk k) : ∀ k, (V.O0 k ∨ k = V.By ∨ V.Rk k) → ¬ R k := fun k e hr => by
  have h1 := h.kS k (hR k hr)
  have h2 := h.by0
  rcases e with e | e | e
  · exact h.dO k e (hR k hr)
  · omega
  · exact hd k hr e
/-- Behind a call of the loop's yield. -/
theorem Ov.yielded (h : V.Ok) {Ob O4 O1 : Nat → Prop} {W1 W3 W4 : World} (hb : V.Bk Ob O1 W1) (hm3 : Mv V.Rk W1 W3) (hm4 : Mv Ob W3 W4) (hs4 : ∀ k, O4 k → Ob k ∨ W3.heap.size ≤ k) :
    Mv O1 W1 W4 ∧ (∀ k, (O4 k ∨ k = V.By ∨ V.Rk k) → O1 k ∨ W1.heap.size ≤ k) ∧ V.Bk O4 (fun k => O4 k ∨ k = V.By ∨ V.Rk k) W4 := by
  have h1 := hb.2.2.2.lt
  have h2 := h.by0
  have hz := hm3.size
  have hyk : ¬ V.Rk V.By := fun e => by have := h.kS _ (h.kR _ e); omega
  refine ⟨(hm3.mono fun k _ e => (hb.1 k).2 (.inr (.inr e))).trans hm4 (fun _ h => h) (fun k _ e => (hb.1 k).2 (.inl e)), fun k e => ?_, fun _ => Iff.rfl, fun e => ?_, fun k e => ?_, boxed_mv (boxed_mv hb.2.2.2 hm3 hyk) hm4 hb.2.1⟩
  · rcases e with e | e
    · rcases hs4 k e with e | e
      · exact .inl ((hb.1 k).2 (.inl e))
      · exact .inr (by omega)
    · exact .inl ((hb.1 k).2 (.inr e))
  · rcases hs4 _ e with e | e
    · exact hb.2.1 e
    · omega
  · rcases hs4 k e with e | e
    · exact hb.2.2.1 k e
    · exact .inr (by omega)
/-- Behind a round that calls no yield. -/
theorem Ov.quiet (h : V.Ok) {Ob O1 : Nat → Prop} {W1 W3 : World} {m : Nat} (hb : V.Bk Ob O1 W1) (hj : V.J m Ob W1) (hm3 : Mv V.Rk W1 W3) : Mv O1 W1 W3 ∧ V.Bk Ob O1 W3 ∧ V.J m Ob W3 := by
  have h1 := hb.2.2.2.lt
  have h2 := h.by0
  have hyk : ¬ V.Rk V.By := fun e => by have := h.kS _ (h.kR _ e); omega
  have hok : ∀ k, Ob k → ¬ V.Rk k := fun k e r => by
    rcases hb.2.2.1 k e with e | e
    · exact h.dO k e (h.kR k r)
    · have := h.kS k (h.kR k r); omega
  exact ⟨hm3.mono fun k _ e => (hb.1 k).2 (.inr (.inr e)), ⟨hb.1, hb.2.1, hb.2.2.1, boxed_mv hb.2.2.2 hm3 hyk⟩, h.stable.2 _ _ _ _ hj (hm3.mono fun k _ e => ⟨.inl (h.kR k e), fun q => hok k q e⟩)⟩
theorem Ov.kept (h : V.Ok) {Ob O1 : Nat → Prop} {W1 W3 W4 : World} {m : Nat} (hb : V.Bk Ob O1 W1) (hk : V.K m W3) (hm4 : Mv Ob W3 W4) : V.K m W4 := by
  refine h.keeps _ _ _ hk (hm4.mono fun k _ e r => ?_)
  rcases hb.2.2.1 k e with e | e
  · exact h.dO k e (h.kR k r)
  · have := h.kS k (h.kR k r); omega
/-- What a run over a run is, from outside: Cs speaks of the cells that it holds, whose blocks are Rc. -/
def Ov.T (V : Ov) (T : Nat → World → Prop) (N : Nat) (Cs : World → Prop) (m : Nat) (W : World) : Prop := ∃ i, i ≤ N ∧ V.ix i = m ∧ T i W ∧ V.K i W ∧ Cs W
theorem Ov.close (h : V.Ok) {P : Program} {gf : Nat} {lb : Array Value} {encs : Nat → Array Value} {N : Nat} {R : Nat → Prop} {T : Nat → World → Prop} (hit : Iter P gf lb encs N R T) {Cs : World → Prop} {Rc : Nat → Prop}
    (hCs : ∀ (X : Nat → Prop) (A B : World), Cs A → Mv X A B → (∀ k, Rc k → ¬ X k) → Cs B) (hR : ∀ k, R k → V.R' k) (hRc : ∀ k, Rc k → V.R' k) (hcR : ∀ k, Rc k → ¬ R k) (hck : ∀ k, Rc k → ¬ V.Rk k)
    {W w1 W1 : World} {D : Nat} (hS : V.S0 = W.heap.size) (hm1 : Mv (fun _ => False) W w1) (hz1 : V.S0 + 1 ≤ w1.heap.size) (hD : w1.heap.size ≤ D) (hmw : Mv (fun k => (V.O0 k ∨ k = V.By ∨ V.Rk k) ∨ R k) w1 W1) (hc : Cs W) {i : Nat} (hT : T i W1) (hk : V.K i W1) :
    Mv (fun k => V.O0 k ∨ V.R' k) W (W1.putObj D (.deferred none)) ∧ T i (W1.putObj D (.deferred none)) ∧ V.K i (W1.putObj D (.deferred none)) ∧ Cs (W1.putObj D (.deferred none)) := by
  have h2 := h.by0
  have hpd : Mv (fun k => k = D) W1 (W1.putObj D (.deferred none)) := Mv.putObj _ _ _ (fun _ => rfl)
  have hall : Mv (fun k => V.O0 k ∨ V.R' k) W W1 := (hm1.mono (fun _ _ h => h.elim)).trans hmw (fun _ h => h) (fun k hk e => by
    rcases e with (e | e | e) | e
    · exact .inl e
    · omega
    · exact .inr (h.kR k e)
    · exact .inr (hR k e))
  refine ⟨hall.trans hpd (fun _ h => h) (fun k hk e => by omega), hit.keeps _ _ _ hT (hpd.mono fun k _ e hr => by have := h.kS k (hR k hr); omega), h.keeps _ _ _ hk (hpd.mono fun k _ e hr => by have := h.kS k (h.kR k hr); omega), ?_⟩
  refine hCs (fun k => k = D) _ _ (hCs _ _ _ (hCs _ _ _ hc hm1 (fun _ _ h => h)) hmw (fun k hr e => ?_)) hpd (fun k hr e => by have := h.kS k (hRc k hr); omega)
  have := h.kS k (hRc k hr)
  rcases e with (e | e | e) | e
  · exact h.dO k e (hRc k hr)
  · omega
  · exact hck k hr e
  · exact hcR k hr e
theorem Ov.endJ (h : V.Ok) {Ob O1 : Nat → Prop} {W1 : World} {D m : Nat} (hb : V.Bk Ob O1 W1) (hn : ¬ O1 D) (hS : V.S0 ≤ D) (hj : V.J m Ob W1) : V.J m Ob (W1.putObj D (.deferred none)) :=
  h.stable.2 _ _ _ _ hj (Mv.putObj _ _ _ (fun _ => ⟨.inr hS, fun e => hn ((hb.1 D).2 (.inl e))⟩))
theorem Ov.endJx (h : V.Ok) {Ob O1 : Nat → Prop} {W1 : World} {D m : Nat} (hb : V.Bk Ob O1 W1) (hn : ¬ O1 D) (hS : V.S0 ≤ D) (hj : V.Jx m Ob W1) : V.Jx m Ob (W1.putObj D (.deferred none)) :=
  h.stablex.2 _ _ _ _ hj (Mv.putObj _ _ _ (fun _ => ⟨.inr hS, fun e => hn ((hb.1 D).2 (.inl e))⟩))
theorem Ov.done (h : V.Ok) {P : Program} {gf : Nat} {lb : Array Value} {encs : Nat → Array Value} {N : Nat} {R : Nat → Prop} {T : Nat → World → Prop} (hit : Iter P gf lb encs N R T) {Cs : World → Prop} {Rc : Nat → Prop}
    (hCs : ∀ (X : Nat → Prop) (A B : World), Cs A → Mv X A B → (∀ k, Rc k → ¬ X k) → Cs B) (hR : ∀ k, R k → V.R' k) (hRc : ∀ k, Rc k → V.R' k) (hcR : ∀ k, Rc k → ¬ R k) (hck : ∀ k, Rc k → ¬ V.Rk k)
    {W w1 W1 : World} {D : Nat} (hS : V.S0 = W.heap.size) (hm1 : Mv (fun _ => False) W w1) (hz1 : V.S0 + 1 ≤ w1.heap.size) (hD : w1.heap.size ≤ D) (hmw : Mv (fun k => (V.O0 k ∨ k = V.By ∨ V.Rk k) ∨ R k) w1 W1) (hc : Cs W) {O1 : Nat → Prop} (hi : V.I N O1 W1) (hN : V.ix N = V.N') (hn : ¬ O1 D) (hT : T N W1) :
    ∃ O', Mv (fun k => V.O0 k ∨ V.R' k) W (W1.putObj D (.deferred none)) ∧ (∀ k, O' k → V.O0 k ∨ W.heap.size ≤ k) ∧
      ((V.J V.N' O' (W1.putObj D (.deferred none)) ∧ V.T T N Cs V.N' (W1.putObj D (.deferred none))) ∨ ∃ i, i < V.N' ∧ V.Jx (i + 1) O' (W1.putObj D (.deferred none)) ∧ V.T T N Cs (i + 1) (W1.putObj D (.deferred none))) := by
  obtain ⟨Ob, hj, hk, hb⟩ := hi
  obtain ⟨c1, c2, c3, c4⟩ := Ov.close h hit hCs hR hRc hcR hck hS hm1 hz1 hD hmw hc hT hk
  exact ⟨Ob, c1, fun k e => hS ▸ hb.2.2.1 k e, .inl ⟨hN ▸ Ov.endJ h hb hn (by omega) hj, N, Nat.le_refl _, hN, c2, c3, c4⟩⟩
theorem Ov.stop (h : V.Ok) {P : Program} {gf : Nat} {lb : Array Value} {encs : Nat → Array Value} {N : Nat} {R : Nat → Prop} {T : Nat → World → Prop} (hit : Iter P gf lb encs N R T) {Cs : World → Prop} {Rc : Nat → Prop}
    (hCs : ∀ (X : Nat → Prop) (A B : World), Cs A → Mv X A B → (∀ k, Rc k → ¬ X k) → Cs B) (hR : ∀ k, R k → V.R' k) (hRc : ∀ k, Rc k → V.R' k) (hcR : ∀ k, Rc k → ¬ R k) (hck : ∀ k, Rc k → ¬ V.Rk k)
    {W w1 W1 : World} {D : Nat} (hS : V.S0 = W.heap.size) (hm1 : Mv (fun _ => False) W w1) (hz1 : V.S0 + 1 ≤ w1.heap.size) (hD : w1.heap.size ≤ D) (hmw : Mv (fun k => (V.O0 k ∨ k = V.By ∨ V.Rk k) ∨ R k) w1 W1) (hc : Cs W) {O1 : Nat → Prop} {c : Code} {i : Nat} (hi : V.Ix c (i + 1) O1 W1) (hin : i < N) (hn : ¬ O1 D) (hT : T (i + 1) W1) :
    ∃ O', Mv (fun k => V.O0 k ∨ V.R' k) W (W1.putObj D (.deferred none)) ∧ (∀ k, O' k → V.O0 k ∨ W.heap.size ≤ k) ∧
      ((V.J V.N' O' (W1.putObj D (.deferred none)) ∧ V.T T N Cs V.N' (W1.putObj D (.deferred none))) ∨ ∃ i, i < V.N' ∧ V.Jx (i + 1) O' (W1.putObj D (.deferred none)) ∧ V.T T N Cs (i + 1) (W1.putObj D (.deferred none))) := by
  obtain ⟨_, Ob, hj, hk, hb⟩ := hi
  obtain ⟨c1, c2, c3, c4⟩ := Ov.close h hit hCs hR hRc hcR hck hS hm1 hz1 hD hmw hc hT hk
  refine ⟨Ob, c1, fun k e => hS ▸ hb.2.2.1 k e, ?_⟩
  rcases hj with ⟨hj, h1, h2⟩ | ⟨hj, h1⟩
  · refine .inr ⟨V.ix (i + 1) - 1, by omega, ?_, i + 1, hin, ?_, c2, c3, c4⟩
    · rw [show V.ix (i + 1) - 1 + 1 = V.ix (i + 1) by omega]; exact Ov.endJx h hb hn (by omega) hj
    · omega
  · exact .inl ⟨h1 ▸ Ov.endJ h hb hn (by omega) hj, i + 1, hin, h1, c2, c3, c4⟩
end Go.Proofs.Ytoidbgedpakjmaa.Run
namespace Go.Proofs.Ytoidbgedpakjmaa.RunsS
open Go.RowKit Go.Shelf Go.Proofs.Ytoidbgedpakjmaa.Lib Go.Proofs.Ytoidbgedpakjmaa.T08 Go.Proofs.Ytoidbgedpakjmaa.Itms Go.Proofs.Ytoidbgedpakjmaa.Run Go.Proofs.Ytoidbgedpakjmaa.WSeq
/-- What a run hands out for pair i. -/
def encI (l : List Itm) (i : Nat) : Array Value := #[.string (Str (itm l i).1), (.string (Str ((itm l i)).2))]
def ROf (Bs : Nat) (A : Option Addr) (k : Nat) : Prop := k = Bs ∨ ∃ b o, A = some ⟨b, o, none⟩ ∧ k = b
theorem rd_same {R : Nat → Prop} {W W' : World} {A : Option Addr} {xs : List Value} (h : Rd W A xs) (hs : ∀ k, R k → W'.heap[k]? = W.heap[k]?) (hR : ∀ b o, A = some ⟨b, o, none⟩ → R b) : Rd W' A xs := by
  rcases h with h | ⟨b, o, rfl, h⟩
  · exact .inl h
  · exact .inr ⟨b, o, rfl, fun j x hj => cell_same (h j x hj) (hs b (hR b o rfl))⟩
theorem rd_mv {O : Nat → Prop} {W W' : World} {A : Option Addr} {xs : List Value} (h : Rd W A xs) (hm : Mv O W W') (hn : ∀ b o, A = some ⟨b, o, none⟩ → ¬ O b) : Rd W' A xs := by
  rcases h with h | ⟨b, o, rfl, h⟩
  · exact .inl h
  · exact .inr ⟨b, o, rfl, fun j x hj => hm.cell (h j x hj) (hn b o rfl)⟩
attribute [local go_sem] Oper.semAt_some
theorem of_any (A : Option Addr) (n c : Nat) (w : World) :
    Calls Try.prog 29 #[.slice A n c] w fun e w' => e = .returned (.func (.func 48) #[] #[.pointer (some ⟨w.heap.size, 0, none⟩)]) ∧ w' = w.alloc (.cells #[.slice A n c] 28) := by
  go_enter Try.func29, Try.ntmps29
  go_wp2
  go_ret
  exact ⟨rfl, rfl⟩
set_option maxRecDepth 100000 in
set_option maxHeartbeats 2000000 in
/-- seq.Of's closure is a run over the slice's pairs. -/
theorem of_iter (Bs : Nat) (A : Option Addr) (c : Nat) (l : List Itm) (hl : l.length ≤ 1000000000) (w0 : World) (hBs0 : w0.cell? ⟨Bs, 0, none⟩ = some (.slice A l.length c)) (hrd0 : Rd w0 A (its l)) (hlt0 : ∀ k, ROf Bs A k → k < w0.heap.size) :
    Iter Try.prog 48 #[.pointer (some ⟨Bs, 0, none⟩)] (encI l) l.length (ROf Bs A) (Still (ROf Bs A) w0) := by
  refine ⟨Still.keeps hlt0, ?_⟩
  intro lp J Jx O W hRl hOR hT hC h0
  have hBs : W.cell? ⟨Bs, 0, none⟩ = some (.slice A l.length c) := cell_same hBs0 (hT _ (.inl rfl))
  have hrd : Rd W A (its l) := rd_same (R := ROf Bs A) hrd0 hT (fun b o e => .inr ⟨b, o, e, rfl⟩)
  have HST : Hid (∀ X, Mv O W X → Still (ROf Bs A) w0 0 X) := hid (fun X hm => Still.keeps hlt0 0 W X hT (hm.mono (fun j _ ho => hOR j ho)))
  refine (callsIn_wide (n := 1)).1 (callsIn_of_wp Try.func48 rfl trivial ?_ rfl)
  simp only [Try.ntmps48, List.size_toArray, List.length_cons, List.length_nil, Nat.reduceAdd, Nat.reduceSub, Array.replicate_succ, Array.replicate_zero, List.push_toArray, List.append_toArray, List.nil_append, List.cons_append]
  have HC := hid hC
  have HRD := hid hrd
  have HOR := hid hOR
  clear hC hrd hOR hRl hT
  gi_wp2
  gi_loopw [7] (fun i wr => ∃ k : Nat, k ≤ l.length ∧ i = .int .i64 k ∧ ∃ O' : Nat → Prop, J k O' wr ∧ Hid (Mv O W wr) ∧ Hid (∀ j, O' j → O j ∨ W.heap.size ≤ j))
    (fun i _ => l.length - (intOf i).toNat)
  case atStart => exact ⟨0, Nat.zero_le _, rfl, O, h0, hid (Mv.refl _ _), hid (fun j h => .inl h)⟩
  case round =>
    obtain ⟨k, hk, rfl, O', hJs, HM, HS⟩ := hrel
    by_cases hlt : k < l.length
    · obtain ⟨b, o, rfl, hc1, hc2⟩ := rd_itm (rd_mv HRD.out HM.out (fun b o e h => HOR.out _ h (.inr ⟨b, o, e, rfl⟩))) hlt
      obtain ⟨wa, hwa⟩ : ∃ wa, wa = wr.alloc (Obj.cells #[.string (Str (itm l k).1), (.string (Str ((itm l k)).2))] 63) := ⟨_, rfl⟩
      have hal : ∀ X, Mv X wr wa := fun X => by rw [hwa]; exact Mv.alloc _ _
      have hJ1 : J k O' wa := HC.out.stable.2 _ _ _ _ hJs (hal _)
      have hB : W.heap.size ≤ wa.heap.size := Nat.le_trans HM.out.size (hal O).size
      obtain ⟨fn, tmps, assign, body, hy, hR⟩ := yield_any rfl 0 (HC.out.round k O' wa hlt hJ1 hB)
      have HMA : Hid (Mv O W wa) := hid (HM.out.trans (hal O) (fun _ h => h) (fun _ _ h => h))
      rw [hwa] at hy hR
      simp only [encI] at hy hR
      clear hJ1 hJs hal hwa
      gi_wp2
      refine (round_any rfl hR).mono ?_
      rintro e W3 ⟨O3, hm3, hs3, (⟨rfl, hJ3⟩ | ⟨rfl, hJx3⟩)⟩
      · have HM3 := hid hm3
        have HS3 := hid hs3
        have HJ3 := hid hJ3
        clear hm3 hs3 hJ3
        gi_wp2
        go_roundw
        case rel =>
          refine ⟨k + 1, by omega, by simp, O3, HJ3.out, hid ?_, hid ?_⟩
          · exact (HM.out.trans (Mv.alloc wr _) (O := O) (O2 := O) (fun _ h => h) (fun _ _ h => h)).trans HM3.out (fun _ h => h) (fun j hj h => (HS.out j h).resolve_right (by omega))
          · intro j hj
            have := HM.out.size
            rcases HS3.out j hj with h | h
            · exact HS.out j h
            · exact .inr (by simp at h; omega)
        case measure => simp [intOf]; omega
      · have HM3 := hid hm3
        have HS3 := hid hs3
        have HJ3 := hid hJx3
        clear hm3 hs3 hJx3
        gi_wp2
        refine bodyPost_ret (results_none rfl _ _ _) rfl ?_
        have hmf : Mv O W W3 := (HM.out.trans (Mv.alloc wr _) (O := O) (O2 := O) (fun _ h => h) (fun _ _ h => h)).trans HM3.out (fun _ h => h) (fun j hj h => (HS.out j h).resolve_right (by omega))
        refine ⟨⟨_, rfl⟩, O3, hmf.mono (fun _ _ h => .inl h), ?_, .inr ⟨k, hlt, HJ3.out, HST.out _ hmf⟩⟩
        intro j hj
        have := HM.out.size
        rcases HS3.out j hj with h | h
        · exact HS.out j h
        · exact .inr (by simp at h; omega)
    · obtain rfl : k = l.length := by omega
      gi_wp2
      go_end0
      exact ⟨⟨_, rfl⟩, O', HM.out.mono (fun _ _ h => .inl h), HS.out, .inl ⟨hJs, HST.out _ HM.out⟩⟩
theorem ti_pairR : TI Try.prog 28 63 2 32 := TI.of (by kernel_rfl) (by kernel_rfl) (by decide) (by decide)
/-- what seq.List holds behind i rounds -/
def IL (B : Nat) (xs : List Itm) (i : Nat) (O : Nat → Prop) (W : World) : Prop := i ≤ xs.length ∧ B < W.heap.size ∧ ∃ v, Boxed W B 28 v ∧ W.ownsRow B 63 2 v i (its (xs.take i)) ∧ ∀ k, O k ↔ (k = B ∨ v.ownBlock = some k)
theorem IL_stable (R : Nat → Prop) (B B' : Nat) (xs : List Itm) : Stable R B' (IL B xs) := by
  refine ⟨?_, ?_⟩
  · rintro i O W ⟨_, hB, v, hb, ho, hO⟩ k hk
    rcases (hO k).1 hk with rfl | h
    · exact hB
    · exact own_lt' ho k h
  · rintro i O W W' ⟨hi, hB, v, hb, ho, hO⟩ hm
    exact ⟨hi, Nat.lt_of_lt_of_le hB hm.size, v, boxed_mv hb hm (fun h => h.2 ((hO _).2 (.inl rfl))), own_mv ho hm (fun k hk h => h.2 ((hO _).2 (.inr hk))), hO⟩
attribute [local go_sem] Oper.semAt_some Str_toList
theorem encI_idx (p : Itm → Bool) (xs : List Itm) (i : Nat) (h : i < xs.length) (hp : p (itm xs i) = true) : encI (xs.filter p) (idx p xs i) = encI xs i := by
  rw [itm_eq xs i h] at hp
  have h1 := idx_at p xs i h hp
  unfold encI itm
  simp only [List.getD_eq_getElem?_getD, h1, List.getElem?_eq_getElem h]
def onlyV (p : Itm → Bool) (xs : List Itm) (Rk : Nat → Prop) (K : Nat → World → Prop) (R' : Nat → Prop) (lp : Nat) (J Jx : Nat → (Nat → Prop) → World → Prop) (O : Nat → Prop) (S0 : Nat) : Ov :=
  { J, Jx, R', O0 := O, S0, By := S0, yt := 121, lp, Rk, K, ix := idx p xs, N' := (xs.filter p).length }
def onlyT (p : Itm → Bool) (xs : List Itm) (K T : Nat → World → Prop) (Cs : World → Prop) (m : Nat) (W : World) : Prop := ∃ i, i ≤ xs.length ∧ idx p xs i = m ∧ T i W ∧ K i W ∧ Cs W
def inW (fr to : List UInt8) (x : Itm) : Bool := !ltS x.1 fr && ltS x.1 to
def WithinCs (Bs Bt Bf : Nat) (gf : Nat) (lb : Array Value) (fr to : List UInt8) (W : World) : Prop := Boxed W Bs 79 (.func (.func gf) #[] lb) ∧ Boxed W Bt 9 (.string (Str to)) ∧ Boxed W Bf 9 (.string (Str fr))
def NoR (_ : Nat) : Prop := False
def NoK (_ : Nat) (_ : World) : Prop := True
end Go.Proofs.Ytoidbgedpakjmaa.RunsS
