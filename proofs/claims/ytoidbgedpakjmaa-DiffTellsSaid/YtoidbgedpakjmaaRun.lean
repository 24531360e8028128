/- Runs (iterators): what a run owes the loop over it, and what the loop's body owes the run, by the blocks that each side owns. -/
import Derived.Test.YtoidbgedpakjmaaLib
import Derived.RangeFuncNested
import Derived.RangeFuncLeaves
import Derived.OwnWalkIn
import Derived.TacticsInMore
import Derived.Laws.ResultCell
set_option linter.unusedVariables false
set_option linter.unusedSimpArgs false
namespace Go.Proofs.Ytoidbgedpakjmaa.Run
open Go Go.RowKit Go.Proofs.Ytoidbgedpakjmaa.Lib
/-- All blocks but those of O lie as they lay. -/
structure Mv (O : Nat → Prop) (W W' : World) : Prop where
  os : W'.os = W.os
  tape : W'.tape = W.tape
  output : W'.output = W.output
  size : W.heap.size ≤ W'.heap.size
  block : ∀ k, k < W.heap.size → ¬ O k → W'.heap[k]? = W.heap[k]?
theorem Mv.refl (O : Nat → Prop) (W : World) : Mv O W W := ⟨rfl, rfl, rfl, Nat.le_refl _, fun _ _ _ => rfl⟩
theorem Mv.trans {O O1 O2 : Nat → Prop} {A B C : World} (h : Mv O1 A B) (k : Mv O2 B C) (h1 : ∀ j, O1 j → O j) (h2 : ∀ j, j < A.heap.size → O2 j → O j) : Mv O A C :=
  ⟨k.os.trans h.os, k.tape.trans h.tape, k.output.trans h.output, Nat.le_trans h.size k.size, fun j hj ho =>
    (k.block j (Nat.lt_of_lt_of_le hj h.size) (fun e => ho (h2 j hj e))).trans (h.block j hj (fun e => ho (h1 j e)))⟩
theorem Mv.mono {O O' : Nat → Prop} {A B : World} (h : Mv O A B) (h1 : ∀ j, j < A.heap.size → O j → O' j) : Mv O' A B :=
  ⟨h.os, h.tape, h.output, h.size, fun j hj ho => h.block j hj (fun e => ho (h1 j hj e))⟩
theorem Mv.of_below {O : Nat → Prop} {A B : World} (h : Below A.heap.size A B) : Mv O A B := ⟨h.os, h.tape, h.output, h.size, fun j hj _ => h.block j hj⟩
theorem Mv.below {O : Nat → Prop} {A B : World} {n : Nat} (h : Mv O A B) (hn : n ≤ A.heap.size) (hO : ∀ k, k < n → ¬ O k) : Below n A B := ⟨h.os, h.tape, h.output, h.size, fun j hj => h.block j (Nat.lt_of_lt_of_le hj hn) (hO j hj)⟩
theorem Mv.alloc {O : Nat → Prop} (W : World) (o : Obj) : Mv O W (W.alloc o) := Mv.of_below (below_al (below_rf W) o)
theorem Mv.putObj {O : Nat → Prop} (W : World) (l : Nat) (o : Obj) (hl : l < W.heap.size → O l) : Mv O W (W.putObj l o) := by
  refine ⟨rfl, rfl, rfl, by simp [World.putObj], fun j hj ho => World.putObj_heap_other (fun e => ho (e ▸ hl (e ▸ hj)))⟩
theorem Mv.setCell {O : Nat → Prop} (W : World) (p : Addr) (v : Value) (hl : O p.block) : Mv O W (W.setCell p v) := by
  have hg := (Below.refl W.heap.size W)
  refine ⟨rfl, rfl, rfl, by simp, fun j hj ho => heap_setCell_other W p j v (fun e => ho (e ▸ hl))⟩
theorem Mv.grown {O : Nat → Prop} {A B : World} {r : Option Nat} (h : A.grownBy B r) (hr : ∀ k, r = some k → k < A.heap.size → O k) : Mv O A B :=
  ⟨h.os, h.tape, h.output, h.size, fun j hj ho => h.block j hj (fun e => ho (hr j e.symm hj))⟩
theorem Mv.drewN {O : Nat → Prop} (W : World) (n : Nat) : Mv O W (W.drewN n) := Mv.of_below (below_drewN (below_rf W) n)
theorem Mv.cell {O : Nat → Prop} {A B : World} (h : Mv O A B) {p : Addr} {v : Value} (hv : A.cell? p = some v) (ho : ¬ O p.block) : B.cell? p = some v := by
  have hlt := World.block_lt_of_cell? _ _ hv
  rw [← hv]
  unfold World.cell?
  rw [h.block p.block hlt ho]
/-- Nothing at all is changed. -/
def Quiet (W W' : World) : Prop := Mv (fun _ => False) W W'
theorem Mv.quiet {R : Nat → Prop} {W W' : World} (h : Mv R W W') (hR : ∀ k, R k → W'.heap[k]? = W.heap[k]?) : Below W.heap.size W W' :=
  ⟨h.os, h.tape, h.output, h.size, fun k hk => by
    by_cases hr : R k
    · exact hR k hr
    · exact h.block k hk hr⟩
theorem cell_same {W W' : World} {p : Addr} {v : Value} (h : W.cell? p = some v) (hs : W'.heap[p.block]? = W.heap[p.block]?) : W'.cell? p = some v := by
  rw [← h]; unfold World.cell?; rw [hs]
/-- The state of a run that only reads: its blocks lie as they lay in w0. -/
def Still (R : Nat → Prop) (w0 : World) (_ : Nat) (W : World) : Prop := ∀ k, R k → W.heap[k]? = w0.heap[k]?
theorem Still.keeps {R : Nat → Prop} {w0 : World} (hR : ∀ k, R k → k < w0.heap.size) (i : Nat) (W W' : World) (h : Still R w0 i W) (hm : Mv (fun k => ¬ R k) W W') : Still R w0 i W' := fun k hk => by
  have h1 := h k hk
  have hlt : k < W.heap.size := by
    rw [Array.getElem?_eq_getElem (hR k hk)] at h1
    exact (Array.getElem?_eq_some_iff.1 h1).1
  exact (hm.block k hlt (fun h => h hk)).trans h1
/-- What a loop's state I owes: its blocks lie in the heap; what changes no block of its own (nor of older ones) changes it not. -/
def Stable (R : Nat → Prop) (B : Nat) (I : Nat → (Nat → Prop) → World → Prop) : Prop :=
  (∀ i O W, I i O W → ∀ k, O k → k < W.heap.size) ∧ ∀ i O W W', I i O W → Mv (fun k => (R k ∨ B ≤ k) ∧ ¬ O k) W W' → I i O W'
/-- The loop's side: what it owes for each round. -/
structure Cons (P : Program) (lp : Nat) (encs : Nat → Array Value) (N : Nat) (R : Nat → Prop) (B : Nat) (J Jx : Nat → (Nat → Prop) → World → Prop) : Prop where
  stable : Stable R B J
  stablex : Stable R B Jx
  round : ∀ i O W, i < N → J i O W → B ≤ W.heap.size → YieldAt Fence.wide 0 P lp (encs i) W fun e W' => ∃ O', Mv O W W' ∧ (∀ k, O' k → O k ∨ W.heap.size ≤ k) ∧
    ((e = .returned (.bool true) ∧ J (i + 1) O' W') ∨ (e = .returned (.bool false) ∧ Jx (i + 1) O' W'))
/-- The run's side. R: its own blocks; T: their state behind i rounds. -/
structure Iter (P : Program) (gf : Nat) (lb : Array Value) (encs : Nat → Array Value) (N : Nat) (R : Nat → Prop) (T : Nat → World → Prop) : Prop where
  keeps : ∀ i W W', T i W → Mv (fun k => ¬ R k) W W' → T i W'
  calls : ∀ (lp : Nat) (J Jx : Nat → (Nat → Prop) → World → Prop) (O : Nat → Prop) (W : World), (∀ k, R k → k < W.heap.size) → (∀ k, O k → ¬ R k) → T 0 W → Cons P lp encs N R W.heap.size J Jx → J 0 O W →
    Calls P gf (#[.func (.yield lp) #[] #[]] ++ lb) W fun e W' => (∃ v, e = .returned v) ∧ ∃ O', Mv (fun k => O k ∨ R k) W W' ∧ (∀ k, O' k → O k ∨ W.heap.size ≤ k) ∧ ((J N O' W' ∧ T N W') ∨ ∃ i, i < N ∧ Jx (i + 1) O' W' ∧ T (i + 1) W')
theorem round_any {F : Fence} (hd : F.depth = none) {m m' : Nat} {P : Program} {l : Nat} {f : FuncId} {tmps : Array Value} {assign body : Code} {w : World} {R : Ending → World → Prop}
    (h : RoundIn F m P l f tmps assign body w R) : RoundIn F m' P l f tmps assign body w R := ⟨h.1, fun c cs _ => h.2 c cs (fun d h => by rw [hd] at h; cases h)⟩
theorem yield_any {F : Fence} (hd : F.depth = none) {m : Nat} (m' : Nat) {P : Program} {l : Nat} {args : Array Value} {W : World} {R : Ending → World → Prop} (h : YieldAt F m P l args W R) : YieldAt F m' P l args W R := by
  obtain ⟨fn, tmps, assign, body, hy, hR⟩ := h
  exact ⟨fn, tmps, assign, body, hy, round_any hd hR⟩
/-- how a round's body may be left -/
def bodyEnd (I : Nat → (Nat → Prop) → World → Prop) (Ix : Code → Nat → (Nat → Prop) → World → Prop) (i : Nat) (O : Nat → Prop) (W : World) : Exit → Act → World → Prop
  | .normal, _, W' => ∃ O', Mv O W W' ∧ (∀ k, O' k → O k ∨ W.heap.size ≤ k) ∧ I (i + 1) O' W'
  | .ret, _, W' => ∃ O', Mv O W W' ∧ (∀ k, O' k → O k ∨ W.heap.size ≤ k) ∧ Ix .ret (i + 1) O' W'
  | .exit id, _, W' => ∃ O', Mv O W W' ∧ (∀ k, O' k → O k ∨ W.heap.size ≤ k) ∧ Ix (.exit id) (i + 1) O' W'
  | .goto t, _, W' => ∃ O', Mv O W W' ∧ (∀ k, O' k → O k ∨ W.heap.size ≤ k) ∧ Ix (.goto t) (i + 1) O' W'
  | .panic _, _, _ => False
  | .outgrown, _, _ => False
/-- The loop over a run. -/
theorem wpIn_range {P : Program} {n : Nat} {g : Operand} {ps : Array Tmp} {assign body : Code} {Q : Exit → Act → World → Prop} {a : Act} {w : World}
    {gf : Nat} {lb : Array Value} (hg : a.eval g = .func (.func gf) #[] lb) (eg : ∀ args w, (callFunc gf args).run P w = .ok (.enter gf args) w)
    {encs : Nat → Array Value} {N : Nat} {R : Nat → Prop} {T : Nat → World → Prop} (hit : Iter P gf lb encs N R T) (hps : ∀ i, (encs i).size = ps.size)
    (I : Nat → (Nat → Prop) → World → Prop) (Ix : Code → Nat → (Nat → Prop) → World → Prop) (O0 : Nat → Prop) (hI : Stable R w.heap.size I) (hIx : ∀ c, Stable R w.heap.size (Ix c))
    (h0 : I 0 O0 w) (hR : ∀ k, R k → k < w.heap.size) (hd : ∀ k, O0 k → ¬ R k) (hT : T 0 w) (a₁ : Nat → Act)
    (hassign : ∀ (l i : Nat) (W : World) (K : Act → World → Prop), K (a₁ i) W →
      assign.wpIn (Fence.wide.inRound l) 0 P (Exit.then K (fun _ _ _ => False)) { tmps := (ps.zip (encs i)).foldl (fun t (p, v) => t.setIfInBounds p v) a.tmps, defers := [] } W)
    (hbody : ∀ (l i : Nat) (O : Nat → Prop) (W : World), i < N → I i O W → w.heap.size ≤ W.heap.size → (∀ k, O k → O0 k ∨ w.heap.size ≤ k) → Mv (fun k => O0 k ∨ R k) w W → body.wpIn (Fence.wide.inRound l) 0 P (bodyEnd I Ix i O W) (a₁ i) W)
    (hdone : ∀ (D : Nat) (O : Nat → Prop) (W : World), w.heap.size ≤ D → ¬ O D → (∀ k, O k → O0 k ∨ w.heap.size ≤ k) → Mv (fun k => O0 k ∨ R k) w W → I N O W → T N W → W.heap[D]? = some (.deferred (some [])) →
      Q .normal { a with defers := { target := .collected D, args := #[] } :: a.defers } W)
    (hstop : ∀ (D : Nat) (c : Code) (i : Nat) (O : Nat → Prop) (W : World), w.heap.size ≤ D → ¬ O D → (∀ k, O k → O0 k ∨ w.heap.size ≤ k) → Mv (fun k => O0 k ∨ R k) w W → i < N → Ix c (i + 1) O W → T (i + 1) W → W.heap[D]? = some (.deferred (some [])) →
      c.wpIn Fence.wide n P Q { a with defers := { target := .collected D, args := #[] } :: a.defers } W) :
    (Code.rangeFunc g ps assign body).wpIn Fence.wide n P Q a w := by
  refine wpIn_rangeFunc ?_
  intro fn hfn
  rw [show Fence.wide.round = none from rfl]
  obtain ⟨rec, hrec⟩ : ∃ rec : LoopState → Option Code → Loop, rec = fun st pe => { state := st, pending := pe, fn, tmps := a.tmps, params := ps, assign, body, defers := w.heap.size } := ⟨_, rfl⟩
  obtain ⟨W1, hW1⟩ : ∃ W1, (w.alloc (.deferred (some []))).alloc (.loop (rec .ready none)) = W1 := ⟨_, rfl⟩
  have hz1 : W1.heap.size = w.heap.size + 2 := by rw [← hW1]; simp
  have hL1 : W1.heap[w.heap.size + 1]? = some (.loop (rec .ready none)) := by
    rw [← hW1]; have := World.alloc_heap_new (w.alloc (.deferred (some []))) (.loop (rec .ready none)); rwa [World.size_alloc] at this
  have hK1 : W1.heap[w.heap.size]? = some (.deferred (some [])) := by
    rw [← hW1]; exact (Below.heap_alloc _ _ _ (by simp)).trans (World.alloc_heap_new w _)
  have hm1 : ∀ O, Mv O w W1 := fun O => by
    rw [← hW1]; exact Mv.of_below (below_al (below_al (below_rf w) _) _)
  have hO0 := hI.1 0 O0 w h0
  have hI1 : I 0 O0 W1 := hI.2 _ _ _ _ h0 (hm1 _)
  have hT1 : T 0 W1 := hit.keeps _ _ _ hT (hm1 _)
  -- the loop's side, with its two blocks of book-keeping
  obtain ⟨J, hJ⟩ : ∃ J : Nat → (Nat → Prop) → World → Prop, J = fun i Ot W => ∃ O, (∀ k, Ot k ↔ O k ∨ k = w.heap.size ∨ k = w.heap.size + 1) ∧ ¬ O w.heap.size ∧ ¬ O (w.heap.size + 1) ∧ (∀ k, O k → O0 k ∨ w.heap.size ≤ k) ∧ Mv (fun k => O0 k ∨ R k) w W ∧ I i O W ∧
      W.heap[w.heap.size + 1]? = some (.loop (rec .ready none)) ∧ W.heap[w.heap.size]? = some (.deferred (some [])) := ⟨_, rfl⟩
  obtain ⟨Jx, hJx⟩ : ∃ Jx : Nat → (Nat → Prop) → World → Prop, Jx = fun i Ot W => ∃ O c, (∀ k, Ot k ↔ O k ∨ k = w.heap.size ∨ k = w.heap.size + 1) ∧ ¬ O w.heap.size ∧ ¬ O (w.heap.size + 1) ∧ (∀ k, O k → O0 k ∨ w.heap.size ≤ k) ∧ Mv (fun k => O0 k ∨ R k) w W ∧ Ix c i O W ∧
      W.heap[w.heap.size + 1]? = some (.loop (rec .done (some c))) ∧ W.heap[w.heap.size]? = some (.deferred (some [])) := ⟨_, rfl⟩
  have hmvs : ∀ {A B : World} {Ot : Nat → Prop}, Mv (fun k => O0 k ∨ R k) w A → Mv (fun k => (R k ∨ W1.heap.size ≤ k) ∧ ¬ Ot k) A B → Mv (fun k => O0 k ∨ R k) w B := fun h k =>
    h.trans k (fun j hj => hj) (fun j hj ho => by
      rcases ho.1 with h | h
      · exact .inr h
      · omega)
  have hcons : Cons P (w.heap.size + 1) encs N R W1.heap.size J Jx := by
    refine ⟨⟨?_, ?_⟩, ⟨?_, ?_⟩, ?_⟩
    · rw [hJ]
      rintro i Ot W ⟨O, hOt, _, _, _, hm, hi, hl, hk⟩ k hkO
      rcases (hOt k).1 hkO with h | rfl | rfl
      · exact hI.1 _ _ _ hi k h
      · exact (Array.getElem?_eq_some_iff.1 hk).1
      · exact (Array.getElem?_eq_some_iff.1 hl).1
    · rw [hJ]
      rintro i Ot A B ⟨O, hOt, hn1, hn2, hs, hm, hi, hl, hk⟩ hmv
      refine ⟨O, hOt, hn1, hn2, hs, hmvs hm hmv, hI.2 _ _ _ _ hi (hmv.mono fun j hj h => ⟨?_, fun e => h.2 ((hOt j).2 (.inl e))⟩), ?_, ?_⟩
      · rcases h.1 with h1 | h1
        · exact .inl h1
        · exact .inr (by omega)
      · exact (hmv.block _ (Array.getElem?_eq_some_iff.1 hl).1 (fun h => h.2 ((hOt _).2 (.inr (.inr rfl))))).trans hl
      · exact (hmv.block _ (Array.getElem?_eq_some_iff.1 hk).1 (fun h => h.2 ((hOt _).2 (.inr (.inl rfl))))).trans hk
    · rw [hJx]
      rintro i Ot W ⟨O, c, hOt, _, _, _, hm, hi, hl, hk⟩ k hkO
      rcases (hOt k).1 hkO with h | rfl | rfl
      · exact (hIx c).1 _ _ _ hi k h
      · exact (Array.getElem?_eq_some_iff.1 hk).1
      · exact (Array.getElem?_eq_some_iff.1 hl).1
    · rw [hJx]
      rintro i Ot A B ⟨O, c, hOt, hn1, hn2, hs, hm, hi, hl, hk⟩ hmv
      refine ⟨O, c, hOt, hn1, hn2, hs, hmvs hm hmv, (hIx c).2 _ _ _ _ hi (hmv.mono fun j hj h => ⟨?_, fun e => h.2 ((hOt j).2 (.inl e))⟩), ?_, ?_⟩
      · rcases h.1 with h1 | h1
        · exact .inl h1
        · exact .inr (by omega)
      · exact (hmv.block _ (Array.getElem?_eq_some_iff.1 hl).1 (fun h => h.2 ((hOt _).2 (.inr (.inr rfl))))).trans hl
      · exact (hmv.block _ (Array.getElem?_eq_some_iff.1 hk).1 (fun h => h.2 ((hOt _).2 (.inr (.inl rfl))))).trans hk
    · intro i Ot W hiN hj hBW
      rw [hJ] at hj
      obtain ⟨O, hOt, hn1, hn2, hs, hm, hi, hl, hk⟩ := hj
      have hlt : w.heap.size + 1 < W.heap.size := (Array.getElem?_eq_some_iff.1 hl).1
      have hy := run_yield (P := P) (args := encs i) hl (by rw [hrec]; exact hps i)
      rw [hrec] at hy
      refine ⟨fn, _, assign, body, hy, roundIn_of_wpIn hfn (hassign _ i W _ ?_)⟩
      clear hy
      refine ⟨_, run_beginRound hl (by rw [hrec]), ?_⟩
      obtain ⟨W2, hW2⟩ : ∃ W2, W2 = W.putObj (w.heap.size + 1) (.loop { rec .ready none with state := .busy }) := ⟨_, rfl⟩
      have hz2 : W2.heap.size = W.heap.size := by rw [hW2]; simp [World.putObj]
      have hl2 : W2.heap[w.heap.size + 1]? = some (.loop { rec .ready none with state := .busy }) := by rw [hW2]; exact World.putObj_heap_same hlt
      have hk2 : W2.heap[w.heap.size]? = some (.deferred (some [])) := by rw [hW2]; exact (World.putObj_heap_other (by omega)).trans hk
      have hm2 : ∀ X : Nat → Prop, X (w.heap.size + 1) → Mv X W W2 := fun X hX => by rw [hW2]; exact Mv.putObj _ _ _ (fun _ => hX)
      have hi2 : I i O W2 := hI.2 _ _ _ _ hi (hm2 _ ⟨.inr (by omega), hn2⟩)
      have hmw2 : Mv (fun k => O0 k ∨ R k) w W2 := hm.trans (hm2 (fun k => k = w.heap.size + 1) rfl) (fun _ h => h) (fun j hj e => by omega)
      rw [← hW2]
      refine wpIn_mono (hbody _ i O W2 hiN hi2 (by omega) hs hmw2) ?_
      have fin : ∀ (jump : Option Code) (O' : Nat → Prop) (W3 : World), Mv O W2 W3 → (∀ k, O' k → O k ∨ W2.heap.size ≤ k) →
          ∃ W4, (Instr.endRound (w.heap.size + 1) jump).run P W3 = .ok (.bool jump.isNone) W4 ∧ W4.heap[w.heap.size + 1]? = some (.loop (rec (if jump.isNone then .ready else .done) jump)) ∧ W4.heap[w.heap.size]? = some (.deferred (some [])) ∧
            (∀ X : Nat → Prop, X (w.heap.size + 1) → Mv X W3 W4) ∧ Mv Ot W W4 ∧ Mv (fun k => O0 k ∨ R k) w W4 ∧ ¬ O' w.heap.size ∧ ¬ O' (w.heap.size + 1) ∧ (∀ k, O' k → O0 k ∨ w.heap.size ≤ k) ∧ (∀ k, (O' k ∨ k = w.heap.size ∨ k = w.heap.size + 1) → Ot k ∨ W.heap.size ≤ k) := fun jump O' W3 h3 hsub => by
        have hl3 := (h3.block _ (by omega) hn2).trans hl2
        have hk3 := (h3.block _ (by omega) hn1).trans hk2
        have hlt3 := (Array.getElem?_eq_some_iff.1 hl3).1
        have hr := run_endRound (P := P) jump hl3
        have hm4 : ∀ X : Nat → Prop, X (w.heap.size + 1) → Mv X W3 (W3.putObj (w.heap.size + 1) (.loop { rec .ready none with state := if jump.isNone then .ready else .done, pending := jump })) := fun X hX => Mv.putObj _ _ _ (fun _ => hX)
        refine ⟨_, hr, ?_, (World.putObj_heap_other (by omega)).trans hk3, hm4, ?_, ?_, ?_, ?_, ?_, ?_⟩
        · rw [World.putObj_heap_same hlt3, hrec]
        · refine ((hm2 Ot ((hOt _).2 (.inr (.inr rfl)))).trans h3 (O := Ot) (fun _ h => h) (fun j _ h => (hOt j).2 (.inl h))).trans (hm4 Ot ((hOt _).2 (.inr (.inr rfl)))) (fun _ h => h) (fun _ _ h => h)
        · refine ((hmw2.trans h3 (O := fun k => O0 k ∨ R k) (fun _ h => h) (fun j hj h => ?_)).trans (hm4 (fun k => k = w.heap.size + 1) rfl) (fun _ h => h) (fun j hj e => by omega))
          rcases hs j h with h | h
          · exact .inl h
          · omega
        · intro h; rcases hsub _ h with h | h
          · exact hn1 h
          · omega
        · intro h; rcases hsub _ h with h | h
          · exact hn2 h
          · omega
        · intro k hk; rcases hsub _ hk with h | h
          · exact hs k h
          · exact .inr (by omega)
        · rintro k (h | h | h)
          · rcases hsub k h with h | h
            · exact .inl ((hOt k).2 (.inl h))
            · exact .inr (by omega)
          · exact .inl ((hOt k).2 (.inr (.inl h)))
          · exact .inl ((hOt k).2 (.inr (.inr h)))
      rintro e a3 W3 hp
      cases e with
      | normal =>
        obtain ⟨O', h3, hsub, hi3⟩ := hp
        obtain ⟨W4, hr, hl4, hk4, hm4, hmO, hmw, hn3, hn4, hs4, hOO⟩ := fin none O' W3 h3 hsub
        refine ⟨_, _, hr, fun k => O' k ∨ k = w.heap.size ∨ k = w.heap.size + 1, hmO, hOO, .inl ⟨rfl, ?_⟩⟩
        rw [hJ]
        exact ⟨O', fun _ => Iff.rfl, hn3, hn4, hs4, hmw, hI.2 _ _ _ _ hi3 (hm4 _ ⟨.inr (by omega), hn4⟩), hl4, hk4⟩
      | ret =>
        obtain ⟨O', h3, hsub, hi3⟩ := hp
        obtain ⟨W4, hr, hl4, hk4, hm4, hmO, hmw, hn3, hn4, hs4, hOO⟩ := fin (some .ret) O' W3 h3 hsub
        refine ⟨_, _, hr, fun k => O' k ∨ k = w.heap.size ∨ k = w.heap.size + 1, hmO, hOO, .inr ⟨rfl, ?_⟩⟩
        rw [hJx]
        exact ⟨O', _, fun _ => Iff.rfl, hn3, hn4, hs4, hmw, (hIx _).2 _ _ _ _ hi3 (hm4 _ ⟨.inr (by omega), hn4⟩), hl4, hk4⟩
      | exit id =>
        obtain ⟨O', h3, hsub, hi3⟩ := hp
        obtain ⟨W4, hr, hl4, hk4, hm4, hmO, hmw, hn3, hn4, hs4, hOO⟩ := fin (some (.exit id)) O' W3 h3 hsub
        refine ⟨_, _, hr, fun k => O' k ∨ k = w.heap.size ∨ k = w.heap.size + 1, hmO, hOO, .inr ⟨rfl, ?_⟩⟩
        rw [hJx]
        exact ⟨O', _, fun _ => Iff.rfl, hn3, hn4, hs4, hmw, (hIx _).2 _ _ _ _ hi3 (hm4 _ ⟨.inr (by omega), hn4⟩), hl4, hk4⟩
      | goto t =>
        obtain ⟨O', h3, hsub, hi3⟩ := hp
        obtain ⟨W4, hr, hl4, hk4, hm4, hmO, hmw, hn3, hn4, hs4, hOO⟩ := fin (some (.goto t)) O' W3 h3 hsub
        refine ⟨_, _, hr, fun k => O' k ∨ k = w.heap.size ∨ k = w.heap.size + 1, hmO, hOO, .inr ⟨rfl, ?_⟩⟩
        rw [hJx]
        exact ⟨O', _, fun _ => Iff.rfl, hn3, hn4, hs4, hmw, (hIx _).2 _ _ _ _ hi3 (hm4 _ ⟨.inr (by omega), hn4⟩), hl4, hk4⟩
      | panic ch => exact hp.elim
      | outgrown => exact hp.elim
  have hcall := hit.calls (w.heap.size + 1) J Jx (fun k => O0 k ∨ k = w.heap.size ∨ k = w.heap.size + 1) W1 (fun k hk => by have := hR k hk; omega)
    (fun k hk hr => by
      rcases hk with h | rfl | rfl
      · exact hd k h hr
      · have := hR _ hr; omega
      · have := hR _ hr; omega) hT1 hcons (by
      rw [hJ]
      exact ⟨O0, fun _ => Iff.rfl, fun h => by have := hO0 _ h; omega, fun h => by have := hO0 _ h; omega, fun k h => .inl h, hm1 _, hI1, hL1, hK1⟩)
  refine ⟨w.heap.size + 1, [{ target := .collected w.heap.size, args := #[] }], W1, { target := .fn (.func gf) lb, args := #[.func (.yield (w.heap.size + 1)) #[] #[]] }, W1, gf,
    #[.func (.yield (w.heap.size + 1)) #[] #[]] ++ lb, W1, ?_, ?_, ?_, ?_, fun h => by simp [Fence.wide] at h, ?_⟩
  · rw [← hW1, hrec]; exact run_enterLoop_outer _ _ _ _ _
  · simp only [resolve, hg]
    simp [go_sem]
  · intro f' hf'; trivial
  · simp [invoke, go_sem, eg]
  · refine callsIn_wide.2 (hcall.mono ?_)
    rintro e W2 ⟨⟨v, rfl⟩, Ot, hmO, hsub, (⟨hj, hT2⟩ | ⟨i, hi, hj, hT2⟩)⟩
    · rw [hJ] at hj
      obtain ⟨O, hOt, hn1, hn2, hs, hm, hi, hl, hk⟩ := hj
      have hm5 : ∀ (X : Nat → Prop) (o : Obj), X (w.heap.size + 1) → Mv X W2 (W2.putObj (w.heap.size + 1) o) := fun X o hX => Mv.putObj _ _ _ (fun _ => hX)
      have he := run_endLoop (P := P) hl (by rw [hrec]; simp)
      rw [show (rec .ready none).pending = none by rw [hrec]] at he
      refine ⟨none, _, he, ?_⟩
      exact hdone _ O _ (Nat.le_refl _) hn1 hs (hm.trans (hm5 (fun k => k = w.heap.size + 1) _ rfl) (fun _ h => h) (fun j hj e => by omega)) (hI.2 _ _ _ _ hi (hm5 _ _ ⟨.inr (by omega), hn2⟩))
        (hit.keeps _ _ _ hT2 (hm5 _ _ (fun h => by have := hR _ h; omega))) ((World.putObj_heap_other (by omega)).trans hk)
    · rw [hJx] at hj
      obtain ⟨O, c, hOt, hn1, hn2, hs, hm, hix, hl, hk⟩ := hj
      have hm5 : ∀ (X : Nat → Prop) (o : Obj), X (w.heap.size + 1) → Mv X W2 (W2.putObj (w.heap.size + 1) o) := fun X o hX => Mv.putObj _ _ _ (fun _ => hX)
      have he := run_endLoop (P := P) hl (by rw [hrec]; simp)
      rw [show (rec .done (some c)).pending = some c by rw [hrec]] at he
      refine ⟨some c, _, he, ?_⟩
      exact hstop _ c i O _ (Nat.le_refl _) hn1 hs (hm.trans (hm5 (fun k => k = w.heap.size + 1) _ rfl) (fun _ h => h) (fun j hj e => by omega)) hi ((hIx c).2 _ _ _ _ hix (hm5 _ _ ⟨.inr (by omega), hn2⟩))
        (hit.keeps _ _ _ hT2 (hm5 _ _ (fun h => by have := hR _ h; omega))) ((World.putObj_heap_other (by omega)).trans hk)
theorem own_mv {O : Nat → Prop} {W W' : World} {base : Nat} {e : TypeId} {size : Nat} {v : Value} {k : Nat} {xs : List Value} (h : W.ownsRow base e size v k xs) (hm : Mv O W W') (hn : ∀ k, v.ownBlock = some k → ¬ O k) : W'.ownsRow base e size v k xs := by
  refine ⟨h.1, ?_⟩
  rcases h.2 with h2 | ⟨g, cap, cur, rfl, hb, hh, h3⟩
  · exact .inl h2
  · exact .inr ⟨g, cap, cur, rfl, hb, (hm.block g (Array.getElem?_eq_some_iff.1 hh).1 (hn g (by simp [Value.ownBlock]))).trans hh, h3⟩
theorem boxed_mv {O : Nat → Prop} {W W' : World} {B : Nat} {t : TypeId} {v : Value} (h : Boxed W B t v) (hm : Mv O W W') (hn : ¬ O B) : Boxed W' B t v := (hm.block B h.lt hn).trans h
theorem own_lt' {W : World} {base : Nat} {e : TypeId} {size : Nat} {v : Value} {k : Nat} {xs : List Value} (h : W.ownsRow base e size v k xs) (j : Nat) (hj : v.ownBlock = some j) : j < W.heap.size := by
  rcases h.2 with ⟨rfl, _⟩ | ⟨g, cap, cur, rfl, hb, hh, h3⟩
  · simp [Value.ownBlock] at hj
  · have : g = j := by simpa [Value.ownBlock] using hj
    subst this
    exact (Array.getElem?_eq_some_iff.1 hh).1
theorem wpListIn_app2 {F : Fence} {n : Nat} {P : Program} (w : World) {ops : Array Oper} {rest : List Oper} {o : Oper} {a : Act} {Q : Exit → Act → World → Prop} {t e : TypeId} {size bytes : Nat} (ti : TI P t e size bytes)
    (hg : o.guard = none) (s x : Operand) (hop : o.op = Op.call { callee := Callee.builtin Builtin.append, args := #[s, x], argTypes := #[t, t] }) (base : Nat) {v : Value} {k : Nat} {xs : List Value} (A : Option Addr) (m c : Nat) (news : List Value)
    (hs : a.eval s = v) (hx : a.eval x = .slice A m c) (hown : w.ownsRow base e size v k xs) (hl : news.length = m * size) (hr : Rd w A news) (hA : A = none → m = 0) (hsp : ∀ a, A = some a → a.spot = none) (h1 : ∀ u ∈ news, u.oneCell' = true) (hb0 : base ≤ w.heap.size) (hbytes : (k + m) * bytes ≤ 140737488355328)
    (hK : ∀ v' w', w'.ownsRow base e size v' (k + m) (xs ++ news) → w.grownBy w' v.ownBlock → (v'.ownBlock = v.ownBlock ∨ v'.ownBlock = some w.heap.size) → wpListIn F n P ops Q rest (a.put o.dst v') w') :
    wpListIn F n P ops Q (o :: rest) a w := by
  refine wpListIn_plain hg fun K hK' => ?_
  obtain ⟨v', w', hrun, r1, r2, r3⟩ := run_appS w ti o.type base hown A m c news hl hr hA hsp h1 hbytes hb0
  unfold Oper.wpIn
  refine ⟨?_, ?_⟩
  · simp [Oper.about, hop, resolve, Target.leads, Sem.run_pure]
  · rw [Oper.semAt_plain F _ _ (by rw [hop]; intro c hc'; cases hc')]
    simp [execOp, hop, resolve, invoke, builtin, hs, hx, hrun, Result.andThen]
    exact hK' _ _ (hK v' w' r1 r2 r3)
end Go.Proofs.Ytoidbgedpakjmaa.Run
