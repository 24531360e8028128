/- A run's pairs as a list: seq.List. -/
import Derived.Test.YtidbaagdajkojaaW08m
import Derived.Maps.AppendAt
set_option linter.unusedVariables false
set_option linter.unusedSimpArgs false
namespace Go.Proofs.Ytidbaagdajkojaa.W08
open Go.RowKit Go.Shelf Go.Proofs.Ytidbaagdajkojaa.Lib Go.Proofs.Ytidbaagdajkojaa.T08 Go.Proofs.Ytidbaagdajkojaa.Itms Go.Proofs.Ytidbaagdajkojaa.WSeq Go.Proofs.Ytidbaagdajkojaa.Bld
attribute [local go_sem] Oper.semAt_some
theorem wpListIn_app2 {F : Fence} {n : Nat} {P : Program} (w : World) {ops : Array Oper} {rest : List Oper} {o : Oper} {a : Act} {Q : Exit → Act → World → Prop} {t e : TypeId} {size bytes : Nat} (ti : TI P t e size bytes)
    (hg : o.guard = none) (s x : Operand) (hop : o.op = Op.call { callee := Callee.builtin Builtin.append, args := #[s, x], argTypes := #[t, t] }) (base : Nat) {v : Value} {k : Nat} {xs : List Value} (A : Option Addr) (m c : Nat) (news : List Value)
    (hs : a.eval s = v) (hx : a.eval x = .slice A m c) (hown : w.ownsRow base e size v k xs) (hl : news.length = m * size) (hr : Rd w A news) (hA : A = none → m = 0) (hsp : ∀ a, A = some a → a.spot = none) (h1 : ∀ u ∈ news, u.oneCell' = true) (hb0 : base ≤ w.heap.size) (hbytes : (k + m) * bytes ≤ 140737488355328)
    (hK : ∀ v' w', w'.ownsRow base e size v' (k + m) (xs ++ news) → w.grownBy w' v.ownBlock → (v'.ownBlock = v.ownBlock ∨ v'.ownBlock = some w.heap.size) → wpListIn F n P ops Q rest (a.put o.dst v') w') :
    wpListIn F n P ops Q (o :: rest) a w := by
  refine wpListIn_plain hg fun K hK' => ?_
  obtain ⟨v', w', hrun, r1, r2, r3⟩ := run_appS w ti o.type base hown A m c news hl hr hA hsp h1 hbytes hb0
  unfold Oper.wpIn
  refine ⟨?_, ?_⟩
  · simp [Oper.about, hop, resolve, Target.leads, Sem.run_pure]
  · rw [Oper.semAt_plain F _ _ (by rw [hop]; intro c hc'; cases hc')]
    simp [execOp, hop, resolve, invoke, builtin, hs, hx, hrun, Result.andThen]
    exact hK' _ _ (hK v' w' r1 r2 r3)
theorem keep_b {BX : Nat} {w : World} (hBX : BX < w.heap.size) (W : World) (l : Nat) (o o' : Obj) (hl : w.heap.size ≤ l) (h : W.heap[l]? = some o) (hc : o.isCells = false) (_ : o.isWalk = false) : KeepBut BX W (W.putObj l o') := by
  have hg := grownBy_putObj' W l o'
  have e : ownOf BX (W.putObj l o') = ownOf BX W := by
    unfold ownOf
    have h2 : BX < W.heap.size := Nat.lt_of_lt_of_le hBX (Nat.le_trans hl (Nat.le_of_lt (Array.getElem?_eq_some_iff.1 h).1))
    rw [cell?_of_heap (w := W) (w1 := W.putObj l o') (p := ⟨BX, 0, none⟩) (hg.block BX h2 (by simp; omega))]
  refine ⟨hg.size, fun k cs t fr h1 _ _ => ?_, fun k hk => .inl (e ▸ hk)⟩
  refine (hg.block k (Array.getElem?_eq_some_iff.1 h1).1 (fun e => ?_)).trans h1
  injection e with e
  subst e
  rw [h] at h1
  injection h1 with h1
  subst h1
  cases hc
set_option maxRecDepth 100000 in
set_option maxHeartbeats 3200000 in
theorem list_any (gf : Nat) (lb : Array Value) (eg : ∀ args w, (callFunc gf args).run Try.prog w = .ok (.enter gf args) w) (l : List Itm) (hl : l.length ≤ 1000000) (w : World)
    (hseq : SeqStopsK Fence.wide 4 Try.prog gf lb (fun x : Itm => #[.string (Str x.1), .string (Str x.2)]) (KeepBut w.heap.size) (fun ys => ys = l) (fun pre => pre <+: l) l.length (w.alloc (Obj.cells #[.slice none 0 0] 30))) :
    Calls Try.prog 18 #[.func (.func gf) #[] lb] w fun e w' => (∃ v, e = .returned v ∧ w'.ownsRow w.heap.size 42 2 v l.length (its l)) ∧ Below w.heap.size w w' := by
  refine (callsIn_wide (n := 5)).1 ?_
  refine callsIn_of_wp_marks Try.func18 rfl trivial ?_ rfl
  simp only [Try.ntmps18, List.size_toArray, List.length_cons, List.length_nil, Nat.reduceAdd, Nat.reduceSub, Array.replicate_succ, Array.replicate_zero, List.push_toArray, List.append_toArray, List.nil_append, List.cons_append]
  obtain ⟨w1, hw1⟩ : ∃ w1, w1 = w.alloc (Obj.cells #[.slice none 0 0] 30) := ⟨_, rfl⟩
  have z1 : w1.heap.size = w.heap.size + 1 := by rw [hw1]; simp
  have hB0 : Below w.heap.size w w1 := by rw [hw1]; exact below_al (below_rf w) _
  have bX : Boxed w1 w.heap.size 30 (.slice none 0 0) := by rw [hw1]; exact Boxed.new w _ _
  rw [← hw1] at hseq
  gi_wp2
  rw [← hw1]
  clear hw1
  refine wpIn_rangeFunc_ownG rfl (by omega) (gf := gf) (lb := lb) rfl trivial eg hseq keep_t (keep_b (by omega)) (Below.refl _ _) (fun _ => rfl)
    (fun pre W => (∃ v, Boxed W w.heap.size 30 v ∧ W.ownsRow w.heap.size 42 2 v pre.length (its pre) ∧ True) ∧ (Below w.heap.size w W ∧ pre.length ≤ l.length))
    (fun _ _ _ => False)
    (OwnFrom.and ((holdsRow_own w.heap.size w.heap.size 30 42 2 (fun pre : List Itm => pre.length) its (fun _ _ => True)).from _) (OwnFrom.and (ownFrom_below (Nat.le_refl _) (by omega)) (ownFrom_pure _ _)))
    (fun _ _ _ _ _ hs _ _ => hs)
    ⟨⟨.slice none 0 0, bX, own_nil _ _ _ _, trivial⟩, hB0, Nat.zero_le _⟩
    (fun x => { tmps := #[.func (.func gf) #[] lb, undef, .slice none 0 0, .pointer (some ⟨w.heap.size, 0, none⟩), .string (Str x.1), .string (Str x.2), .func (.func gf) #[] lb, .string (Str x.1), .string (Str x.2), undef, undef, undef, undef, undef, undef, undef], defers := [] }) ?assign ?body ?done ?stop
  case assign =>
    intro l x W K hK
    gi_wp2
    exact hK
  case body =>
    rintro lp pre x W ⟨⟨v, hbx, hown, _⟩, hB, hpl⟩ hlen
    have c0 := hbx.cell
    have f0 := hbx.frozen
    have hWs : w.heap.size + 1 ≤ W.heap.size := hbx.lt
    have hal := below_al (below_rf W) (Obj.cells #[.string (Str x.1), .string (Str x.2)] 42)
    have hown2 := own_of_below hown hal
    have hnews : Rd (W.alloc (Obj.cells #[.string (Str x.1), .string (Str x.2)] 42)) (some ⟨W.heap.size, 0, none⟩) [.string (Str x.1), .string (Str x.2)] := by
      refine .inr ⟨_, _, rfl, fun j y hj => ?_⟩
      rw [World.cell?_alloc_at _ _ _ _ rfl, Nat.zero_add, ← hj]
      simp
    gi_wp2_with (gi_at_builtin; refine wpListIn_app2 (v := v) _ ti_pair rfl _ _ rfl w.heap.size (some ⟨W.heap.size, 0, none⟩) 1 1 [.string (Str x.1), .string (Str x.2)] rfl rfl hown2 rfl hnews (by intro h; cases h) (by intro a h; injection h with h; subst h; rfl) (by simp [Value.oneCell']) (by simp; omega) (by omega) ?_; intro v' w2 ho2 hg2 hv2; obtain ⟨A2, c2, rfl⟩ := own_succ ho2; have hbx2 := (hbx.alloc (Obj.cells #[.string (Str x.1), .string (Str x.2)] 42)).kept hg2 ((hbx.alloc (Obj.cells #[.string (Str x.1), .string (Str x.2)] 42)).not_row (by decide) hown2); have d0 := hbx2.cell; have d1 := hbx2.frozen)
    gi_wp2
    have hz2 : (W.alloc (Obj.cells #[.string (Str x.1), .string (Str x.2)] 42)).heap.size = W.heap.size + 1 := by simp
    have hgs := hg2.size
    have hsl : (Value.slice A2 (pre.length + 1) c2).ownBlock ≠ some w.heap.size := by
      intro e
      exact Boxed.not_row hbx2 (by decide) ho2 e.symm
    have hox : ownOf w.heap.size W = v.ownBlock := by unfold ownOf; rw [c0]; rfl
    refine ⟨?_, ?_, ⟨_, hbx2.set _, ?_, trivial⟩, ?_, by simp; omega⟩
    · refine (((KeepsOthers.alloc W _).trans (KeepsOthers.of_grownBy hg2 fun j o ej hj => ?_)).trans (KeepsOthers.setCell _ _ _)).from _
      rcases hown2.2 with ⟨rfl, _⟩ | ⟨g, cap, cur, rfl, _, hgb, _⟩
      · simp [Value.ownBlock] at ej
      · obtain rfl : g = j := by simpa [Value.ownBlock] using ej
        rw [hgb] at hj; cases hj; rfl
    · refine ⟨by simp; omega, fun k cs t fr h1 h2 h3 => ?_, fun k hk => ?_⟩
      · have hk := (Array.getElem?_eq_some_iff.1 h1).1
        rw [heap_setCell_other w2 ⟨w.heap.size, 0, none⟩ k _ h2]
        refine (hg2.block k (by rw [hz2]; omega) (fun e => h3 (by rw [hox]; exact e.symm))).trans ?_
        exact (hal.block k hk).trans h1
      · have e1 : ownOf w.heap.size (w2.setCell ⟨w.heap.size, 0, none⟩ (.slice A2 (pre.length + 1) c2)) = (Value.slice A2 (pre.length + 1) c2).ownBlock := by
          unfold ownOf; rw [(hbx2.set (.slice A2 (pre.length + 1) c2)).cell]; rfl
        rw [e1] at hk
        rcases hv2 with h | h
        · left; rw [hox, ← h]; exact hk
        · right
          rw [h] at hk
          injection hk with hk
          omega
    · rw [its_app, List.length_append]
      exact own_setCell ho2 _ _ hsl
    · have hb2 : Below w.heap.size w w2 := (below_tr hB hal).grown hg2 (by rw [hz2]; omega) (fun k hk => own_block_base hown2 k hk)
      exact hb2.setCell (p := ⟨w.heap.size, 0, none⟩) (Nat.le_refl _) _
  case done =>
    rintro D ys W hD rfl ⟨⟨v, hbx, hown, _⟩, hB, _⟩ hK
    have c0 := hbx.cell
    gi_wp2
    refine ⟨by simp, .inl ⟨_, _, rfl, run_takeDeferred hK, ?_⟩⟩
    refine ⟨_, results_tmp rfl _ _ _, ⟨v, rfl, ownsRow_putObj hown _ hK rfl⟩, hB.trans (belowK_b (w := w) (Nat.le_refl _) W D _ _ (by omega) hK rfl rfl)⟩
  case stop =>
    rintro D c pre W _ _ h _
    exact h.elim
end Go.Proofs.Ytidbaagdajkojaa.W08
