/- seq.Head over a run is a run. -/
import Derived.Test.YtiemcfkekaklgaaRunI
set_option linter.unusedVariables false
set_option linter.unusedSimpArgs false
namespace Go.Proofs.Ytiemcfkekaklgaa.Runs
open Go.RowKit Go.Shelf Go.Proofs.Ytiemcfkekaklgaa.Lib Go.Proofs.Ytiemcfkekaklgaa.Prs Go.Proofs.Ytiemcfkekaklgaa.Run
attribute [local go_sem] Oper.semAt_some Str_toList
/-- a run over a run: the loop's state inside, with two blocks of its own -/
def IH (J : Nat → (Nat → Prop) → World → Prop) (O0 : Nat → Prop) (S0 lp By Bl : Nat) (n : Int) (i : Nat) (O : Nat → Prop) (W : World) : Prop :=
  ∃ Ob, J i Ob W ∧ (∀ k, O k ↔ (Ob k ∨ k = By ∨ k = Bl)) ∧ ¬ Ob By ∧ ¬ Ob Bl ∧ (∀ k, Ob k → O0 k ∨ S0 ≤ k) ∧ Boxed W By 38 (.func (.yield lp) #[] #[]) ∧ Boxed W Bl 3 (.int .i64 (n - i)) ∧ (i : Int) < n
def IHx (J Jx : Nat → (Nat → Prop) → World → Prop) (O0 : Nat → Prop) (S0 : Nat) (By Bl N' : Nat) (c : Code) (i : Nat) (O : Nat → Prop) (W : World) : Prop :=
  c = .ret ∧ ∃ Ob, ((Jx i Ob W ∧ 0 < i ∧ i ≤ N') ∨ (J i Ob W ∧ i = N')) ∧ (∀ k, O k ↔ (Ob k ∨ k = By ∨ k = Bl)) ∧ By < W.heap.size ∧ Bl < W.heap.size ∧ (∀ k, Ob k → O0 k ∨ S0 ≤ k)
theorem IH_stable {R R' : Nat → Prop} {J : Nat → (Nat → Prop) → World → Prop} {O0 : Nat → Prop} {S0 B' lp By Bl : Nat} {n : Int} (hJ : Stable R' S0 J) (hR : ∀ k, R k → R' k) (hB : S0 ≤ B') : Stable R B' (IH J O0 S0 lp By Bl n) := by
  refine ⟨?_, ?_⟩
  · rintro i O W ⟨Ob, hj, hO, h1, h2, hs, hy, hl, hi⟩ k hk
    rcases (hO k).1 hk with h | rfl | rfl
    · exact hJ.1 _ _ _ hj k h
    · exact hy.lt
    · exact hl.lt
  · rintro i O W W' ⟨Ob, hj, hO, h1, h2, hs, hy, hl, hi⟩ hm
    refine ⟨Ob, hJ.2 _ _ _ _ hj (hm.mono fun j hj h => ⟨?_, fun e => h.2 ((hO j).2 (.inl e))⟩), hO, h1, h2, hs, boxed_mv hy hm (fun h => h.2 ((hO _).2 (.inr (.inl rfl)))), boxed_mv hl hm (fun h => h.2 ((hO _).2 (.inr (.inr rfl)))), hi⟩
    rcases h.1 with h | h
    · exact .inl (hR _ h)
    · exact .inr (by omega)
theorem IHx_stable {R R' : Nat → Prop} {J Jx : Nat → (Nat → Prop) → World → Prop} {O0 : Nat → Prop} {S0 B' By Bl N' : Nat} {c : Code} (hJ : Stable R' S0 J) (hJx : Stable R' S0 Jx) (hR : ∀ k, R k → R' k) (hB : S0 ≤ B') : Stable R B' (IHx J Jx O0 S0 By Bl N' c) := by
  refine ⟨?_, ?_⟩
  · rintro i O W ⟨_, Ob, hj, hO, h1, h2, hs⟩ k hk
    rcases (hO k).1 hk with h | rfl | rfl
    · rcases hj with hj | hj
      · exact hJx.1 _ _ _ hj.1 k h
      · exact hJ.1 _ _ _ hj.1 k h
    · exact h1
    · exact h2
  · rintro i O W W' ⟨hc, Ob, hj, hO, h1, h2, hs⟩ hm
    have hm2 : Mv (fun k => (R' k ∨ S0 ≤ k) ∧ ¬ Ob k) W W' := hm.mono fun j hj h => ⟨by
      rcases h.1 with h | h
      · exact .inl (hR _ h)
      · exact .inr (by omega), fun e => h.2 ((hO j).2 (.inl e))⟩
    refine ⟨hc, Ob, ?_, hO, Nat.lt_of_lt_of_le h1 hm.size, Nat.lt_of_lt_of_le h2 hm.size, hs⟩
    rcases hj with hj | hj
    · exact .inl ⟨hJx.2 _ _ _ _ hj.1 hm2, hj.2⟩
    · exact .inr ⟨hJ.2 _ _ _ _ hj.1 hm2, hj.2⟩
set_option maxRecDepth 100000 in
theorem head_any (n : Int) (gf : Nat) (lb : Array Value) (w : World) :
    Calls Try.prog 24 #[.func (.func gf) #[] lb, .int .i64 n] w fun e w' => e = .returned (.func (.func 42) #[] #[.pointer (some ⟨w.heap.size + 1, 0, none⟩), .pointer (some ⟨w.heap.size, 0, none⟩)]) ∧ w' = (w.alloc (.cells #[.func (.func gf) #[] lb] 31)).alloc (.cells #[.int .i64 n] 3) := by
  go_enter Try.func24, Try.ntmps24
  go_wp2
  go_ret
  exact ⟨rfl, rfl⟩
set_option maxRecDepth 100000 in
set_option maxHeartbeats 2000000 in
theorem head_iter (gf : Nat) (lb : Array Value) (eg : ∀ args w, (callFunc gf args).run Try.prog w = .ok (.enter gf args) w) (xs : List Itm) (R : Nat → Prop) (T : Nat → World → Prop)
    (hit : Iter Try.prog gf lb (encI xs) xs.length R T) (Bn Bs : Nat) (n : Int) (hBn : ¬ R Bn) (hBs : ¬ R Bs) (hn : -9223372036854775808 ≤ n ∧ n < 9223372036854775808) (N' : Nat) (hN : N' = min n.toNat xs.length) :
    Iter Try.prog 42 #[.pointer (some ⟨Bn, 0, none⟩), .pointer (some ⟨Bs, 0, none⟩)] (encI xs) N' (fun k => k = Bn ∨ k = Bs ∨ R k) (fun i W => T i W ∧ Boxed W Bn 3 (.int .i64 n) ∧ Boxed W Bs 31 (.func (.func gf) #[] lb)) := by
  refine ⟨?_, ?_⟩
  · rintro i W W' ⟨h1, h2, h3⟩ hm
    exact ⟨hit.keeps i W W' h1 (hm.mono fun k _ h hr => h (.inr (.inr hr))), boxed_mv h2 hm (fun h => h (.inl rfl)), boxed_mv h3 hm (fun h => h (.inr (.inl rfl)))⟩
  intro lp J Jx O W hRl hOR ⟨hT, hcn, hcs⟩ hC h0
  refine (callsIn_wide (n := 5)).1 ?_
  refine callsIn_of_wp_marks Try.func42 rfl trivial ?_ rfl
  simp only [Try.ntmps42, List.size_toArray, List.length_cons, List.length_nil, Nat.reduceAdd, Nat.reduceSub, Array.replicate_succ, Array.replicate_zero, List.push_toArray, List.append_toArray, List.nil_append, List.cons_append]
  have HC := hid hC
  have HOR := hid hOR
  have HIT := hid hit
  have HRL := hid hRl
  clear hC hOR hit hRl
  obtain ⟨w1, hw1⟩ : ∃ w1, w1 = W.alloc (Obj.cells #[.func (.yield lp) #[] #[]] 38) := ⟨_, rfl⟩
  have hm1 : ∀ X, Mv X W w1 := fun X => by rw [hw1]; exact Mv.alloc _ _
  have hcn1 := Boxed.cell (boxed_mv hcn (hm1 (fun _ => False)) (fun h => h))
  obtain ⟨w2, hw2⟩ : ∃ w2, w2 = w1.alloc (Obj.cells #[.int .i64 n] 3) := ⟨_, rfl⟩
  have hm2 : ∀ X, Mv X W w2 := fun X => (hm1 X).trans (by rw [hw2]; exact Mv.alloc _ _) (fun _ h => h) (fun _ _ h => h)
  have hcs2b := boxed_mv hcs (hm2 (fun _ => False)) (fun h => h)
  have hcs2 := Boxed.cell hcs2b
  have z1 : w1.heap.size = W.heap.size + 1 := by rw [hw1]; simp
  have z2 : w2.heap.size = W.heap.size + 2 := by rw [hw2]; simp [z1]
  have by1 : Boxed w1 W.heap.size 38 (.func (.yield lp) #[] #[]) := by rw [hw1]; exact Boxed.new W _ _
  have by2 : Boxed w2 W.heap.size 38 (.func (.yield lp) #[] #[]) := by rw [hw2]; exact by1.alloc _
  have bl2 : Boxed w2 (W.heap.size + 1) 3 (.int .i64 n) := by rw [hw2, ← z1]; exact Boxed.new w1 _ _
  have cl2 := bl2.cell
  have HJ2 := hid (HC.out.stable.2 _ _ _ _ h0 (hm2 _))
  have HT2 := hid (HIT.out.keeps _ _ _ hT (hm2 _))
  have HM2 := hid hm2
  have HN := hid hN
  have HBY := hid by2
  have HBL := hid bl2
  have HCN2 := hid (boxed_mv hcn (hm2 (fun _ => False)) (fun h => h))
  have HCS2 := hid hcs2b
  have hJO := HC.out.stable.1 _ _ _ h0
  have HJO := hid hJO
  rw [hw1] at hcn1 hw2
  rw [hw2] at hcs2 cl2
  clear hcs2b hm1 hm2 by1 by2 bl2 hw1 hT h0 hcn hcs hN hJO
  have HF : Hid (∀ (W1 : World) (D : Nat), w2.heap.size ≤ D → Mv (fun k => (O k ∨ k = W.heap.size ∨ k = W.heap.size + 1) ∨ R k) w2 W1 →
      Mv (fun k => O k ∨ k = Bn ∨ k = Bs ∨ R k) W (W1.putObj D (.deferred none)) ∧ Boxed (W1.putObj D (.deferred none)) Bn 3 (.int .i64 n) ∧ Boxed (W1.putObj D (.deferred none)) Bs 31 (.func (.func gf) #[] lb)) := hid (fun W1 D hD hmw => by
    have hpd : Mv (fun k => k = D) W1 (W1.putObj D (.deferred none)) := Mv.putObj _ _ _ (fun _ => rfl)
    have l1 := HRL.out Bn (.inl rfl)
    have l2 := HRL.out Bs (.inr (.inl rfl))
    refine ⟨((HM2.out (fun k => O k ∨ k = Bn ∨ k = Bs ∨ R k)).trans hmw (fun _ h => h) (fun k hk h => ?_)).trans hpd (fun _ h => h) (fun k hk h => by omega), ?_, ?_⟩
    · rcases h with (h | h | h) | h
      · exact .inl h
      · omega
      · omega
      · exact .inr (.inr (.inr h))
    · refine boxed_mv (boxed_mv HCN2.out hmw (fun h => ?_)) hpd (by show ¬ Bn = D; omega)
      rcases h with (h | h | h) | h
      · exact HOR.out _ h (.inl rfl)
      · omega
      · omega
      · exact hBn h
    · refine boxed_mv (boxed_mv HCS2.out hmw (fun h => ?_)) hpd (by show ¬ Bs = D; omega)
      rcases h with (h | h | h) | h
      · exact HOR.out _ h (.inr (.inl rfl))
      · omega
      · omega
      · exact hBs h)
  by_cases hpos : n ≤ 0
  · have q : decide (n ≤ 0) = true := decide_eq_true hpos
    gi_wp2
    rw [← hw2]
    have h0 : N' = 0 := by have := HN.out; omega
    refine ⟨_, results_none rfl _ _ _, ⟨_, rfl⟩, O, HM2.out _, fun k h => .inl h, .inl ⟨by rw [h0]; exact HJ2.out, by rw [h0]; exact HT2.out, HCN2.out, HCS2.out⟩⟩
  · have q : decide (n ≤ 0) = false := decide_eq_false hpos
    gi_wp2
    rw [← hw2]
    clear hw2
    refine wpIn_range (gf := gf) (lb := lb) rfl eg HIT.out (fun _ => rfl) (IH J O W.heap.size lp W.heap.size (W.heap.size + 1) n) (IHx J Jx O W.heap.size W.heap.size (W.heap.size + 1) N') (fun k => O k ∨ k = W.heap.size ∨ k = W.heap.size + 1)
      (IH_stable HC.out.stable (fun k h => .inr (.inr h)) (by omega)) (fun _ => IHx_stable HC.out.stable HC.out.stablex (fun k h => .inr (.inr h)) (by omega))
      ⟨O, HJ2.out, fun _ => Iff.rfl, fun h => by have := HJO.out _ h; omega, fun h => by have := HJO.out _ h; omega, fun k h => .inl h, HBY.out, by rw [show n - ((0 : Nat) : Int) = n by omega]; exact HBL.out, by omega⟩
      (fun k hk => by have := HRL.out k (.inr (.inr hk)); omega) (fun k e h => by
        have := HRL.out k (.inr (.inr h))
        rcases e with e | e | e
        · exact HOR.out k e (.inr (.inr h))
        · omega
        · omega) HT2.out
      (fun i => { tmps := #[.func (.yield lp) #[] #[], .pointer (some ⟨Bn, 0, none⟩), .pointer (some ⟨Bs, 0, none⟩), .pointer (some ⟨W.heap.size, 0, none⟩), .pointer (some ⟨W.heap.size + 1, 0, none⟩), .string (Str (itm xs i).1), (.int .i64 ((itm xs i)).2), .int .i64 n, .int .i64 n, .bool false, .func (.func gf) #[] lb, .string (Str (itm xs i).1), (.int .i64 ((itm xs i)).2), undef, undef, undef, undef, undef, undef, undef, undef, undef, undef, undef], defers := [] }) ?assign ?body ?done ?stop
    case assign =>
      intro l i W K hK
      simp only [encI]
      gi_wp2
      exact hK
    case body =>
      rintro l i O1 W1 hi ⟨Ob, hj, hO, hy, hl, hs, bby, bbl, hin⟩ hsz hOs hmw
      have hiN : i < N' := by have := HN.out; omega
      have hwr : IntKind.i64.wrap (n - (i : Int) - 1) = n - (i : Int) - 1 := by rw [IntKind.wrap_i64]; omega
      have cl := bbl.cell
      have fl := bbl.frozen
      obtain ⟨W3, hW3⟩ : ∃ W3, W3 = W1.setCell ⟨W.heap.size + 1, 0, none⟩ (.int .i64 (n - (i : Int) - 1)) := ⟨_, rfl⟩
      have hm3 : ∀ X : Nat → Prop, X (W.heap.size + 1) → Mv X W1 W3 := fun X hX => by rw [hW3]; exact Mv.setCell _ _ _ hX
      have bby3 : Boxed W3 W.heap.size 38 (.func (.yield lp) #[] #[]) := by rw [hW3]; exact bby.other (by omega) _
      have bbl3 : Boxed W3 (W.heap.size + 1) 3 (.int .i64 (n - (i : Int) - 1)) := by rw [hW3]; exact bbl.set _
      have cy3 := bby3.cell
      have hJ3 := HC.out.stable.2 _ _ _ _ hj (hm3 _ ⟨.inr (by omega), hl⟩)
      obtain ⟨fn, tmps, assign, body, hyy, hR⟩ := yield_any rfl 0 (HC.out.round i Ob W3 hiN hJ3 (by have := (hm3 (fun k => k = W.heap.size + 1) rfl).size; omega))
      have HM3 := hid hm3
      have HO := hid hO
      have HS := hid hs
      have HY := hid hy
      have HL := hid hl
      have HBY3 := hid bby3
      have HBL3 := hid bbl3
      rw [hW3] at hyy hR cy3
      simp only [encI] at hyy hR
      clear hm3 hO hs bby3 bbl3 bby bbl hJ3 hj hmw hOs hy hl
      gi_wp2
      refine ⟨rfl, (show RoundIn (Fence.wide.inRound l) 0 _ _ _ _ _ _ _ _ from round_any rfl hR).mono ?_⟩
      rw [← hW3]
      rintro e W4 ⟨O4, hm4, hs4, hcase⟩
      have bl4 := boxed_mv HBL3.out hm4 HL.out
      have by4 := boxed_mv HBY3.out hm4 HY.out
      have cl4 := bl4.cell
      have HS4 := hid hs4
      have HM4 := hid hm4
      have HCA := hid hcase
      have HBL4 := hid bl4
      have HBY4 := hid by4
      clear hs4 hm4 hcase bl4 by4 hW3
      have hO4 : Hid (Mv O1 W1 W4 ∧ (∀ k, (O4 k ∨ k = W.heap.size ∨ k = W.heap.size + 1) → O1 k ∨ W1.heap.size ≤ k) ∧ ¬ O4 W.heap.size ∧ ¬ O4 (W.heap.size + 1) ∧ (∀ k, O4 k → O k ∨ W.heap.size ≤ k)) := hid (by
        have hsz3 := (HM3.out (fun k => k = W.heap.size + 1) rfl).size
        refine ⟨(HM3.out O1 ((HO.out _).2 (.inr (.inr rfl)))).trans HM4.out (fun _ h => h) (fun k _ h => (HO.out k).2 (.inl h)), fun k h => ?_, fun h => ?_, fun h => ?_, fun k h => ?_⟩
        · rcases h with h | h
          · rcases HS4.out k h with h | h
            · exact .inl ((HO.out k).2 (.inl h))
            · exact .inr (by omega)
          · exact .inl ((HO.out k).2 (.inr h))
        · rcases HS4.out _ h with h | h
          · exact HY.out h
          · omega
        · rcases HS4.out _ h with h | h
          · exact HL.out h
          · omega
        · rcases HS4.out k h with h | h
          · exact HS.out k h
          · exact .inr (by omega))
      rcases HCA.out with ⟨rfl, hJ4⟩ | ⟨rfl, hJ4⟩
      · have HJ4 := hid hJ4
        clear hJ4
        by_cases hz : n - (i : Int) - 1 = 0
        · have hz' : ((n - (i : Int) - 1 : Int) == 0) = true := beq_iff_eq.2 hz
          gi_wp2
          exact ⟨_, hO4.out.1, hO4.out.2.1, rfl, O4, .inr ⟨HJ4.out, by have := HN.out; omega⟩, fun _ => Iff.rfl, HBY4.out.lt, HBL4.out.lt, hO4.out.2.2.2.2⟩
        · have hz' : ((n - (i : Int) - 1 : Int) == 0) = false := beq_eq_false_iff_ne.2 hz
          gi_wp2
          exact ⟨_, hO4.out.1, hO4.out.2.1, O4, HJ4.out, fun _ => Iff.rfl, hO4.out.2.2.1, hO4.out.2.2.2.1, hO4.out.2.2.2.2, HBY4.out, by rw [show n - ((i + 1 : Nat) : Int) = n - (i : Int) - 1 by omega]; exact HBL4.out, by omega⟩
      · have HJ4 := hid hJ4
        clear hJ4
        gi_wp2
        exact ⟨_, hO4.out.1, hO4.out.2.1, rfl, O4, .inl ⟨HJ4.out, by omega, by omega⟩, fun _ => Iff.rfl, HBY4.out.lt, HBL4.out.lt, hO4.out.2.2.2.2⟩
    case done =>
      rintro D O1 W1 hD hnD hOs hmw ⟨Ob, hj, hO, hy, hl, hs, bby, bbl, hin⟩ hT1 hK
      have hpd : ∀ X : Nat → Prop, X D → Mv X W1 (W1.putObj D (.deferred none)) := fun X hX => Mv.putObj _ _ _ (fun _ => hX)
      have hNN : xs.length = N' := by have := HN.out; omega
      have hf := HF.out W1 D (by omega) hmw
      have HJ1 := hid (HC.out.stable.2 _ _ _ _ hj (hpd _ ⟨.inr (by omega), fun h => hnD ((hO _).2 (.inl h))⟩))
      have HT1 := hid (HIT.out.keeps _ _ _ hT1 (hpd _ (fun h => by have := HRL.out _ (.inr (.inr h)); omega)))
      rw [hNN] at HJ1 HT1
      clear hj hT1 hmw hpd
      gi_wp2
      refine ⟨by simp, .inl ⟨_, _, rfl, run_takeDeferred hK, ?_⟩⟩
      exact ⟨_, results_none rfl _ _ _, ⟨_, rfl⟩, Ob, hf.1, hs, .inl ⟨HJ1.out, HT1.out, hf.2.1, hf.2.2⟩⟩
    case stop =>
      rintro D c i O1 W1 hD hnD hOs hmw hi ⟨rfl, Ob, hj, hO, hy, hl, hs⟩ hT1 hK
      have hpd : ∀ X : Nat → Prop, X D → Mv X W1 (W1.putObj D (.deferred none)) := fun X hX => Mv.putObj _ _ _ (fun _ => hX)
      have hf := HF.out W1 D (by omega) hmw
      have hmd := hpd (fun k => ((k = Bn ∨ k = Bs ∨ R k) ∨ W.heap.size ≤ k) ∧ ¬ Ob k) ⟨.inr (by omega), fun h => hnD ((hO _).2 (.inl h))⟩
      have HJ1 : Hid ((Jx (i + 1) Ob (W1.putObj D (.deferred none)) ∧ i + 1 ≤ N') ∨ (J (i + 1) Ob (W1.putObj D (.deferred none)) ∧ i + 1 = N')) := hid (by
        rcases hj with hj | hj
        · exact .inl ⟨HC.out.stablex.2 _ _ _ _ hj.1 hmd, hj.2.2⟩
        · exact .inr ⟨HC.out.stable.2 _ _ _ _ hj.1 hmd, hj.2⟩)
      have HT1 := hid (HIT.out.keeps _ _ _ hT1 (hpd _ (fun h => by have := HRL.out _ (.inr (.inr h)); omega)))
      clear hj hT1 hmw hpd hmd
      gi_wp2
      refine ⟨by simp, .inl ⟨_, _, rfl, run_takeDeferred hK, ?_⟩⟩
      refine ⟨_, results_none rfl _ _ _, ⟨_, rfl⟩, Ob, hf.1, hs, ?_⟩
      rcases HJ1.out with ⟨h1, h2⟩ | ⟨h1, h2⟩
      · exact .inr ⟨i, by omega, h1, HT1.out, hf.2.1, hf.2.2⟩
      · exact .inl ⟨h2 ▸ h1, h2 ▸ HT1.out, hf.2.1, hf.2.2⟩
end Go.Proofs.Ytiemcfkekaklgaa.Runs
