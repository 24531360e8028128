/- seq.Rises over a run. -/
import Derived.Test.YtiemcfkekaklgaaRunI
import Derived.Test.YtiemcfkekaklgaaLt
set_option linter.unusedVariables false
set_option linter.unusedSimpArgs false
namespace Go.Proofs.Ytiemcfkekaklgaa.Runs
open Go.RowKit Go.Shelf Go.Proofs.Ytiemcfkekaklgaa.Lib Go.Proofs.Ytiemcfkekaklgaa.Prs Go.Proofs.Ytiemcfkekaklgaa.Run Go.Proofs.Ytiemcfkekaklgaa.Lt
attribute [local go_sem] Oper.semAt_some Str_toList
/-- does each key stand above the one ahead of it, of the first i? -/
def risesTo (xs : List Itm) (i : Nat) : Prop := ∀ j, j + 1 < i → ltS (itm xs j).1 (itm xs (j + 1)).1 = true
noncomputable def risesP (xs : List Itm) : Bool := @decide (risesTo xs xs.length) (Classical.propDecidable _)
/-- what seq.Rises holds behind i rounds -/
def IR (B : Nat) (xs : List Itm) (i : Nat) (O : Nat → Prop) (W : World) : Prop :=
  i ≤ xs.length ∧ Boxed W B 4 (.bool false) ∧ (∃ s, Boxed W (B + 1) 9 (.string (Str s)) ∧ (0 < i → s = (itm xs (i - 1)).1)) ∧ Boxed W (B + 1 + 1) 4 (.bool (decide (i = 0))) ∧ risesTo xs i ∧ ∀ k, O k ↔ (k = B ∨ k = B + 1 ∨ k = B + 1 + 1)
def IRx (B : Nat) (xs : List Itm) (c : Code) (i : Nat) (O : Nat → Prop) (W : World) : Prop :=
  c = .ret ∧ Boxed W B 4 (.bool false) ∧ B + 1 < W.heap.size ∧ B + 1 + 1 < W.heap.size ∧ ¬ risesTo xs xs.length ∧ ∀ k, O k ↔ (k = B ∨ k = B + 1 ∨ k = B + 1 + 1)
theorem IR_stable (R : Nat → Prop) (B B' : Nat) (xs : List Itm) : Stable R B' (IR B xs) := by
  refine ⟨?_, ?_⟩
  · rintro i O W ⟨_, h0, ⟨s, h1, _⟩, h2, _, hO⟩ k hk
    rcases (hO k).1 hk with rfl | rfl | rfl
    · exact h0.lt
    · exact h1.lt
    · exact h2.lt
  · rintro i O W W' ⟨hi, h0, ⟨s, h1, hs⟩, h2, hr, hO⟩ hm
    exact ⟨hi, boxed_mv h0 hm (fun h => h.2 ((hO _).2 (.inl rfl))), ⟨s, boxed_mv h1 hm (fun h => h.2 ((hO _).2 (.inr (.inl rfl)))), hs⟩, boxed_mv h2 hm (fun h => h.2 ((hO _).2 (.inr (.inr rfl)))), hr, hO⟩
theorem IRx_stable (R : Nat → Prop) (B B' : Nat) (xs : List Itm) (c : Code) : Stable R B' (IRx B xs c) := by
  refine ⟨?_, ?_⟩
  · rintro i O W ⟨_, h0, h1, h2, _, hO⟩ k hk
    rcases (hO k).1 hk with rfl | rfl | rfl
    · exact h0.lt
    · exact h1
    · exact h2
  · rintro i O W W' ⟨hi, h0, h1, h2, hr, hO⟩ hm
    exact ⟨hi, boxed_mv h0 hm (fun h => h.2 ((hO _).2 (.inl rfl))), Nat.lt_of_lt_of_le h1 hm.size, Nat.lt_of_lt_of_le h2 hm.size, hr, hO⟩
theorem results_cell1 {fn : Func} {p : Tmp} {ty : TypeId} (h : fn.results = #[.cell p ty]) (tmps : Array Value) (P : Program) (w : World) :
    (results fn tmps).run P w = ((asAddr (tmps.getD p undef)).run P w).andThen fun a w₁ => (loadVar ty a).run P w₁ := by
  simp only [results, h]
  simp [Sem.run_bind, Result.andThen]
set_option maxRecDepth 100000 in
set_option maxHeartbeats 3200000 in
theorem rises_iter (gf : Nat) (lb : Array Value) (eg : ∀ args w, (callFunc gf args).run Try.prog w = .ok (.enter gf args) w) (xs : List Itm) (hl : xs.length ≤ 1000000000) (R : Nat → Prop) (T : Nat → World → Prop)
    (hit : Iter Try.prog gf lb (encI xs) xs.length R T) (w : World) (hR : ∀ k, R k → k < w.heap.size) (hT : T 0 w) :
    Calls Try.prog 14 #[.func (.func gf) #[] lb] w fun e w' => e = .returned (.bool (risesP xs)) ∧ Mv R w w' ∧ ∃ i, T i w' := by
  refine (callsIn_wide (n := 5)).1 ?_
  refine callsIn_of_wp_marks Try.func14 rfl trivial ?_ rfl
  simp only [Try.ntmps14, List.size_toArray, List.length_cons, List.length_nil, Nat.reduceAdd, Nat.reduceSub, Array.replicate_succ, Array.replicate_zero, List.push_toArray, List.append_toArray, List.nil_append, List.cons_append]
  obtain ⟨B, hB⟩ : ∃ B, B = w.heap.size := ⟨_, rfl⟩
  obtain ⟨w1, hw1⟩ : ∃ w1, w1 = ((w.alloc (Obj.cells #[Value.bool false] 4)).alloc (Obj.cells #[Value.string ⟨#[]⟩] 9)).alloc (Obj.cells #[Value.bool true] 4) := ⟨_, rfl⟩
  have z1 : w1.heap.size = w.heap.size + 3 := by rw [hw1]; simp
  have hm0 : ∀ X, Mv X w w1 := fun X => by rw [hw1]; exact Mv.of_below (below_al (below_al (below_al (below_rf w) _) _) _)
  have b0 : Boxed w1 B 4 (.bool false) := by rw [hw1, hB]; exact ((Boxed.new w _ _).alloc _).alloc _
  have b1 : Boxed w1 (B + 1) 9 (.string (Str [])) := by
    rw [hw1, hB, Str_nil]
    have := Boxed.new (w.alloc (Obj.cells #[Value.bool false] 4)) 9 (Value.string ⟨#[]⟩)
    rw [World.size_alloc] at this
    exact this.alloc _
  have b2 : Boxed w1 (B + 1 + 1) 4 (.bool true) := by
    rw [hw1, hB]
    have := Boxed.new ((w.alloc (Obj.cells #[Value.bool false] 4)).alloc (Obj.cells #[Value.string ⟨#[]⟩] 9)) 4 (Value.bool true)
    rw [World.size_alloc, World.size_alloc] at this
    exact this
  have HM0 := hid hm0
  have HIT := hid hit
  have h0 : IR B xs 0 (fun k => k = B ∨ k = B + 1 ∨ k = B + 1 + 1) w1 := ⟨Nat.zero_le _, b0, ⟨[], b1, fun h => by omega⟩, b2, fun j hj => by omega, fun _ => Iff.rfl⟩
  have H0 := hid h0
  clear hm0 hit h0 b0 b1 b2
  subst hB
  gi_wp2
  rw [← hw1]
  clear hw1
  refine wpIn_range (gf := gf) (lb := lb) rfl eg HIT.out (fun _ => rfl) (IR w.heap.size xs) (IRx w.heap.size xs) (fun k => k = w.heap.size ∨ k = w.heap.size + 1 ∨ k = w.heap.size + 1 + 1) (IR_stable _ _ _ _) (fun _ => IRx_stable _ _ _ _ _)
    H0.out (fun k hk => by have := hR k hk; omega) (fun k e h => by have := hR k h; omega) (HIT.out.keeps _ _ _ hT (HM0.out _))
    (fun i => { tmps := #[.func (.func gf) #[] lb, undef, .pointer (some ⟨w.heap.size, 0, none⟩), .pointer (some ⟨w.heap.size + 1, 0, none⟩), .pointer (some ⟨w.heap.size + 1 + 1, 0, none⟩), .string (Str (itm xs i).1), .func (.func gf) #[] lb, .string (Str (itm xs i).1), (.int .i64 ((itm xs i)).2), undef, undef, undef, undef, undef, undef, undef, undef], defers := [] }) ?assign ?body ?done ?stop
  case assign =>
    intro l i W K hK
    simp only [encI]
    gi_wp2
    exact hK
  case body =>
    rintro lp i O W hi ⟨hil, hb0, ⟨s, hb1, hs⟩, hb2, hris, hO⟩ hsz hOs hmw
    have HRI := hid hris
    have HS := hid hs
    have HO := hid hO
    have HMW := hid hmw
    have HOS := hid hOs
    clear hris hs hO hmw hOs
    have hsame : ∀ (X : Nat → Prop), X w.heap.size → X (w.heap.size + 1) → X (w.heap.size + 1 + 1) → Mv X W ((W.setCell ⟨w.heap.size + 1, 0, none⟩ (.string (Str (itm xs i).1))).setCell ⟨w.heap.size + 1 + 1, 0, none⟩ (.bool false)) := fun X _ hX1 hX2 =>
      (Mv.setCell (O := X) _ _ _ hX1).trans (Mv.setCell (O := X) _ _ _ hX2) (fun _ h => h) (fun _ _ h => h)
    have HSM := hid (hsame O ((HO.out _).2 (.inl rfl)) ((HO.out _).2 (.inr (.inl rfl))) ((HO.out _).2 (.inr (.inr rfl))))
    have hk1 := (hb1.set (.string (Str (itm xs i).1)))
    have hk2 := (hb2.other (show w.heap.size + 1 + 1 ≠ w.heap.size + 1 by omega) (.string (Str (itm xs i).1)))
    have c0 := hb0.cell
    have f0 := hb0.frozen
    have c1 := hb1.cell
    have f1 := hb1.frozen
    have c2 := hb2.cell
    have f2 := hb2.frozen
    obtain ⟨x, hx⟩ : ∃ x, x = itm xs i := ⟨_, rfl⟩
    rw [← hx] at HSM hk1 hk2 ⊢
    have HX := hid hx
    have HB0 := hid hb0
    have HK1 := hid hk1
    have HK2 := hid hk2
    have HL := hid (⟨hb1.lt, hb2.lt⟩ : w.heap.size + 1 < W.heap.size ∧ w.heap.size + 1 + 1 < W.heap.size)
    clear hx hb0 hb1 hb2 hk1 hk2 hsame
    have fin : risesTo xs (i + 1) → bodyEnd (IR w.heap.size xs) (IRx w.heap.size xs) i O W .normal ⟨#[], []⟩ ((W.setCell ⟨w.heap.size + 1, 0, none⟩ (.string (Str x.1))).setCell ⟨w.heap.size + 1 + 1, 0, none⟩ (.bool false)) := fun hr =>
      ⟨O, HSM.out, fun k h => .inl h, by omega, (HB0.out.other (by omega) _).other (by omega) _, ⟨x.1, HK1.out.other (by omega) _, fun _ => by rw [HX.out]; rfl⟩, by
        rw [decide_eq_false (show ¬ i + 1 = 0 by omega)]; exact HK2.out.set _, hr, HO.out⟩
    have FIN := hid fin
    clear fin
    rcases Nat.eq_zero_or_pos i with h0 | h0
    · subst h0
      have c2' : W.cell? ⟨w.heap.size + 1 + 1, 0, none⟩ = some (.bool true) := c2
      clear c2
      gi_wp2
      exact FIN.out (fun j hj => by omega)
    · have c2' : W.cell? ⟨w.heap.size + 1 + 1, 0, none⟩ = some (.bool false) := by rw [c2, decide_eq_false (by omega)]
      clear c2
      cases r : ltS s x.1 with
      | true =>
        have r' : Op.bytesLess s x.1 = true := r
        have HR := hid r
        clear r
        gi_wp2
        refine FIN.out (fun j hj => ?_)
        by_cases e : j + 1 = i
        · rw [e, ← HX.out, show j = i - 1 by omega, ← HS.out h0]; exact HR.out
        · exact HRI.out j (by omega)
      | false =>
        have r' : Op.bytesLess s x.1 = false := r
        have HR := hid r
        clear r
        gi_wp2
        refine ⟨O, Mv.setCell (O := O) _ _ _ ((HO.out _).2 (.inl rfl)), fun k h => .inl h, rfl, HB0.out.set _, by simpa using HL.out.1, by simpa using HL.out.2, fun h => ?_, HO.out⟩
        have := h (i - 1) (by omega)
        rw [show i - 1 + 1 = i by omega, ← HX.out, ← HS.out h0, HR.out] at this
        cases this
  case done =>
    rintro D O W hD hnD hOs hmw ⟨hil, hb0, _, _, hris, hO⟩ hT2 hK
    have HM := hid ((HM0.out R).trans hmw (O := R) (fun _ h => h) (fun j hj h => by
      rcases h with h | h
      · omega
      · exact h))
    have c0 := hb0.cell
    have f0 := hb0.frozen
    have HR := hid hris
    clear hmw hO hOs hris
    gi_wp2
    refine ⟨by simp, .inl ⟨_, _, rfl, run_takeDeferred ((heap_setCell_other W ⟨w.heap.size, 0, none⟩ D _ (by show D ≠ w.heap.size; omega)).trans hK), ?_⟩⟩
    have hpd : ∀ X : Nat → Prop, X D → Mv X (W.setCell ⟨w.heap.size, 0, none⟩ (.bool true)) ((W.setCell ⟨w.heap.size, 0, none⟩ (.bool true)).putObj D (.deferred none)) := fun X hX => Mv.putObj _ _ _ (fun _ => hX)
    have hset : Mv (fun k => k = w.heap.size) W (W.setCell ⟨w.heap.size, 0, none⟩ (.bool true)) := Mv.setCell _ _ _ rfl
    have hcell : ((W.setCell ⟨w.heap.size, 0, none⟩ (.bool true)).putObj D (.deferred none)).cell? ⟨w.heap.size, 0, none⟩ = some (.bool true) := (hpd (fun k => k = D) rfl).cell (World.cell?_setCell_same _ _ _ c0) (by show ¬ w.heap.size = D; omega)
    refine ⟨.bool true, (results_cell1 rfl _ _ _).trans ?_, ?_, (HM.out.trans hset (fun _ h => h) (fun j hj e => by omega)).trans (hpd (fun k => k = D) rfl) (fun _ h => h) (fun j hj e => by omega),
      xs.length, HIT.out.keeps _ _ _ (HIT.out.keeps _ _ _ hT2 (hset.mono fun j hj e h => by have := hR _ h; omega)) (hpd _ (fun h => by have := hR _ h; omega))⟩
    · simp [asAddr, loadVar, hcell, go_sem]
    · unfold risesP; rw [@decide_eq_true _ (Classical.propDecidable _) HR.out]
  case stop =>
    rintro D c i O W hD hnD hOs hmw hi ⟨rfl, hb0, _, _, hris, hO⟩ hT2 hK
    have HM := hid ((HM0.out R).trans hmw (O := R) (fun _ h => h) (fun j hj h => by
      rcases h with h | h
      · omega
      · exact h))
    have c0 := hb0.cell
    have f0 := hb0.frozen
    have HR := hid hris
    clear hmw hO hOs hris
    gi_wp2
    refine ⟨by simp, .inl ⟨_, _, rfl, run_takeDeferred hK, ?_⟩⟩
    have hpd : ∀ X : Nat → Prop, X D → Mv X W (W.putObj D (.deferred none)) := fun X hX => Mv.putObj _ _ _ (fun _ => hX)
    have hcell : (W.putObj D (.deferred none)).cell? ⟨w.heap.size, 0, none⟩ = some (.bool false) := (hpd (fun k => k = D) rfl).cell c0 (by show ¬ w.heap.size = D; omega)
    refine ⟨.bool false, (results_cell1 rfl _ _ _).trans ?_, ?_, HM.out.trans (hpd (fun k => k = D) rfl) (fun _ h => h) (fun j hj e => by omega),
      i + 1, HIT.out.keeps _ _ _ hT2 (hpd _ (fun h => by have := hR _ h; omega))⟩
    · simp [asAddr, loadVar, hcell, go_sem]
    · unfold risesP; rw [@decide_eq_false _ (Classical.propDecidable _) HR.out]
end Go.Proofs.Ytiemcfkekaklgaa.Runs
