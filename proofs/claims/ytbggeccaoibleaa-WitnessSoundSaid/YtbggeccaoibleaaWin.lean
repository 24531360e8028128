/- seq.Within over a run of pairs of texts that need not rise: it ends at the first key that isn't below the bound. -/
import Derived.Test.YtbggeccaoibleaaRg
set_option linter.unusedVariables false
set_option linter.unusedSimpArgs false
namespace Go.Proofs.Ytbggeccaoibleaa.RunsS
open Go.RowKit Go.Shelf Go.Proofs.Ytbggeccaoibleaa.Lib Go.Proofs.Ytbggeccaoibleaa.T08 Go.Proofs.Ytbggeccaoibleaa.Itms Go.Proofs.Ytbggeccaoibleaa.Run Go.Proofs.Ytbggeccaoibleaa.WSeq
attribute [local go_sem] Oper.semAt_some Str_toList
def withT (p : Itm → Bool) (ts : List Itm) (N : Nat) (T : Nat → World → Prop) (Cs : World → Prop) (m : Nat) (W : World) : Prop := ∃ i, i ≤ N ∧ idx p ts i = m ∧ T i W ∧ NoK i W ∧ Cs W
set_option maxRecDepth 100000 in
set_option maxHeartbeats 2000000 in
theorem withing_iter (gf : Nat) (lb : Array Value) (eg : ∀ args w, (callFunc gf args).run Try.prog w = .ok (.enter gf args) w) (xs : List Itm) (R : Nat → Prop) (T : Nat → World → Prop)
    (hit : Iter Try.prog gf lb (encI xs) xs.length R T) (fr tk : List UInt8) (Bs Bt Bf : Nat) (hB : ¬ R Bs ∧ ¬ R Bt ∧ ¬ R Bf) (p : Itm → Bool) (hp : p = fun x => !ltS x.1 fr) (m : Nat) (hm0 : m ≤ xs.length) (hmlt : ∀ i, i < m → ltS (itm xs i).1 tk = true) (hmat : m < xs.length → ltS (itm xs m).1 tk = false) (h00 : ∀ i W, T i W → T 0 W) :
    Iter Try.prog 80 #[.pointer (some ⟨Bs, 0, none⟩), .pointer (some ⟨Bt, 0, none⟩), .pointer (some ⟨Bf, 0, none⟩)] (encI ((xs.take m).filter p)) ((xs.take m).filter p).length (fun k => (k = Bs ∨ k = Bt ∨ k = Bf) ∨ R k ∨ NoR k) (withT p (xs.take m) xs.length T (WithinCs Bs Bt Bf gf lb fr tk)) := by
  have hcs : ∀ (X : Nat → Prop) (A B : World), WithinCs Bs Bt Bf gf lb fr tk A → Mv X A B → (∀ k, (k = Bs ∨ k = Bt ∨ k = Bf) → ¬ X k) → WithinCs Bs Bt Bf gf lb fr tk B := fun X A B h hm hx => ⟨boxed_mv h.1 hm (hx _ (.inl rfl)), boxed_mv h.2.1 hm (hx _ (.inr (.inl rfl))), boxed_mv h.2.2 hm (hx _ (.inr (.inr rfl)))⟩
  refine ⟨?_, ?_⟩
  · rintro m W W' ⟨i, h1, h2, h3, h4, h5⟩ hm
    exact ⟨i, h1, h2, hit.keeps _ _ _ h3 (hm.mono fun k _ h hr => h (.inr (.inl hr))), trivial, hcs _ _ _ h5 hm (fun k hk h => h (.inl hk))⟩
  intro lp J Jx O W hRl hOR hT' hC h0
  obtain ⟨i0, hi0, he0, hT0, hK0, hcs0⟩ := hT'
  have hT0 := h00 i0 W hT0
  obtain ⟨V, hV⟩ : ∃ V, V = onlyV p (xs.take m) NoR NoK (fun k => (k = Bs ∨ k = Bt ∨ k = Bf) ∨ R k ∨ NoR k) lp J Jx O W.heap.size := ⟨_, rfl⟩
  have hok : V.Ok := by rw [hV]; exact ⟨hC.stable, hC.stablex, fun k h => .inr (.inr h), hRl, hOR, rfl, fun _ _ _ _ _ => trivial⟩
  refine (callsIn_wide (n := 5)).1 ?_
  refine callsIn_of_wp_marks Try.func80 rfl trivial ?_ rfl
  simp only [Try.ntmps80, List.size_toArray, List.length_cons, List.length_nil, Nat.reduceAdd, Nat.reduceSub, Array.replicate_succ, Array.replicate_zero, List.push_toArray, List.append_toArray, List.nil_append, List.cons_append]
  obtain ⟨w1, hw1⟩ : ∃ w1, w1 = W.alloc (Obj.cells #[.func (.yield lp) #[] #[]] 49) := ⟨_, rfl⟩
  have hm1 : ∀ X, Mv X W w1 := fun X => by rw [hw1]; exact Mv.alloc _ _
  have hcs1 := hcs _ _ _ hcs0 (hm1 (fun _ => False)) (fun _ _ h => h)
  have z1 : w1.heap.size = W.heap.size + 1 := by rw [hw1]; simp
  have by1 : Boxed w1 W.heap.size 49 (.func (.yield lp) #[] #[]) := by rw [hw1]; exact Boxed.new W _ _
  have HST := hid (Ov.start (V := V) hok (by rw [hV]; exact h0) (by rw [hV]; rfl) (by rw [hV]; trivial) (by rw [hV]; rfl) (hm1 _) (by rw [hV]; exact by1))
  have HM1 := hid hm1
  have HOK := hid hok
  have HC := hid hC
  have HIT := hid hit
  have HRL := hid hRl
  have HT1 := hid (hit.keeps _ _ _ hT0 (hm1 _))
  have HCS := hid hcs0
  have HCSA := hid hcs
  have HVV := hid hV
  have hsc1 := Boxed.cell hcs1.1
  have HBS := hid hB
  have HLT := hid hmlt
  have HAT := hid hmat
  rw [hw1] at hsc1
  clear hm1 by1 hok hC hit hOR hRl hT0 hcs0 hcs h0 he0 h00 hcs1 hV hB hmlt hmat
  gi_wp2
  rw [← hw1]
  clear hw1
  have HIS := hid (Ov.I_stable (R := R) (B' := w1.heap.size) HOK.out (fun k h => by rw [HVV.out]; exact .inr (.inl h)) (by rw [HVV.out]; show W.heap.size ≤ _; omega))
  refine wpIn_range (gf := gf) (lb := lb) rfl eg HIT.out (fun _ => rfl) (fun i O W => V.I i O W ∧ i ≤ m) V.Ix _
    ⟨fun i O W h => HIS.out.1 i O W h.1, fun i O W W' h hm => ⟨HIS.out.2 i O W W' h.1 hm, h.2⟩⟩ (fun c => Ov.Ix_stable HOK.out (fun k h => by rw [HVV.out]; exact .inr (.inl h)) (by rw [HVV.out]; show W.heap.size ≤ _; omega) c)
    ⟨HST.out, Nat.zero_le _⟩ (fun k hk => by have := HRL.out k (.inr (.inl hk)); omega) (Ov.away HOK.out (fun k h => by rw [HVV.out]; exact .inr (.inl h)) (fun k h => by rw [HVV.out]; exact fun h => h)) HT1.out
    (fun i => { tmps := #[.func (.yield lp) #[] #[], .pointer (some ⟨Bs, 0, none⟩), .pointer (some ⟨Bt, 0, none⟩), .pointer (some ⟨Bf, 0, none⟩), .pointer (some ⟨W.heap.size, 0, none⟩), .string (Str (itm xs i).1), .string (Str (itm xs i).2), .func (.func gf) #[] lb, .string (Str (itm xs i).1), .string (Str (itm xs i).2), undef, undef, undef, undef, undef, undef, undef, undef, undef, undef, undef, undef, undef, undef, undef], defers := [] }) ?assign ?body ?done ?stop
  case assign =>
    intro l i W K hK
    simp only [encI]
    gi_wp2
    exact hK
  case body =>
    rintro l i O1 W1 hi ⟨⟨Ob, hj, hk, hb⟩, him⟩ hsz hOs hmw
    have hcs1 : WithinCs Bs Bt Bf gf lb fr tk W1 := HCSA.out _ _ _ (HCSA.out _ _ _ HCS.out (HM1.out (fun _ => False)) (fun _ _ h => h)) hmw (fun k hk h => by
      have h9 := HRL.out k (.inl hk)
      rcases h with (h | h | h) | h
      · exact HOK.out.dO k h (by rw [HVV.out]; exact .inl hk)
      · have := HOK.out.by0; rw [HVV.out] at h; exact absurd h (by show ¬ k = W.heap.size; omega)
      · rw [HVV.out] at h; exact h
      · rcases hk with rfl | rfl | rfl
        · exact HBS.out.1 h
        · exact HBS.out.2.1 h
        · exact HBS.out.2.2 h)
    have ct := Boxed.cell hcs1.2.1
    have cf := Boxed.cell hcs1.2.2
    have HB := hid hb
    have HJ := hid hj
    clear hcs1 hk hb hj hmw hOs
    have hq := Ov.quiet (W3 := W1) HOK.out HB.out HJ.out (Mv.refl _ _)
    have HQ := hid hq
    obtain ⟨ts, hts⟩ : ∃ ts, ts = xs.take m := ⟨_, rfl⟩
    rw [← hts] at HVV HC
    have htl : ts.length = m := by rw [hts, List.length_take]; omega
    have hti : i < m → itm ts i = itm xs i := fun h => by rw [hts]; unfold itm; rw [List.getD_eq_getElem?_getD, List.getD_eq_getElem?_getD, List.getElem?_take_of_lt h]
    have HTI := hid hti
    have HTL := hid htl
    clear hts hti htl
    obtain ⟨x, hx⟩ : ∃ x, x = itm xs i := ⟨_, rfl⟩
    rw [← hx]
    have HX := hid hx
    clear hx hq
    by_cases him2 : i = m
    · have r1 : ltS x.1 tk = false := by rw [HX.out, him2]; exact HAT.out (by omega)
      have r1' : Op.bytesLess x.1 tk = false := r1
      have hmx : Hid (idx p ts (i + 1) = idx p ts i) := hid (by unfold idx; rw [List.take_of_length_le (by have := HTL.out; omega), List.take_of_length_le (by have := HTL.out; omega)])
      have HST2 : Hid (idx p ts (i + 1) = (ts.filter p).length) := hid (by unfold idx; rw [List.take_of_length_le (by have := HTL.out; omega)])
      have HIM := hid him2
      clear r1 him2
      gi_wp2
      exact ⟨O1, HQ.out.1, fun k h => .inl h, rfl, Ob, .inr ⟨by have := HQ.out.2.2; rw [HVV.out] at this ⊢; show J (idx p ts (i + 1)) Ob W1; rw [hmx.out]; exact this, by rw [HVV.out]; exact HST2.out⟩, by rw [HVV.out]; trivial, HQ.out.2.1⟩
    · have hlm : i < m := by omega
      have r1 : ltS x.1 tk = true := by rw [HX.out]; exact HLT.out i hlm
      have r1' : Op.bytesLess x.1 tk = true := r1
      have hix := idx_step p ts i (by have := HTL.out; omega)
      rw [← itm_eq ts i (by have := HTL.out; omega), HTI.out hlm, ← HX.out] at hix
      have hpx : p x = !ltS x.1 fr := by rw [hp]
      have hen : p x = true → encI (ts.filter p) (idx p ts i) = encI xs i := fun h => by
        rw [encI_idx p ts i (by have := HTL.out; omega) (by rw [HTI.out hlm, ← HX.out]; exact h)]
        unfold encI
        rw [HTI.out hlm]
      cases r2 : ltS x.1 fr with
      | true =>
        have r2' : Op.bytesLess x.1 fr = true := r2
        have hmx : Hid (idx p ts (i + 1) = idx p ts i) := hid (by rw [hix, hpx, r2, if_neg (by decide)])
        clear r1 r2 hpx hix hen
        gi_wp2
        refine ⟨fun _ h => (by cases h), ?_⟩
        gi_wp2
        exact ⟨O1, HQ.out.1, fun k h => .inl h, ⟨Ob, by have := HQ.out.2.2; rw [HVV.out] at this ⊢; show J (idx p ts (i + 1)) Ob W1; rw [hmx.out]; exact this, by rw [HVV.out]; trivial, HQ.out.2.1⟩, hlm⟩
      | false =>
        have r2' : Op.bytesLess x.1 fr = false := r2
        have hpt : p x = true := by rw [hpx, r2]; rfl
        rw [hpt, if_pos rfl] at hix
        have hlt : idx p ts i < (ts.filter p).length := by
          have := idx_at p ts i (by have := HTL.out; omega) (by rw [← itm_eq ts i (by have := HTL.out; omega), HTI.out hlm, ← HX.out]; exact hpt)
          exact (List.getElem?_eq_some_iff.1 this).1
        have hy2 := HQ.out.2.1.2.2.2
        rw [HVV.out] at hy2
        have cy2 : W1.cell? ⟨W.heap.size, 0, none⟩ = some (.func (.yield lp) #[] #[]) := Boxed.cell hy2
        obtain ⟨fn, tmps, assign, body, hyy, hR⟩ := yield_any rfl 0 (HC.out.round (idx p ts i) Ob W1 hlt (by have := HQ.out.2.2; rw [HVV.out] at this; exact this) (by omega))
        rw [hen hpt] at hyy
        simp only [encI] at hyy
        rw [← HX.out] at hyy
        have HIX := hid hix
        have hlt' := hid hlt
        clear r1 r2 hix hpx hpt hy2 hlt hen
        gi_wp2
        refine ⟨rfl, (show RoundIn (Fence.wide.inRound l) 0 _ _ _ _ _ _ _ _ from round_any rfl hR).mono ?_⟩
        rintro e W4 ⟨O4, hm4, hs4, hcase⟩
        have HY := hid (Ov.yielded HOK.out HB.out (Mv.refl _ _) hm4 hs4)
        have HCA := hid hcase
        clear hm4 hs4 hcase
        rcases HCA.out with ⟨rfl, hJ4⟩ | ⟨rfl, hJ4⟩
        · have HJ4 := hid hJ4
          clear hJ4
          gi_wp2
          exact ⟨_, HY.out.1, HY.out.2.1, ⟨O4, by rw [HVV.out]; show J (idx p ts (i + 1)) O4 W4; rw [HIX.out]; exact HJ4.out, by rw [HVV.out]; trivial, HY.out.2.2⟩, hlm⟩
        · have HJ4 := hid hJ4
          clear hJ4
          gi_wp2
          exact ⟨_, HY.out.1, HY.out.2.1, rfl, O4, .inl ⟨by rw [HVV.out]; show Jx (idx p ts (i + 1)) O4 W4; rw [HIX.out]; exact HJ4.out, by rw [HVV.out]; show 0 < idx p ts (i + 1); rw [HIX.out]; omega, by rw [HVV.out]; show idx p ts (i + 1) ≤ (ts.filter p).length; rw [HIX.out]; exact hlt'.out⟩, by rw [HVV.out]; trivial, HY.out.2.2⟩
  case done =>
    rintro D O1 W1 hD hnD hOs hmw hI hT1 hK
    have HF := hid (Ov.done HOK.out HIT.out HCSA.out (fun k h => by rw [HVV.out]; exact .inr (.inl h)) (fun k h => by rw [HVV.out]; exact .inl h) (fun k h => by rcases h with rfl | rfl | rfl; exact HBS.out.1; exact HBS.out.2.1; exact HBS.out.2.2) (fun k h => by rw [HVV.out]; exact fun h => h)
      (W := W) (by rw [HVV.out]; rfl) (HM1.out _) (by rw [HVV.out]; show W.heap.size + 1 ≤ _; omega) hD hmw HCS.out hI.1 (by rw [HVV.out]; show idx p (xs.take m) xs.length = _; unfold idx; rw [List.take_of_length_le (by rw [List.length_take]; omega)]; rfl) hnD hT1)
    clear hmw hI hT1 hOs hnD
    rw [HVV.out] at HF
    gi_wp2
    refine ⟨by simp, .inl ⟨_, _, rfl, run_takeDeferred hK, ?_⟩⟩
    exact ⟨_, results_none rfl _ _ _, ⟨_, rfl⟩, HF.out⟩
  case stop =>
    rintro D c i O1 W1 hD hnD hOs hmw hi hI hT1 hK
    obtain rfl := hI.1
    have HF := hid (Ov.stop HOK.out HIT.out HCSA.out (fun k h => by rw [HVV.out]; exact .inr (.inl h)) (fun k h => by rw [HVV.out]; exact .inl h) (fun k h => by rcases h with rfl | rfl | rfl; exact HBS.out.1; exact HBS.out.2.1; exact HBS.out.2.2) (fun k h => by rw [HVV.out]; exact fun h => h)
      (W := W) (by rw [HVV.out]; rfl) (HM1.out _) (by rw [HVV.out]; show W.heap.size + 1 ≤ _; omega) hD hmw HCS.out hI hi hnD hT1)
    clear hmw hI hT1 hOs hnD
    rw [HVV.out] at HF
    gi_wp2
    refine ⟨by simp, .inl ⟨_, _, rfl, run_takeDeferred hK, ?_⟩⟩
    exact ⟨_, results_none rfl _ _ _, ⟨_, rfl⟩, HF.out⟩
end Go.Proofs.Ytbggeccaoibleaa.RunsS
namespace Go.Proofs.Ytbggeccaoibleaa.W08
open Go Go.RowKit Go.Shelf Go.Proofs.Ytbggeccaoibleaa.Lib Go.Proofs.Ytbggeccaoibleaa.Sha Go.Proofs.Ytbggeccaoibleaa.T08 Go.Proofs.Ytbggeccaoibleaa.Itms Go.Proofs.Ytbggeccaoibleaa.WSeq Go.Proofs.Ytbggeccaoibleaa.Ord Go.Proofs.Ytbggeccaoibleaa.Tree Go.Proofs.Ytbggeccaoibleaa.RunsS
open Go.Proofs.Ytbggeccaoibleaa.Run hiding round_any yield_any
attribute [local go_sem] Str_size Str_toList Str_extract
/-- those of a range -/
def rangeP (f : Src) (root a b : List UInt8) : List Itm := ((runP f root a).take (placeS (runP f root a) b)).filter fun x => !ltS x.1 a
theorem within_q (gf : Nat) (lb : Array Value) (eg : ∀ args w, (callFunc gf args).run Try.prog w = .ok (.enter gf args) w) (xs : List Itm) (a b : List UInt8) (w : World) (hq : RunQ gf lb xs w) :
    Calls Try.prog 45 #[.func (.func gf) #[] lb, .string (Str a), .string (Str b)] w fun e w' => (∃ lb', e = .returned (.func (.func 80) #[] lb') ∧ RunQ 80 lb' ((xs.take (placeS xs b)).filter fun x => !ltS x.1 a) w') ∧ Below w.heap.size w w' := by
  refine (within_any gf lb a b w).mono ?_
  rintro e w' ⟨rfl, hw⟩
  have hB : Below w.heap.size w w' := by rw [hw]; exact below_al (below_al (below_al (below_rf w) _) _) _
  have c0 : Boxed w' w.heap.size 38 (.func (.func gf) #[] lb) := by rw [hw]; exact ((below_al (below_al (below_rf _) _) _).block _ (by simp)).trans (heap_new _ _)
  have c1 : Boxed w' (w.heap.size + 1) 9 (.string (Str a)) := by rw [hw]; exact ((below_al (below_rf _) _).block _ (by simp)).trans (heap_new' _ _ (by simp))
  have c2 : Boxed w' (w.heap.size + 2) 9 (.string (Str b)) := by rw [hw]; exact heap_new' _ _ (by simp)
  obtain ⟨R, T, h1, h2, h3, h4, h5⟩ := hq
  refine ⟨⟨_, rfl, ⟨_, _, withing_iter gf lb eg xs R T h1 a b w.heap.size (w.heap.size + 2) (w.heap.size + 1) ⟨fun h => by have := h2 _ h; omega, fun h => by have := h2 _ h; omega, fun h => by have := h2 _ h; omega⟩ _ rfl (placeS xs b) (place_le xs b) (fun i hi => place_below b xs i hi) (fun h => place_key b xs h) h5, ?_, ?_, ?_, ?_⟩⟩, hB⟩
  · intro k hk
    rcases hk with (rfl | rfl | rfl) | hk | hk
    · exact Boxed.lt c0
    · exact Boxed.lt c2
    · exact Boxed.lt c1
    · exact Nat.lt_of_lt_of_le (h2 k hk) hB.size
    · exact hk.elim
  · exact ⟨0, Nat.zero_le _, rfl, h1.keeps _ _ _ h3 (Mv.of_below hB), trivial, c0, c2, c1⟩
  · rintro i j W1 W2 ⟨_, _, _, t1, _, a1, a2, a3⟩ ⟨_, _, _, t2, _, b1, b2, b3⟩ k hk
    rcases hk with (rfl | rfl | rfl) | hk | hk
    · exact b1.trans a1.symm
    · exact b2.trans a2.symm
    · exact b3.trans a3.symm
    · exact h4 _ _ _ _ t1 t2 k hk
    · exact hk.elim
  · rintro i W ⟨j, _, _, t, _, hc⟩
    exact ⟨0, Nat.zero_le _, rfl, h5 _ _ t, trivial, hc⟩
theorem e_from : ∀ args w, (callFunc 81 args).run Try.prog w = .ok (.enter 81 args) w := enters_of Try.func81 (by kernel_rfl) rfl
theorem e_within : ∀ args w, (callFunc 80 args).run Try.prog w = .ok (.enter 80 args) w := enters_of Try.func80 (by kernel_rfl) rfl
/-- prolly.Range's value is a run over the pairs of a range. -/
theorem range_q (hb mb n : Nat) (f : Src) (hf : ∀ k s, f k = some s → s.length ≤ 1000000000) (root a b : List UInt8) (hroot : root.length ≤ 1000000000) (w : World) (hH : HeapT w hb mb n f) :
    Calls Try.prog 20 #[.iface 32 (.pointer (some ⟨hb, 0, none⟩)), .string (Str root), .string (Str a), .string (Str b)] w fun e w' => (∃ lb, e = .returned (.func (.func 80) #[] lb) ∧ RunQ 80 lb (rangeP f root a b) w') ∧ Below w.heap.size w w' := by
  go_enter Try.func20, Try.ntmps20
  go_wp2_with fail
  refine (from_q hb mb n f hf root a hroot w hH).mono ?_; rintro e w1 ⟨⟨lb, rfl, hq⟩, hb1⟩
  have HQ := hid hq
  clear hq
  go_wp2_with fail
  refine (within_q _ lb e_from _ a b w1 HQ.out).mono ?_; rintro e w2 ⟨⟨lb2, rfl, hq2⟩, hb2⟩
  go_wp2
  go_ret
  exact ⟨⟨lb2, rfl, hq2⟩, below_tr hb1 hb2⟩
end Go.Proofs.Ytbggeccaoibleaa.W08
