/- seq.Within over a run that rises is a run. -/
import Derived.Test.YtiemcfkekaklgaaRunI
import Derived.Test.YtiemcfkekaklgaaOnly
import Derived.Test.YtiemcfkekaklgaaLt
set_option linter.unusedVariables false
set_option linter.unusedSimpArgs false
namespace Go.Proofs.Ytiemcfkekaklgaa.Runs
open Go.RowKit Go.Shelf Go.Proofs.Ytiemcfkekaklgaa.Lib Go.Proofs.Ytiemcfkekaklgaa.Prs Go.Proofs.Ytiemcfkekaklgaa.Run Go.Proofs.Ytiemcfkekaklgaa.Lt
attribute [local go_sem] Oper.semAt_some Str_toList
set_option maxRecDepth 100000 in
theorem within_any (gf : Nat) (lb : Array Value) (fr to : List UInt8) (w : World) :
    Calls Try.prog 17 #[.func (.func gf) #[] lb, .string (Str fr), .string (Str to)] w fun e w' => e = .returned (.func (.func 39) #[] #[.pointer (some ⟨w.heap.size, 0, none⟩), .pointer (some ⟨w.heap.size + 2, 0, none⟩), .pointer (some ⟨w.heap.size + 1, 0, none⟩)]) ∧ w' = ((w.alloc (.cells #[.func (.func gf) #[] lb] 31)).alloc (.cells #[.string (Str fr)] 9)).alloc (.cells #[.string (Str to)] 9) := by
  go_enter Try.func17, Try.ntmps17
  go_wp2
  go_ret
  exact ⟨rfl, rfl⟩
def inW (fr to : List UInt8) (x : Itm) : Bool := !ltS x.1 fr && ltS x.1 to
def WithinCs (Bs Bt Bf : Nat) (gf : Nat) (lb : Array Value) (fr to : List UInt8) (W : World) : Prop := Boxed W Bs 31 (.func (.func gf) #[] lb) ∧ Boxed W Bt 9 (.string (Str to)) ∧ Boxed W Bf 9 (.string (Str fr))
def NoR (_ : Nat) : Prop := False
def NoK (_ : Nat) (_ : World) : Prop := True
set_option maxRecDepth 100000 in
set_option maxHeartbeats 2000000 in
theorem within_iter (gf : Nat) (lb : Array Value) (eg : ∀ args w, (callFunc gf args).run Try.prog w = .ok (.enter gf args) w) (xs : List Itm) (R : Nat → Prop) (T : Nat → World → Prop)
    (hit : Iter Try.prog gf lb (encI xs) xs.length R T) (fr to : List UInt8) (Bs Bt Bf : Nat) (hB : ¬ R Bs ∧ ¬ R Bt ∧ ¬ R Bf) (p : Itm → Bool) (hp : p = inW fr to)
    (hstop : ∀ i, i < xs.length → ltS (itm xs i).1 to = false → idx p xs (i + 1) = (xs.filter p).length) (h00 : ∀ i W, i ≤ xs.length → idx p xs i = 0 → T i W → T 0 W) :
    Iter Try.prog 39 #[.pointer (some ⟨Bs, 0, none⟩), .pointer (some ⟨Bt, 0, none⟩), .pointer (some ⟨Bf, 0, none⟩)] (encI (xs.filter p)) (xs.filter p).length (fun k => (k = Bs ∨ k = Bt ∨ k = Bf) ∨ R k ∨ NoR k) (onlyT p xs NoK T (WithinCs Bs Bt Bf gf lb fr to)) := by
  have hcs : ∀ (X : Nat → Prop) (A B : World), WithinCs Bs Bt Bf gf lb fr to A → Mv X A B → (∀ k, (k = Bs ∨ k = Bt ∨ k = Bf) → ¬ X k) → WithinCs Bs Bt Bf gf lb fr to B := fun X A B h hm hx => ⟨boxed_mv h.1 hm (hx _ (.inl rfl)), boxed_mv h.2.1 hm (hx _ (.inr (.inl rfl))), boxed_mv h.2.2 hm (hx _ (.inr (.inr rfl)))⟩
  refine ⟨?_, ?_⟩
  · rintro m W W' ⟨i, h1, h2, h3, h4, h5⟩ hm
    exact ⟨i, h1, h2, hit.keeps _ _ _ h3 (hm.mono fun k _ h hr => h (.inr (.inl hr))), trivial, hcs _ _ _ h5 hm (fun k hk h => h (.inl hk))⟩
  intro lp J Jx O W hRl hOR hT' hC h0
  obtain ⟨i0, hi0, he0, hT0, hK0, hcs0⟩ := hT'
  have hT0 := h00 i0 W hi0 he0 hT0
  obtain ⟨V, hV⟩ : ∃ V, V = onlyV p xs NoR NoK (fun k => (k = Bs ∨ k = Bt ∨ k = Bf) ∨ R k ∨ NoR k) lp J Jx O W.heap.size := ⟨_, rfl⟩
  have hok : V.Ok := by rw [hV]; exact ⟨hC.stable, hC.stablex, fun k h => .inr (.inr h), hRl, hOR, rfl, fun _ _ _ _ _ => trivial⟩
  refine (callsIn_wide (n := 5)).1 ?_
  refine callsIn_of_wp_marks Try.func39 rfl trivial ?_ rfl
  simp only [Try.ntmps39, List.size_toArray, List.length_cons, List.length_nil, Nat.reduceAdd, Nat.reduceSub, Array.replicate_succ, Array.replicate_zero, List.push_toArray, List.append_toArray, List.nil_append, List.cons_append]
  obtain ⟨w1, hw1⟩ : ∃ w1, w1 = W.alloc (Obj.cells #[.func (.yield lp) #[] #[]] 38) := ⟨_, rfl⟩
  have hm1 : ∀ X, Mv X W w1 := fun X => by rw [hw1]; exact Mv.alloc _ _
  have hcs1 := hcs _ _ _ hcs0 (hm1 (fun _ => False)) (fun _ _ h => h)
  have z1 : w1.heap.size = W.heap.size + 1 := by rw [hw1]; simp
  have by1 : Boxed w1 W.heap.size 38 (.func (.yield lp) #[] #[]) := by rw [hw1]; exact Boxed.new W _ _
  have HST := hid (Ov.start (V := V) hok (by rw [hV]; exact h0) (by rw [hV]; rfl) (by rw [hV]; trivial) (by rw [hV]; rfl) (hm1 _) (by rw [hV]; exact by1))
  have HM1 := hid hm1
  have HOK := hid hok
  have HC := hid hC
  have HIT := hid hit
  have HRL := hid hRl
  have HT1 := hid (hit.keeps _ _ _ hT0 (hm1 _))
  have HCS := hid hcs0
  have HCSA := hid hcs
  have HVV := hid hV
  have hsc1 := Boxed.cell hcs1.1
  have HBS := hid hB
  have HSTOP := hid hstop
  rw [hw1] at hsc1
  clear hm1 by1 hok hC hit hOR hRl hT0 hcs0 hcs h0 he0 h00 hcs1 hV hB hstop
  gi_wp2
  rw [← hw1]
  clear hw1
  refine wpIn_range (gf := gf) (lb := lb) rfl eg HIT.out (fun _ => rfl) V.I V.Ix _
    (Ov.I_stable HOK.out (fun k h => by rw [HVV.out]; exact .inr (.inl h)) (by rw [HVV.out]; show W.heap.size ≤ _; omega)) (fun c => Ov.Ix_stable HOK.out (fun k h => by rw [HVV.out]; exact .inr (.inl h)) (by rw [HVV.out]; show W.heap.size ≤ _; omega) c)
    HST.out (fun k hk => by have := HRL.out k (.inr (.inl hk)); omega) (Ov.away HOK.out (fun k h => by rw [HVV.out]; exact .inr (.inl h)) (fun k h => by rw [HVV.out]; exact fun h => h)) HT1.out
    (fun i => { tmps := #[.func (.yield lp) #[] #[], .pointer (some ⟨Bs, 0, none⟩), .pointer (some ⟨Bt, 0, none⟩), .pointer (some ⟨Bf, 0, none⟩), .pointer (some ⟨W.heap.size, 0, none⟩), .string (Str (itm xs i).1), (.int .i64 ((itm xs i)).2), .func (.func gf) #[] lb, .string (Str (itm xs i).1), (.int .i64 ((itm xs i)).2), undef, undef, undef, undef, undef, undef, undef, undef, undef, undef, undef, undef, undef, undef, undef], defers := [] }) ?assign ?body ?done ?stop
  case assign =>
    intro l i W K hK
    simp only [encI]
    gi_wp2
    exact hK
  case body =>
    rintro l i O1 W1 hi ⟨Ob, hj, hk, hb⟩ hsz hOs hmw
    have hcs1 : WithinCs Bs Bt Bf gf lb fr to W1 := HCSA.out _ _ _ (HCSA.out _ _ _ HCS.out (HM1.out (fun _ => False)) (fun _ _ h => h)) hmw (fun k hk h => by
      have h9 := HRL.out k (.inl hk)
      rcases h with (h | h | h) | h
      · exact HOK.out.dO k h (by rw [HVV.out]; exact .inl hk)
      · have := HOK.out.by0; rw [HVV.out] at h; exact absurd h (by show ¬ k = W.heap.size; omega)
      · rw [HVV.out] at h; exact h
      · rcases hk with rfl | rfl | rfl
        · exact HBS.out.1 h
        · exact HBS.out.2.1 h
        · exact HBS.out.2.2 h)
    have ct := Boxed.cell hcs1.2.1
    have cf := Boxed.cell hcs1.2.2
    have HB := hid hb
    have HJ := hid hj
    clear hcs1 hk hb hj hmw hOs
    have hix := idx_step p xs i hi
    rw [← itm_eq xs i hi] at hix
    have hpx : p (itm xs i) = (!ltS (itm xs i).1 fr && ltS (itm xs i).1 to) := by rw [hp]; rfl
    have hq := Ov.quiet (W3 := W1) HOK.out HB.out HJ.out (Mv.refl _ _)
    have HQ := hid hq
    have hst := HSTOP.out i hi
    have hen := encI_idx p xs i hi
    obtain ⟨x, hx⟩ : ∃ x, x = itm xs i := ⟨_, rfl⟩
    rw [← hx] at hpx hix hst hen ⊢
    have HX := hid hx
    clear hx hq
    cases r1 : ltS x.1 to with
    | false =>
      have r1' : Op.bytesLess x.1 to = false := r1
      have HST2 := hid (hst r1)
      have hmx : Hid (idx p xs (i + 1) = idx p xs i) := hid (by rw [hix, hpx, r1, Bool.and_false, if_neg (by decide)])
      clear r1 hpx hix hst hen
      gi_wp2
      exact ⟨O1, HQ.out.1, fun k h => .inl h, rfl, Ob, .inr ⟨by have := HQ.out.2.2; rw [HVV.out] at this ⊢; show J (idx p xs (i + 1)) Ob W1; rw [hmx.out]; exact this, by rw [HVV.out]; exact HST2.out⟩, by rw [HVV.out]; trivial, HQ.out.2.1⟩
    | true =>
      have r1' : Op.bytesLess x.1 to = true := r1
      rw [r1, Bool.and_true] at hpx
      clear hst
      cases r2 : ltS x.1 fr with
      | true =>
        have r2' : Op.bytesLess x.1 fr = true := r2
        have hmx : Hid (idx p xs (i + 1) = idx p xs i) := hid (by rw [hix, hpx, r2, if_neg (by decide)])
        clear r1 r2 hpx hix hen
        gi_wp2
        refine ⟨fun _ h => (by cases h), ?_⟩
        gi_wp2
        exact ⟨O1, HQ.out.1, fun k h => .inl h, Ob, by have := HQ.out.2.2; rw [HVV.out] at this ⊢; show J (idx p xs (i + 1)) Ob W1; rw [hmx.out]; exact this, by rw [HVV.out]; trivial, HQ.out.2.1⟩
      | false =>
        have r2' : Op.bytesLess x.1 fr = false := r2
        have hpt : p x = true := by rw [hpx, r2]; rfl
        rw [hpt, if_pos rfl] at hix
        have hlt : idx p xs i < (xs.filter p).length := by
          have := idx_at p xs i hi (by rw [← itm_eq xs i hi, ← HX.out]; exact hpt)
          exact (List.getElem?_eq_some_iff.1 this).1
        have hy2 := HQ.out.2.1.2.2.2
        rw [HVV.out] at hy2
        have cy2 : W1.cell? ⟨W.heap.size, 0, none⟩ = some (.func (.yield lp) #[] #[]) := Boxed.cell hy2
        obtain ⟨fn, tmps, assign, body, hyy, hR⟩ := yield_any rfl 0 (HC.out.round (idx p xs i) Ob W1 hlt (by have := HQ.out.2.2; rw [HVV.out] at this; exact this) (by omega))
        rw [hen hpt] at hyy
        simp only [encI] at hyy
        rw [← HX.out] at hyy
        have HIX := hid hix
        have hlt' := hid hlt
        clear r1 r2 hix hpx hpt hy2 hlt hen
        gi_wp2
        refine ⟨rfl, (show RoundIn (Fence.wide.inRound l) 0 _ _ _ _ _ _ _ _ from round_any rfl hR).mono ?_⟩
        rintro e W4 ⟨O4, hm4, hs4, hcase⟩
        have HY := hid (Ov.yielded HOK.out HB.out (Mv.refl _ _) hm4 hs4)
        have HCA := hid hcase
        clear hm4 hs4 hcase
        rcases HCA.out with ⟨rfl, hJ4⟩ | ⟨rfl, hJ4⟩
        · have HJ4 := hid hJ4
          clear hJ4
          gi_wp2
          exact ⟨_, HY.out.1, HY.out.2.1, O4, by rw [HVV.out]; show J (idx p xs (i + 1)) O4 W4; rw [HIX.out]; exact HJ4.out, by rw [HVV.out]; trivial, HY.out.2.2⟩
        · have HJ4 := hid hJ4
          clear hJ4
          gi_wp2
          exact ⟨_, HY.out.1, HY.out.2.1, rfl, O4, .inl ⟨by rw [HVV.out]; show Jx (idx p xs (i + 1)) O4 W4; rw [HIX.out]; exact HJ4.out, by rw [HVV.out]; show 0 < idx p xs (i + 1); rw [HIX.out]; omega, by rw [HVV.out]; show idx p xs (i + 1) ≤ (xs.filter p).length; rw [HIX.out]; exact hlt'.out⟩, by rw [HVV.out]; trivial, HY.out.2.2⟩
  case done =>
    rintro D O1 W1 hD hnD hOs hmw hI hT1 hK
    have HF := hid (Ov.done HOK.out HIT.out HCSA.out (fun k h => by rw [HVV.out]; exact .inr (.inl h)) (fun k h => by rw [HVV.out]; exact .inl h) (fun k h => by rcases h with rfl | rfl | rfl; exact HBS.out.1; exact HBS.out.2.1; exact HBS.out.2.2) (fun k h => by rw [HVV.out]; exact fun h => h)
      (W := W) (by rw [HVV.out]; rfl) (HM1.out _) (by rw [HVV.out]; show W.heap.size + 1 ≤ _; omega) hD hmw HCS.out hI (by rw [HVV.out]; exact idx_all p xs) hnD hT1)
    clear hmw hI hT1 hOs hnD
    rw [HVV.out] at HF
    gi_wp2
    refine ⟨by simp, .inl ⟨_, _, rfl, run_takeDeferred hK, ?_⟩⟩
    exact ⟨_, results_none rfl _ _ _, ⟨_, rfl⟩, HF.out⟩
  case stop =>
    rintro D c i O1 W1 hD hnD hOs hmw hi hI hT1 hK
    obtain rfl := hI.1
    have HF := hid (Ov.stop HOK.out HIT.out HCSA.out (fun k h => by rw [HVV.out]; exact .inr (.inl h)) (fun k h => by rw [HVV.out]; exact .inl h) (fun k h => by rcases h with rfl | rfl | rfl; exact HBS.out.1; exact HBS.out.2.1; exact HBS.out.2.2) (fun k h => by rw [HVV.out]; exact fun h => h)
      (W := W) (by rw [HVV.out]; rfl) (HM1.out _) (by rw [HVV.out]; show W.heap.size + 1 ≤ _; omega) hD hmw HCS.out hI hi hnD hT1)
    clear hmw hI hT1 hOs hnD
    rw [HVV.out] at HF
    gi_wp2
    refine ⟨by simp, .inl ⟨_, _, rfl, run_takeDeferred hK, ?_⟩⟩
    exact ⟨_, results_none rfl _ _ _, ⟨_, rfl⟩, HF.out⟩
end Go.Proofs.Ytiemcfkekaklgaa.Runs
