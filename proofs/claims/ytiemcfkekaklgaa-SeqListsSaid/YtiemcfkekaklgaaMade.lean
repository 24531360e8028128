/- seq.Made over a run is a run. -/
import Derived.Test.YtiemcfkekaklgaaRunI
import Derived.Test.YtiemcfkekaklgaaOnly
import Derived.Test.YtiemcfkekaklgaaWithin
import Derived.Test.YtiemcfkekaklgaaQRound
set_option linter.unusedVariables false
set_option linter.unusedSimpArgs false
namespace Go.Proofs.Ytiemcfkekaklgaa.Runs
open Go.RowKit Go.Shelf Go.Proofs.Ytiemcfkekaklgaa.Lib Go.Proofs.Ytiemcfkekaklgaa.Prs Go.Proofs.Ytiemcfkekaklgaa.Run Go.Proofs.Ytiemcfkekaklgaa.QTail
attribute [local go_sem] Oper.semAt_some Str_toList
set_option maxRecDepth 100000 in
theorem made_any (gf mf : Nat) (lb mb : Array Value) (w : World) :
    Calls Try.prog 26 #[.func (.func gf) #[] lb, .func (.func mf) #[] mb] w fun e w' => e = .returned (.func (.func 43) #[] #[.pointer (some ⟨w.heap.size, 0, none⟩), .pointer (some ⟨w.heap.size + 1, 0, none⟩)]) ∧ w' = (w.alloc (.cells #[.func (.func gf) #[] lb] 31)).alloc (.cells #[.func (.func mf) #[] mb] 54) := by
  go_enter Try.func26, Try.ntmps26
  go_wp2
  go_ret
  exact ⟨rfl, rfl⟩
def MadeCs (Bs Bm : Nat) (gf mf : Nat) (lb mb : Array Value) (W : World) : Prop := Boxed W Bs 31 (.func (.func gf) #[] lb) ∧ Boxed W Bm 54 (.func (.func mf) #[] mb)
def madeV (xs : List Itm) (R' : Nat → Prop) (lp : Nat) (J Jx : Nat → (Nat → Prop) → World → Prop) (O : Nat → Prop) (S0 : Nat) : Ov :=
  { J, Jx, R', O0 := O, S0, By := S0, yt := 38, lp, Rk := NoR, K := NoK, ix := fun i => i, N' := xs.length }
def madeT (xs : List Itm) (T : Nat → World → Prop) (Cs : World → Prop) (m : Nat) (W : World) : Prop := ∃ i, i ≤ xs.length ∧ i = m ∧ T i W ∧ NoK i W ∧ Cs W
def madeL (f : Itm → Int) (xs : List Itm) : List Itm := xs.map fun x => (x.1, f x)
theorem madeL_at (f : Itm → Int) (xs : List Itm) (i : Nat) (h : i < xs.length) : itm (madeL f xs) i = ((itm xs i).1, f (itm xs i)) := by
  unfold madeL
  rw [itm_eq _ i (by rw [List.length_map]; exact h), itm_eq xs i h, List.getElem_map]
set_option maxRecDepth 100000 in
set_option maxHeartbeats 1000000 in
theorem made_iter (gf : Nat) (lb : Array Value) (eg : ∀ args w, (callFunc gf args).run Try.prog w = .ok (.enter gf args) w) (xs : List Itm) (R : Nat → Prop) (T : Nat → World → Prop)
    (hit : Iter Try.prog gf lb (encI xs) xs.length R T) (mf : Nat) (mb : Array Value) (ek : ∀ args w, (callFunc mf args).run Try.prog w = .ok (.enter mf args) w) (f : Itm → Int)
    (hmk : ∀ x W, Calls Try.prog mf (#[.string (Str x.1), (.int .i64 (x).2)] ++ mb) W fun e W' => e = .returned (.int .i64 (f x)) ∧ W' = W) (Bs Bt : Nat) (hB : ¬ R Bs ∧ ¬ R Bt) :
    Iter Try.prog 43 #[.pointer (some ⟨Bs, 0, none⟩), .pointer (some ⟨Bt, 0, none⟩)] (encI (madeL f xs)) xs.length (fun k => (k = Bs ∨ k = Bt) ∨ R k ∨ NoR k) (madeT xs T (MadeCs Bs Bt gf mf lb mb)) := by
  have hcs : ∀ (X : Nat → Prop) (A B : World), MadeCs Bs Bt gf mf lb mb A → Mv X A B → (∀ k, (k = Bs ∨ k = Bt) → ¬ X k) → MadeCs Bs Bt gf mf lb mb B := fun X A B h hm hx => ⟨boxed_mv h.1 hm (hx _ (.inl rfl)), boxed_mv h.2 hm (hx _ (.inr rfl))⟩
  refine ⟨?_, ?_⟩
  · rintro m W W' ⟨i, h1, h2, h3, h4, h5⟩ hm
    exact ⟨i, h1, h2, hit.keeps _ _ _ h3 (hm.mono fun k _ h hr => h (.inr (.inl hr))), trivial, hcs _ _ _ h5 hm (fun k hk h => h (.inl hk))⟩
  intro lp J Jx O W hRl hOR hT' hC h0
  obtain ⟨i0, hi0, he0, hT0, hK0, hcs0⟩ := hT'
  have hT0 : T 0 W := he0 ▸ hT0
  obtain ⟨V, hV⟩ : ∃ V, V = madeV xs (fun k => (k = Bs ∨ k = Bt) ∨ R k ∨ NoR k) lp J Jx O W.heap.size := ⟨_, rfl⟩
  have hok : V.Ok := by rw [hV]; exact ⟨hC.stable, hC.stablex, fun k h => .inr (.inr h), hRl, hOR, rfl, fun _ _ _ _ _ => trivial⟩
  refine (callsIn_wide (n := 5)).1 ?_
  refine callsIn_of_wp_marks Try.func43 rfl trivial ?_ rfl
  simp only [Try.ntmps43, List.size_toArray, List.length_cons, List.length_nil, Nat.reduceAdd, Nat.reduceSub, Array.replicate_succ, Array.replicate_zero, List.push_toArray, List.append_toArray, List.nil_append, List.cons_append]
  obtain ⟨w1, hw1⟩ : ∃ w1, w1 = W.alloc (Obj.cells #[.func (.yield lp) #[] #[]] 38) := ⟨_, rfl⟩
  have hm1 : ∀ X, Mv X W w1 := fun X => by rw [hw1]; exact Mv.alloc _ _
  have hcs1 := hcs _ _ _ hcs0 (hm1 (fun _ => False)) (fun _ _ h => h)
  have z1 : w1.heap.size = W.heap.size + 1 := by rw [hw1]; simp
  have by1 : Boxed w1 W.heap.size 38 (.func (.yield lp) #[] #[]) := by rw [hw1]; exact Boxed.new W _ _
  have HST := hid (Ov.start (V := V) hok (by rw [hV]; exact h0) (by rw [hV]; rfl) (by rw [hV]; trivial) (by rw [hV]; rfl) (hm1 _) (by rw [hV]; exact by1))
  have HM1 := hid hm1
  have HOK := hid hok
  have HC := hid hC
  have HIT := hid hit
  have HRL := hid hRl
  have HT1 := hid (hit.keeps _ _ _ hT0 (hm1 _))
  have HCS := hid hcs0
  have HCSA := hid hcs
  have HVV := hid hV
  have hsc1 := Boxed.cell hcs1.1
  have HBS := hid hB
  have HMK := hid hmk
  rw [hw1] at hsc1
  clear hm1 by1 hok hC hit hOR hRl hT0 hcs0 hcs h0 he0 hcs1 hV hB hmk
  gi_wp2
  rw [← hw1]
  clear hw1
  refine wpIn_range (gf := gf) (lb := lb) rfl eg HIT.out (fun _ => rfl) V.I V.Ix _
    (Ov.I_stable HOK.out (fun k h => by rw [HVV.out]; exact .inr (.inl h)) (by rw [HVV.out]; show W.heap.size ≤ _; omega)) (fun c => Ov.Ix_stable HOK.out (fun k h => by rw [HVV.out]; exact .inr (.inl h)) (by rw [HVV.out]; show W.heap.size ≤ _; omega) c)
    HST.out (fun k hk => by have := HRL.out k (.inr (.inl hk)); omega) (Ov.away HOK.out (fun k h => by rw [HVV.out]; exact .inr (.inl h)) (fun k h => by rw [HVV.out]; exact fun h => h)) HT1.out
    (fun i => { tmps := #[.func (.yield lp) #[] #[], .pointer (some ⟨Bs, 0, none⟩), .pointer (some ⟨Bt, 0, none⟩), .pointer (some ⟨W.heap.size, 0, none⟩), .string (Str (itm xs i).1), (.int .i64 ((itm xs i)).2), .func (.func gf) #[] lb, .string (Str (itm xs i).1), (.int .i64 ((itm xs i)).2), undef, undef, undef, undef, undef, undef, undef, undef], defers := [] }) ?assign ?body ?done ?stop
  case assign =>
    intro l i W K hK
    simp only [encI]
    gi_wp2
    exact hK
  case body =>
    rintro l i O1 W1 hi ⟨Ob, hj, hk, hb⟩ hsz hOs hmw
    have hcs1 : MadeCs Bs Bt gf mf lb mb W1 := HCSA.out _ _ _ (HCSA.out _ _ _ HCS.out (HM1.out (fun _ => False)) (fun _ _ h => h)) hmw (fun k hk h => by
      have h9 := HRL.out k (.inl hk)
      rcases h with (h | h | h) | h
      · exact HOK.out.dO k h (by rw [HVV.out]; exact .inl hk)
      · have := HOK.out.by0; rw [HVV.out] at h; exact absurd h (by show ¬ k = W.heap.size; omega)
      · rw [HVV.out] at h; exact h
      · rcases hk with rfl | rfl
        · exact HBS.out.1 h
        · exact HBS.out.2 h)
    have ct := Boxed.cell hcs1.2
    have HB := hid hb
    have HJ := hid hj
    clear hcs1 hk hb hj hmw hOs
    have hy1 := HB.out.2.2.2
    obtain ⟨x, hx⟩ : ∃ x, x = itm xs i := ⟨_, rfl⟩
    have hen : encI (madeL f xs) i = #[.string (Str x.1), .int .i64 (f x)] := by unfold encI; rw [madeL_at f xs i hi, hx]
    rw [← hx]
    have HX := hid hx
    have HEN := hid hen
    have hmix : Try.prog.follows .mixedOrders = true := by kernel_rfl
    rw [HVV.out] at hy1
    have cy1 : W1.cell? ⟨W.heap.size, 0, none⟩ = some (.func (.yield lp) #[] #[]) := Boxed.cell hy1
    clear hx hen hy1
    gi_wp2
    refine wpIn_region_ctail (fun w' => ∃ k, w' = W1.drewN k) 6 ⟨1, rfl⟩ hmix (by kernel_rfl) (by kernel_rfl) ?_
    simp only [List.take_succ_cons, List.take_zero, List.drop_succ_cons, List.drop_zero]
    repeat (quiet_step (exact (HMK.out x _).mono (fun _ _ h => ⟨h.1, _, h.2⟩)))
    refine wpQuiet_nil ?_
    rintro _ ⟨nq, rfl⟩
    have hq := Ov.quiet (W3 := W1.drewN nq) HOK.out HB.out HJ.out (Mv.of_below (below_drewN (below_rf W1) nq))
    have HQ := hid hq
    obtain ⟨fn, tmps, assign, body, hyy, hR⟩ := yield_any rfl 0 (HC.out.round i Ob (W1.drewN nq) hi (by have := HQ.out.2.2; rw [HVV.out] at this; exact this) (by rw [show (W1.drewN nq).heap.size = W1.heap.size by simp]; omega))
    rw [HEN.out] at hyy
    clear hq
    gi_wp2
    refine ⟨rfl, (show RoundIn (Fence.wide.inRound l) 0 _ _ _ _ _ _ _ _ from round_any rfl hR).mono ?_⟩
    rintro e W4 ⟨O4, hm4, hs4, hcase⟩
    have HY := hid (Ov.yielded HOK.out HB.out (Mv.of_below (below_drewN (below_rf W1) nq)) hm4 hs4)
    have HCA := hid hcase
    clear hm4 hs4 hcase
    rcases HCA.out with ⟨rfl, hJ4⟩ | ⟨rfl, hJ4⟩
    · have HJ4 := hid hJ4
      clear hJ4
      gi_wp2
      exact ⟨_, HY.out.1, HY.out.2.1, O4, by rw [HVV.out]; exact HJ4.out, by rw [HVV.out]; trivial, HY.out.2.2⟩
    · have HJ4 := hid hJ4
      clear hJ4
      gi_wp2
      exact ⟨_, HY.out.1, HY.out.2.1, rfl, O4, .inl ⟨by rw [HVV.out]; exact HJ4.out, by rw [HVV.out]; show 0 < i + 1; omega, by rw [HVV.out]; exact hi⟩, by rw [HVV.out]; trivial, HY.out.2.2⟩
  case done =>
    rintro D O1 W1 hD hnD hOs hmw hI hT1 hK
    have HF := hid (Ov.done HOK.out HIT.out HCSA.out (fun k h => by rw [HVV.out]; exact .inr (.inl h)) (fun k h => by rw [HVV.out]; exact .inl h) (fun k h => by rcases h with rfl | rfl; exact HBS.out.1; exact HBS.out.2) (fun k h => by rw [HVV.out]; exact fun h => h)
      (W := W) (by rw [HVV.out]; rfl) (HM1.out _) (by rw [HVV.out]; show W.heap.size + 1 ≤ _; omega) hD hmw HCS.out hI (by rw [HVV.out]; rfl) hnD hT1)
    clear hmw hI hT1 hOs hnD
    rw [HVV.out] at HF
    gi_wp2
    refine ⟨by simp, .inl ⟨_, _, rfl, run_takeDeferred hK, ?_⟩⟩
    exact ⟨_, results_none rfl _ _ _, ⟨_, rfl⟩, HF.out⟩
  case stop =>
    rintro D c i O1 W1 hD hnD hOs hmw hi hI hT1 hK
    obtain rfl := hI.1
    have HF := hid (Ov.stop HOK.out HIT.out HCSA.out (fun k h => by rw [HVV.out]; exact .inr (.inl h)) (fun k h => by rw [HVV.out]; exact .inl h) (fun k h => by rcases h with rfl | rfl; exact HBS.out.1; exact HBS.out.2) (fun k h => by rw [HVV.out]; exact fun h => h)
      (W := W) (by rw [HVV.out]; rfl) (HM1.out _) (by rw [HVV.out]; show W.heap.size + 1 ≤ _; omega) hD hmw HCS.out hI hi hnD hT1)
    clear hmw hI hT1 hOs hnD
    rw [HVV.out] at HF
    gi_wp2
    refine ⟨by simp, .inl ⟨_, _, rfl, run_takeDeferred hK, ?_⟩⟩
    exact ⟨_, results_none rfl _ _ _, ⟨_, rfl⟩, HF.out⟩
end Go.Proofs.Ytiemcfkekaklgaa.Runs
