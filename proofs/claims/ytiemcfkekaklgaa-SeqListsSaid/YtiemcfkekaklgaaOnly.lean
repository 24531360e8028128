/- seq.Only over a run is a run. -/
import Derived.Test.YtiemcfkekaklgaaRunI
import Derived.Test.YtiemcfkekaklgaaOver
set_option linter.unusedVariables false
set_option linter.unusedSimpArgs false
namespace Go.Proofs.Ytiemcfkekaklgaa.Runs
open Go.RowKit Go.Shelf Go.Proofs.Ytiemcfkekaklgaa.Lib Go.Proofs.Ytiemcfkekaklgaa.Prs Go.Proofs.Ytiemcfkekaklgaa.Run
attribute [local go_sem] Oper.semAt_some Str_toList
theorem encI_idx (p : Itm → Bool) (xs : List Itm) (i : Nat) (h : i < xs.length) (hp : p (itm xs i) = true) : encI (xs.filter p) (idx p xs i) = encI xs i := by
  rw [itm_eq xs i h] at hp
  have h1 := idx_at p xs i h hp
  unfold encI itm
  simp only [List.getD_eq_getElem?_getD, h1, List.getElem?_eq_getElem h]
set_option maxRecDepth 100000 in
theorem only_any (gf kf : Nat) (lb kb : Array Value) (w : World) :
    Calls Try.prog 19 #[.func (.func gf) #[] lb, .func (.func kf) #[] kb] w fun e w' => e = .returned (.func (.func 40) #[] #[.pointer (some ⟨w.heap.size, 0, none⟩), .pointer (some ⟨w.heap.size + 1, 0, none⟩)]) ∧ w' = (w.alloc (.cells #[.func (.func gf) #[] lb] 31)).alloc (.cells #[.func (.func kf) #[] kb] 38) := by
  go_enter Try.func19, Try.ntmps19
  go_wp2
  go_ret
  exact ⟨rfl, rfl⟩
def OnlyCs (Bs Bk : Nat) (gf kf : Nat) (lb kb : Array Value) (W : World) : Prop := Boxed W Bs 31 (.func (.func gf) #[] lb) ∧ Boxed W Bk 38 (.func (.func kf) #[] kb)
def onlyV (p : Itm → Bool) (xs : List Itm) (Rk : Nat → Prop) (K : Nat → World → Prop) (R' : Nat → Prop) (lp : Nat) (J Jx : Nat → (Nat → Prop) → World → Prop) (O : Nat → Prop) (S0 : Nat) : Ov :=
  { J, Jx, R', O0 := O, S0, By := S0, yt := 38, lp, Rk, K, ix := idx p xs, N' := (xs.filter p).length }
def onlyT (p : Itm → Bool) (xs : List Itm) (K T : Nat → World → Prop) (Cs : World → Prop) (m : Nat) (W : World) : Prop := ∃ i, i ≤ xs.length ∧ idx p xs i = m ∧ T i W ∧ K i W ∧ Cs W
set_option maxRecDepth 100000 in
set_option maxHeartbeats 2000000 in
theorem only_iter (gf : Nat) (lb : Array Value) (eg : ∀ args w, (callFunc gf args).run Try.prog w = .ok (.enter gf args) w) (xs : List Itm) (R : Nat → Prop) (T : Nat → World → Prop)
    (hit : Iter Try.prog gf lb (encI xs) xs.length R T) (kf : Nat) (kb : Array Value) (ek : ∀ args w, (callFunc kf args).run Try.prog w = .ok (.enter kf args) w) (p : Itm → Bool) (Rk : Nat → Prop) (K : Nat → World → Prop)
    (hkk : ∀ i W W', K i W → Mv (fun k => ¬ Rk k) W W' → K i W')
    (hkp : ∀ i W, i < xs.length → K i W → Calls Try.prog kf (#[.string (Str (itm xs i).1), (.int .i64 ((itm xs i)).2)] ++ kb) W fun e W' => e = .returned (.bool (p (itm xs i))) ∧ K (i + 1) W' ∧ Mv Rk W W')
    (Bs Bk : Nat) (hBs : ¬ R Bs ∧ ¬ Rk Bs) (hBk : ¬ R Bk ∧ ¬ Rk Bk) (hRk : ∀ k, R k → ¬ Rk k) (h00 : ∀ i W, i ≤ xs.length → idx p xs i = 0 → T i W → K i W → T 0 W ∧ K 0 W) :
    Iter Try.prog 40 #[.pointer (some ⟨Bs, 0, none⟩), .pointer (some ⟨Bk, 0, none⟩)] (encI (xs.filter p)) (xs.filter p).length (fun k => (k = Bs ∨ k = Bk) ∨ R k ∨ Rk k) (onlyT p xs K T (OnlyCs Bs Bk gf kf lb kb)) := by
  have hcs : ∀ (X : Nat → Prop) (A B : World), OnlyCs Bs Bk gf kf lb kb A → Mv X A B → (∀ k, (k = Bs ∨ k = Bk) → ¬ X k) → OnlyCs Bs Bk gf kf lb kb B := fun X A B h hm hx => ⟨boxed_mv h.1 hm (hx _ (.inl rfl)), boxed_mv h.2 hm (hx _ (.inr rfl))⟩
  refine ⟨?_, ?_⟩
  · rintro m W W' ⟨i, h1, h2, h3, h4, h5⟩ hm
    exact ⟨i, h1, h2, hit.keeps _ _ _ h3 (hm.mono fun k _ h hr => h (.inr (.inl hr))), hkk _ _ _ h4 (hm.mono fun k _ h hr => h (.inr (.inr hr))), hcs _ _ _ h5 hm (fun k hk h => h (.inl hk))⟩
  intro lp J Jx O W hRl hOR hT' hC h0
  obtain ⟨i0, hi0, he0, hT0, hK0, hcs0⟩ := hT'
  obtain ⟨hT0, hK0⟩ := h00 i0 W hi0 he0 hT0 hK0
  obtain ⟨V, hV⟩ : ∃ V, V = onlyV p xs Rk K (fun k => (k = Bs ∨ k = Bk) ∨ R k ∨ Rk k) lp J Jx O W.heap.size := ⟨_, rfl⟩
  have hok : V.Ok := by rw [hV]; exact ⟨hC.stable, hC.stablex, fun k h => .inr (.inr h), hRl, hOR, rfl, hkk⟩
  refine (callsIn_wide (n := 5)).1 ?_
  refine callsIn_of_wp_marks Try.func40 rfl trivial ?_ rfl
  simp only [Try.ntmps40, List.size_toArray, List.length_cons, List.length_nil, Nat.reduceAdd, Nat.reduceSub, Array.replicate_succ, Array.replicate_zero, List.push_toArray, List.append_toArray, List.nil_append, List.cons_append]
  obtain ⟨w1, hw1⟩ : ∃ w1, w1 = W.alloc (Obj.cells #[.func (.yield lp) #[] #[]] 38) := ⟨_, rfl⟩
  have hm1 : ∀ X, Mv X W w1 := fun X => by rw [hw1]; exact Mv.alloc _ _
  have hcs1 := hcs _ _ _ hcs0 (hm1 (fun _ => False)) (fun _ _ h => h)
  have z1 : w1.heap.size = W.heap.size + 1 := by rw [hw1]; simp
  have by1 : Boxed w1 W.heap.size 38 (.func (.yield lp) #[] #[]) := by rw [hw1]; exact Boxed.new W _ _
  have HST := hid (Ov.start (V := V) hok (by rw [hV]; exact h0) (by rw [hV]; rfl) (by rw [hV]; exact hK0) (by rw [hV]; rfl) (hm1 _) (by rw [hV]; exact by1))
  have HM1 := hid hm1
  have HOK := hid hok
  have HC := hid hC
  have HIT := hid hit
  have HRL := hid hRl
  have HT1 := hid (hit.keeps _ _ _ hT0 (hm1 _))
  have HCS := hid hcs0
  have HCSA := hid hcs
  have HKP := hid hkp
  have HVV := hid hV
  have hsc1 := Boxed.cell hcs1.1
  have HBS := hid hBs
  have HBK := hid hBk
  have HRK := hid hRk
  rw [hw1] at hsc1
  clear hm1 by1 hok hC hit hOR hRl hT0 hK0 hcs0 hcs hkp hkk h0 he0 h00 hcs1 hV hBs hBk hRk
  gi_wp2
  rw [← hw1]
  clear hw1
  refine wpIn_range (gf := gf) (lb := lb) rfl eg HIT.out (fun _ => rfl) V.I V.Ix _
    (Ov.I_stable HOK.out (fun k h => by rw [HVV.out]; exact .inr (.inl h)) (by rw [HVV.out]; show W.heap.size ≤ _; omega)) (fun c => Ov.Ix_stable HOK.out (fun k h => by rw [HVV.out]; exact .inr (.inl h)) (by rw [HVV.out]; show W.heap.size ≤ _; omega) c)
    HST.out (fun k hk => by have := HRL.out k (.inr (.inl hk)); omega) (Ov.away HOK.out (fun k h => by rw [HVV.out]; exact .inr (.inl h)) (fun k h => by rw [HVV.out]; exact HRK.out k h)) HT1.out
    (fun i => { tmps := #[.func (.yield lp) #[] #[], .pointer (some ⟨Bs, 0, none⟩), .pointer (some ⟨Bk, 0, none⟩), .pointer (some ⟨W.heap.size, 0, none⟩), .string (Str (itm xs i).1), (.int .i64 ((itm xs i)).2), .func (.func gf) #[] lb, .string (Str (itm xs i).1), (.int .i64 ((itm xs i)).2), undef, undef, undef, undef, undef, undef, undef, undef, undef, undef, undef], defers := [] }) ?assign ?body ?done ?stop
  case assign =>
    intro l i W K hK
    simp only [encI]
    gi_wp2
    exact hK
  case body =>
    rintro l i O1 W1 hi ⟨Ob, hj, hk, hb⟩ hsz hOs hmw
    have hcs1 : OnlyCs Bs Bk gf kf lb kb W1 := HCSA.out _ _ _ (HCSA.out _ _ _ HCS.out (HM1.out (fun _ => False)) (fun _ _ h => h)) hmw (fun k hk h => by
      have h9 := HRL.out k (.inl hk)
      rcases h with (h | h | h) | h
      · exact HOK.out.dO k h (by rw [HVV.out]; exact .inl hk)
      · have := HOK.out.by0; rw [HVV.out] at h; exact absurd h (by show ¬ k = W.heap.size; omega)
      · rw [HVV.out] at h; rcases hk with rfl | rfl
        · exact HBS.out.2 h
        · exact HBK.out.2 h
      · rcases hk with rfl | rfl
        · exact HBS.out.1 h
        · exact HBK.out.1 h)
    have ck := Boxed.cell hcs1.2
    have HKC := hid (callsIn_wide (n := 0) |>.2 (HKP.out i W1 hi (by rw [HVV.out] at hk; exact hk)))
    have HB := hid hb
    have HJ := hid hj
    clear hcs1 hk hb hj hmw hOs
    gi_wp2
    refine ⟨trivial, rfl, (CallsIn.inRound l HKC.out).mono ?_⟩
    rintro e W2 ⟨rfl, hk2, hm2⟩
    have hq := Ov.quiet HOK.out HB.out HJ.out (by rw [HVV.out]; exact hm2)
    have HK2 := hid hk2
    have HM2 := hid hm2
    have HQ := hid hq
    clear hk2 hm2 hq
    have hix := idx_step p xs i hi
    rw [← itm_eq xs i hi] at hix
    cases hp : p (itm xs i) with
    | false =>
      rw [hp, if_neg (by decide)] at hix
      have HIX := hid hix
      clear hp hix
      gi_wp2
      refine ⟨fun _ h => (by cases h), ?_⟩
      gi_wp2
      exact ⟨O1, HQ.out.1, fun k h => .inl h, Ob, by have := HQ.out.2.2; rw [HVV.out] at this ⊢; show J (idx p xs (i + 1)) Ob W2; rw [HIX.out]; exact this, by rw [HVV.out]; exact HK2.out, HQ.out.2.1⟩
    | true =>
      rw [hp, if_pos rfl] at hix
      have hlt : idx p xs i < (xs.filter p).length := by
        have := idx_at p xs i hi (by rw [← itm_eq xs i hi]; exact hp)
        exact (List.getElem?_eq_some_iff.1 this).1
      have hy2 := HQ.out.2.1.2.2.2
      rw [HVV.out] at hy2
      have cy2 := Boxed.cell hy2
      obtain ⟨fn, tmps, assign, body, hyy, hR⟩ := yield_any rfl 0 (HC.out.round (idx p xs i) Ob W2 hlt (by have := HQ.out.2.2; rw [HVV.out] at this; exact this) (by have := HM2.out.size; omega))
      rw [encI_idx p xs i hi hp] at hyy
      simp only [encI] at hyy
      have HIX := hid hix
      have hlt' := hid hlt
      have cy2' : W2.cell? ⟨W.heap.size, 0, none⟩ = some (.func (.yield lp) #[] #[]) := cy2
      clear hp hix hy2 cy2 hlt
      gi_wp2
      refine ⟨rfl, (show RoundIn (Fence.wide.inRound l) 0 _ _ _ _ _ _ _ _ from round_any rfl hR).mono ?_⟩
      rintro e W4 ⟨O4, hm4, hs4, hcase⟩
      have HY := hid (Ov.yielded HOK.out HB.out (by rw [HVV.out]; exact HM2.out) hm4 hs4)
      have HK4 := hid (Ov.kept (m := i + 1) HOK.out HB.out (by rw [HVV.out]; exact HK2.out) hm4)
      have HCA := hid hcase
      clear hm4 hs4 hcase
      rcases HCA.out with ⟨rfl, hJ4⟩ | ⟨rfl, hJ4⟩
      · have HJ4 := hid hJ4
        clear hJ4
        gi_wp2
        exact ⟨_, HY.out.1, HY.out.2.1, O4, by rw [HVV.out]; show J (idx p xs (i + 1)) O4 W4; rw [HIX.out]; exact HJ4.out, HK4.out, HY.out.2.2⟩
      · have HJ4 := hid hJ4
        clear hJ4
        gi_wp2
        exact ⟨_, HY.out.1, HY.out.2.1, rfl, O4, .inl ⟨by rw [HVV.out]; show Jx (idx p xs (i + 1)) O4 W4; rw [HIX.out]; exact HJ4.out, by rw [HVV.out]; show 0 < idx p xs (i + 1); rw [HIX.out]; omega, by rw [HVV.out]; show idx p xs (i + 1) ≤ (xs.filter p).length; rw [HIX.out]; exact hlt'.out⟩, HK4.out, HY.out.2.2⟩
  case done =>
    rintro D O1 W1 hD hnD hOs hmw hI hT1 hK
    have HF := hid (Ov.done HOK.out HIT.out HCSA.out (fun k h => by rw [HVV.out]; exact .inr (.inl h)) (fun k h => by rw [HVV.out]; exact .inl h) (fun k h => by rcases h with rfl | rfl; exact HBS.out.1; exact HBK.out.1) (fun k h => by rw [HVV.out]; rcases h with rfl | rfl; exact HBS.out.2; exact HBK.out.2)
      (W := W) (by rw [HVV.out]; rfl) (HM1.out _) (by rw [HVV.out]; show W.heap.size + 1 ≤ _; omega) hD hmw HCS.out hI (by rw [HVV.out]; exact idx_all p xs) hnD hT1)
    clear hmw hI hT1 hOs hnD
    rw [HVV.out] at HF
    gi_wp2
    refine ⟨by simp, .inl ⟨_, _, rfl, run_takeDeferred hK, ?_⟩⟩
    exact ⟨_, results_none rfl _ _ _, ⟨_, rfl⟩, HF.out⟩
  case stop =>
    rintro D c i O1 W1 hD hnD hOs hmw hi hI hT1 hK
    obtain rfl := hI.1
    have HF := hid (Ov.stop HOK.out HIT.out HCSA.out (fun k h => by rw [HVV.out]; exact .inr (.inl h)) (fun k h => by rw [HVV.out]; exact .inl h) (fun k h => by rcases h with rfl | rfl; exact HBS.out.1; exact HBK.out.1) (fun k h => by rw [HVV.out]; rcases h with rfl | rfl; exact HBS.out.2; exact HBK.out.2)
      (W := W) (by rw [HVV.out]; rfl) (HM1.out _) (by rw [HVV.out]; show W.heap.size + 1 ≤ _; omega) hD hmw HCS.out hI hi hnD hT1)
    clear hmw hI hT1 hOs hnD
    rw [HVV.out] at HF
    gi_wp2
    refine ⟨by simp, .inl ⟨_, _, rfl, run_takeDeferred hK, ?_⟩⟩
    exact ⟨_, results_none rfl _ _ _, ⟨_, rfl⟩, HF.out⟩
end Go.Proofs.Ytiemcfkekaklgaa.Runs
