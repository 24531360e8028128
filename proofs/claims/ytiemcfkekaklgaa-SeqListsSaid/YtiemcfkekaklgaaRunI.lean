/- Runs over pairs of a text and a number: seq.Of, seq.List and what is made of runs. -/
import Derived.Shelf.Abstract
import Derived.Shelf.RegionOpen
import Derived.WalkKit
import Derived.OwnWalkIn
import Derived.TacticsInMore
import Derived.LoopNIn
import Derived.LoopIn
import Derived.Test.YtiemcfkekaklgaaRun
import Derived.Test.YtiemcfkekaklgaaPrs
import Derived.Test.YtiemcfkekaklgaaProg
set_option linter.unusedVariables false
set_option linter.unusedSimpArgs false
namespace Go.Proofs.Ytiemcfkekaklgaa.Runs
open Go.RowKit Go.Shelf Go.Proofs.Ytiemcfkekaklgaa.Lib Go.Proofs.Ytiemcfkekaklgaa.Prs Go.Proofs.Ytiemcfkekaklgaa.Run
/-- What a run hands out for pair i. -/
def encI (l : List Itm) (i : Nat) : Array Value := #[.string (Str (itm l i).1), (.int .i64 ((itm l i)).2)]
def ROf (Bs : Nat) (A : Option Addr) (k : Nat) : Prop := k = Bs ∨ ∃ b o, A = some ⟨b, o, none⟩ ∧ k = b
theorem rd_same {R : Nat → Prop} {W W' : World} {A : Option Addr} {xs : List Value} (h : Rd W A xs) (hs : ∀ k, R k → W'.heap[k]? = W.heap[k]?) (hR : ∀ b o, A = some ⟨b, o, none⟩ → R b) : Rd W' A xs := by
  rcases h with h | ⟨b, o, rfl, h⟩
  · exact .inl h
  · exact .inr ⟨b, o, rfl, fun j x hj => cell_same (h j x hj) (hs b (hR b o rfl))⟩
theorem rd_mv {O : Nat → Prop} {W W' : World} {A : Option Addr} {xs : List Value} (h : Rd W A xs) (hm : Mv O W W') (hn : ∀ b o, A = some ⟨b, o, none⟩ → ¬ O b) : Rd W' A xs := by
  rcases h with h | ⟨b, o, rfl, h⟩
  · exact .inl h
  · exact .inr ⟨b, o, rfl, fun j x hj => hm.cell (h j x hj) (hn b o rfl)⟩
attribute [local go_sem] Oper.semAt_some
theorem of_any (A : Option Addr) (n c : Nat) (w : World) :
    Calls Try.prog 15 #[.slice A n c] w fun e w' => e = .returned (.func (.func 38) #[] #[.pointer (some ⟨w.heap.size, 0, none⟩)]) ∧ w' = w.alloc (.cells #[.slice A n c] 24) := by
  go_enter Try.func15, Try.ntmps15
  go_wp2
  go_ret
  exact ⟨rfl, rfl⟩
set_option maxRecDepth 100000 in
set_option maxHeartbeats 2000000 in
/-- seq.Of's closure is a run over the slice's pairs. -/
theorem of_iter (Bs : Nat) (A : Option Addr) (c : Nat) (l : List Itm) (hl : l.length ≤ 1000000000) (w0 : World) (hBs0 : w0.cell? ⟨Bs, 0, none⟩ = some (.slice A l.length c)) (hrd0 : Rd w0 A (its l)) (hlt0 : ∀ k, ROf Bs A k → k < w0.heap.size) :
    Iter Try.prog 38 #[.pointer (some ⟨Bs, 0, none⟩)] (encI l) l.length (ROf Bs A) (Still (ROf Bs A) w0) := by
  refine ⟨Still.keeps hlt0, ?_⟩
  intro lp J Jx O W hRl hOR hT hC h0
  have hBs : W.cell? ⟨Bs, 0, none⟩ = some (.slice A l.length c) := cell_same hBs0 (hT _ (.inl rfl))
  have hrd : Rd W A (its l) := rd_same (R := ROf Bs A) hrd0 hT (fun b o e => .inr ⟨b, o, e, rfl⟩)
  have HST : Hid (∀ X, Mv O W X → Still (ROf Bs A) w0 0 X) := hid (fun X hm => Still.keeps hlt0 0 W X hT (hm.mono (fun j _ ho => hOR j ho)))
  refine (callsIn_wide (n := 1)).1 (callsIn_of_wp Try.func38 rfl trivial ?_ rfl)
  simp only [Try.ntmps38, List.size_toArray, List.length_cons, List.length_nil, Nat.reduceAdd, Nat.reduceSub, Array.replicate_succ, Array.replicate_zero, List.push_toArray, List.append_toArray, List.nil_append, List.cons_append]
  have HC := hid hC
  have HRD := hid hrd
  have HOR := hid hOR
  clear hC hrd hOR hRl hT
  gi_wp2
  gi_loopw [7] (fun i wr => ∃ k : Nat, k ≤ l.length ∧ i = .int .i64 k ∧ ∃ O' : Nat → Prop, J k O' wr ∧ Hid (Mv O W wr) ∧ Hid (∀ j, O' j → O j ∨ W.heap.size ≤ j))
    (fun i _ => l.length - (intOf i).toNat)
  case atStart => exact ⟨0, Nat.zero_le _, rfl, O, h0, hid (Mv.refl _ _), hid (fun j h => .inl h)⟩
  case round =>
    obtain ⟨k, hk, rfl, O', hJs, HM, HS⟩ := hrel
    by_cases hlt : k < l.length
    · obtain ⟨b, o, rfl, hc1, hc2⟩ := rd_itm (rd_mv HRD.out HM.out (fun b o e h => HOR.out _ h (.inr ⟨b, o, e, rfl⟩))) hlt
      obtain ⟨wa, hwa⟩ : ∃ wa, wa = wr.alloc (Obj.cells #[.string (Str (itm l k).1), (.int .i64 ((itm l k)).2)] 49) := ⟨_, rfl⟩
      have hal : ∀ X, Mv X wr wa := fun X => by rw [hwa]; exact Mv.alloc _ _
      have hJ1 : J k O' wa := HC.out.stable.2 _ _ _ _ hJs (hal _)
      have hB : W.heap.size ≤ wa.heap.size := Nat.le_trans HM.out.size (hal O).size
      obtain ⟨fn, tmps, assign, body, hy, hR⟩ := yield_any rfl 0 (HC.out.round k O' wa hlt hJ1 hB)
      have HMA : Hid (Mv O W wa) := hid (HM.out.trans (hal O) (fun _ h => h) (fun _ _ h => h))
      rw [hwa] at hy hR
      simp only [encI] at hy hR
      clear hJ1 hJs hal hwa
      gi_wp2
      refine (round_any rfl hR).mono ?_
      rintro e W3 ⟨O3, hm3, hs3, (⟨rfl, hJ3⟩ | ⟨rfl, hJx3⟩)⟩
      · have HM3 := hid hm3
        have HS3 := hid hs3
        have HJ3 := hid hJ3
        clear hm3 hs3 hJ3
        gi_wp2
        go_roundw
        case rel =>
          refine ⟨k + 1, by omega, by simp, O3, HJ3.out, hid ?_, hid ?_⟩
          · exact (HM.out.trans (Mv.alloc wr _) (O := O) (O2 := O) (fun _ h => h) (fun _ _ h => h)).trans HM3.out (fun _ h => h) (fun j hj h => (HS.out j h).resolve_right (by omega))
          · intro j hj
            have := HM.out.size
            rcases HS3.out j hj with h | h
            · exact HS.out j h
            · exact .inr (by simp at h; omega)
        case measure => simp [intOf]; omega
      · have HM3 := hid hm3
        have HS3 := hid hs3
        have HJ3 := hid hJx3
        clear hm3 hs3 hJx3
        gi_wp2
        refine bodyPost_ret (results_none rfl _ _ _) rfl ?_
        have hmf : Mv O W W3 := (HM.out.trans (Mv.alloc wr _) (O := O) (O2 := O) (fun _ h => h) (fun _ _ h => h)).trans HM3.out (fun _ h => h) (fun j hj h => (HS.out j h).resolve_right (by omega))
        refine ⟨⟨_, rfl⟩, O3, hmf.mono (fun _ _ h => .inl h), ?_, .inr ⟨k, hlt, HJ3.out, HST.out _ hmf⟩⟩
        intro j hj
        have := HM.out.size
        rcases HS3.out j hj with h | h
        · exact HS.out j h
        · exact .inr (by simp at h; omega)
    · obtain rfl : k = l.length := by omega
      gi_wp2
      go_end0
      exact ⟨⟨_, rfl⟩, O', HM.out.mono (fun _ _ h => .inl h), HS.out, .inl ⟨hJs, HST.out _ HM.out⟩⟩
theorem ti_pairR : TI Try.prog 24 49 2 24 := TI.of (by kernel_rfl) (by kernel_rfl) (by decide) (by decide)
/-- what seq.List holds behind i rounds -/
def IL (B : Nat) (xs : List Itm) (i : Nat) (O : Nat → Prop) (W : World) : Prop := i ≤ xs.length ∧ B < W.heap.size ∧ ∃ v, Boxed W B 24 v ∧ W.ownsRow B 49 2 v i (its (xs.take i)) ∧ ∀ k, O k ↔ (k = B ∨ v.ownBlock = some k)
theorem IL_stable (R : Nat → Prop) (B B' : Nat) (xs : List Itm) : Stable R B' (IL B xs) := by
  refine ⟨?_, ?_⟩
  · rintro i O W ⟨_, hB, v, hb, ho, hO⟩ k hk
    rcases (hO k).1 hk with rfl | h
    · exact hB
    · exact own_lt' ho k h
  · rintro i O W W' ⟨hi, hB, v, hb, ho, hO⟩ hm
    exact ⟨hi, Nat.lt_of_lt_of_le hB hm.size, v, boxed_mv hb hm (fun h => h.2 ((hO _).2 (.inl rfl))), own_mv ho hm (fun k hk h => h.2 ((hO _).2 (.inr hk))), hO⟩
set_option maxRecDepth 100000 in
set_option maxHeartbeats 3200000 in
theorem list_iter (gf : Nat) (lb : Array Value) (eg : ∀ args w, (callFunc gf args).run Try.prog w = .ok (.enter gf args) w) (xs : List Itm) (hl : xs.length ≤ 1000000000) (R : Nat → Prop) (T : Nat → World → Prop)
    (hit : Iter Try.prog gf lb (encI xs) xs.length R T) (w : World) (hR : ∀ k, R k → k < w.heap.size) (hT : T 0 w) :
    Calls Try.prog 16 #[.func (.func gf) #[] lb] w fun e w' => (∃ v, e = .returned v ∧ w'.ownsRow w.heap.size 49 2 v xs.length (its xs)) ∧ Mv R w w' ∧ T xs.length w' := by
  refine (callsIn_wide (n := 5)).1 ?_
  refine callsIn_of_wp_marks Try.func16 rfl trivial ?_ rfl
  simp only [Try.ntmps16, List.size_toArray, List.length_cons, List.length_nil, Nat.reduceAdd, Nat.reduceSub, Array.replicate_succ, Array.replicate_zero, List.push_toArray, List.append_toArray, List.nil_append, List.cons_append]
  obtain ⟨w1, hw1⟩ : ∃ w1, w1 = w.alloc (Obj.cells #[.slice none 0 0] 24) := ⟨_, rfl⟩
  have z1 : w1.heap.size = w.heap.size + 1 := by rw [hw1]; simp
  have hm0 : ∀ X, Mv X w w1 := fun X => by rw [hw1]; exact Mv.alloc _ _
  have bX : Boxed w1 w.heap.size 24 (.slice none 0 0) := by rw [hw1]; exact Boxed.new w _ _
  have HM0 := hid hm0
  have HIT := hid hit
  clear hm0 hit
  gi_wp2
  rw [← hw1]
  clear hw1
  refine wpIn_range (gf := gf) (lb := lb) rfl eg HIT.out (fun _ => rfl) (IL w.heap.size xs) (fun _ _ _ _ => False) (fun k => k = w.heap.size) (IL_stable _ _ _ _) (fun _ => ⟨fun _ _ _ h => h.elim, fun _ _ _ _ h _ => h.elim⟩)
    ⟨Nat.zero_le _, by omega, .slice none 0 0, bX, by simpa [its] using own_nil _ _ _ _, fun k => by simp [Value.ownBlock]⟩ (fun k hk => by have := hR k hk; omega) (fun k e h => by have := hR k h; omega) (HIT.out.keeps _ _ _ hT (HM0.out _))
    (fun i => { tmps := #[.func (.func gf) #[] lb, undef, .slice none 0 0, .pointer (some ⟨w.heap.size, 0, none⟩), .string (Str (itm xs i).1), (.int .i64 ((itm xs i)).2), .func (.func gf) #[] lb, .string (Str (itm xs i).1), (.int .i64 ((itm xs i)).2), undef, undef, undef, undef, undef, undef, undef], defers := [] }) ?assign ?body ?done ?stop
  case assign =>
    intro l i W K hK
    simp only [encI]
    gi_wp2
    exact hK
  case body =>
    rintro lp i O W hi ⟨hil, hB, v, hbx, hown, hO⟩ hsz hOs hmw
    have c0 := hbx.cell
    have f0 := hbx.frozen
    have htk := take_itm xs i hi
    obtain ⟨x, hx⟩ : ∃ x, x = itm xs i := ⟨_, rfl⟩
    rw [← hx] at htk ⊢
    have HTK := hid htk
    have HO := hid hO
    have HMW := hid hmw
    have HOS := hid hOs
    clear htk hx hO hmw hOs
    obtain ⟨Wa, hWa⟩ : ∃ Wa, Wa = W.alloc (Obj.cells #[.string (Str x.1), (.int .i64 (x).2)] 49) := ⟨_, rfl⟩
    have hza : Wa.heap.size = W.heap.size + 1 := by rw [hWa]; simp
    have hmA : ∀ X, Mv X W Wa := fun X => by rw [hWa]; exact Mv.alloc _ _
    have hown2 := own_mv hown (hmA (fun _ => False)) (fun _ _ h => h)
    have hbxa := boxed_mv hbx (hmA (fun _ => False)) (fun h => h)
    have hnews : Rd Wa (some ⟨W.heap.size, 0, none⟩) [.string (Str x.1), (.int .i64 (x).2)] := by
      refine .inr ⟨_, _, rfl, fun j y hj => ?_⟩
      rw [hWa, World.cell?_alloc_at _ _ _ _ rfl, Nat.zero_add, ← hj]
      simp
    have HMA := hid hmA
    clear hmA
    gi_wp2_with (gi_at_builtin; rw [← hWa]; refine wpListIn_app2 (v := v) _ ti_pairR rfl _ _ rfl w.heap.size (some ⟨W.heap.size, 0, none⟩) 1 1 [.string (Str x.1), (.int .i64 (x).2)] rfl rfl hown2 rfl hnews (by intro h; cases h) (by intro a h; injection h with h; subst h; rfl) (by simp [Value.oneCell']) (by omega) (by omega) ?_; intro v' w2 ho2 hg2 hv2; obtain ⟨A2, c2, rfl⟩ := own_succ ho2; have hbx2 := hbxa.kept hg2 (hbxa.not_row (by decide) hown2); have d0 := hbx2.cell; have d1 := hbx2.frozen)
    gi_wp2
    have hgs := hg2.size
    have hsl : (Value.slice A2 (i + 1) c2).ownBlock ≠ some w.heap.size := by
      intro e
      exact Boxed.not_row hbx2 (by decide) ho2 e.symm
    refine ⟨fun k => k = w.heap.size ∨ (Value.slice A2 (i + 1) c2).ownBlock = some k, ?_, ?_, by omega, by simp; omega, _, hbx2.set _, ?_, fun _ => Iff.rfl⟩
    · refine ((HMA.out O).trans (Mv.grown (O := O) hg2 (fun k hk _ => (HO.out k).2 (.inr hk))) (fun _ h => h) (fun _ _ h => h)).trans (Mv.setCell (O := O) w2 ⟨w.heap.size, 0, none⟩ _ ((HO.out _).2 (.inl rfl))) (fun _ h => h) (fun _ _ h => h)
    · rintro k (rfl | hk)
      · exact .inl ((HO.out _).2 (.inl rfl))
      · rcases hv2 with h | h
        · exact .inl ((HO.out _).2 (.inr (h ▸ hk)))
        · rw [h] at hk; injection hk with hk; exact .inr (by omega)
    · rw [HTK.out, its_app]
      exact own_mv ho2 (Mv.setCell (O := fun k => k = w.heap.size) w2 ⟨w.heap.size, 0, none⟩ _ rfl) (fun k hk e => hsl (e ▸ hk))
  case done =>
    rintro D O W hD hnD hOs hmw ⟨hil, hB, v, hbx, hown, hO⟩ hT2 hK
    have c0 := hbx.cell
    have HM := hid ((HM0.out R).trans hmw (O := R) (fun _ h => h) (fun j hj h => by
      rcases h with h | h
      · omega
      · exact h))
    rw [List.take_length] at hown
    have HO := hid hO
    clear hmw hO hOs
    gi_wp2
    refine ⟨by simp, .inl ⟨_, _, rfl, run_takeDeferred hK, ?_⟩⟩
    have hpd : ∀ X : Nat → Prop, X D → Mv X W (W.putObj D (.deferred none)) := fun X hX => Mv.putObj _ _ _ (fun _ => hX)
    exact ⟨_, results_tmp rfl _ _ _, ⟨v, rfl, own_mv hown (hpd (fun k => k = D) rfl) (fun k hk e => hnD ((HO.out _).2 (.inr (e ▸ hk))))⟩, HM.out.trans (hpd (fun k => k = D) rfl) (fun _ h => h) (fun j hj e => by omega),
      HIT.out.keeps _ _ _ hT2 (hpd _ (fun h => by have := hR _ h; omega))⟩
  case stop =>
    rintro D c i O W _ _ _ _ _ h _ _
    exact h.elim
end Go.Proofs.Ytiemcfkekaklgaa.Runs
