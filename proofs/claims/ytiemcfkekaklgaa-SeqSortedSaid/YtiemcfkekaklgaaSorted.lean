/- SeqSorted: pairs by rising key, the last one of each, are the document's. -/
import Derived.Test.YtiemcfkekaklgaaAw02
import Derived.Test.YtiemcfkekaklgaaSortL
import Derived.Test.YtiemcfkekaklgaaRises
import Derived.Test.YtiemcfkekaklgaaR02
set_option linter.unusedVariables false
set_option linter.unusedSimpArgs false
namespace Go.Proofs.Ytiemcfkekaklgaa.W02
open Go.RowKit Go.Shelf Go.Proofs.Ytiemcfkekaklgaa.Lib Go.Proofs.Ytiemcfkekaklgaa.Prs Go.Proofs.Ytiemcfkekaklgaa.Run Go.Proofs.Ytiemcfkekaklgaa.Runs Go.Proofs.Ytiemcfkekaklgaa.Stab Go.Proofs.Ytiemcfkekaklgaa.QTail Go.Proofs.Ytiemcfkekaklgaa.Lt Go.Proofs.Ytiemcfkekaklgaa.Sp
attribute [local go_sem] Str_toList
theorem ltC_I (x y : Itm) : StabI.ltC cmpI x y = ltS x.1 y.1 := by unfold StabI.ltC cmpI; exact cmpStr_neg _ _
theorem sortedI_spec (l : List Itm) : SortOf l (StabI.sortedP (StabI.ltC cmpI) eqI l) := StabI.sorted_spec _ _ ltC_I (fun _ _ => rfl) l
theorem ris_risesTo {r : List Itm} (h : Ris r) : risesP r = true := by
  unfold risesP
  refine @decide_eq_true _ (Classical.propDecidable _) (fun j hj => ?_)
  unfold Ris at h
  rw [List.pairwise_iff_getElem] at h
  rw [itm_eq r j (by omega), itm_eq r (j + 1) hj]
  exact h j (j + 1) (by omega) hj (by omega)
theorem own_cap0 {w : World} {base n m c : Nat} {e : TypeId} {size : Nat} {xs : List Value} {A : Option Addr} (h : w.ownsRow base e size (.slice A m c) n xs) (hA : A = none) : n = 0 ∧ c = 0 := by
  subst hA
  rcases h.2 with ⟨h1, h2⟩ | ⟨g, cap, cur, h1, _⟩
  · injection h1 with _ h3 h4; exact ⟨h2, h4⟩
  · cases h1
set_option maxRecDepth 100000 in
set_option maxHeartbeats 3200000 in
theorem seqsorted_any (A : Option Addr) (c : Nat) (l : List Itm) (hl : l.length ≤ 100000000000000) (w : World) (hrl : Rd w A (its l)) :
    Calls Try.prog 3 #[.slice A l.length c] w fun e w' => e = .returned (.bool true) ∧ Below w.heap.size w w' := by
  have HRL := hid hrl
  clear hrl
  go_enter Try.func3, Try.ntmps3
  go_wp2_with fail
  refine (awake_any w).mono ?_; rintro e w0 ⟨rfl, hb0⟩
  have HB0 := hid hb0
  clear hb0
  by_cases h1 : 300 < l.length
  · have q1 : decide ((300 : Int) < (l.length : Int)) = true := decide_eq_true (by omega)
    go_wp2
    go_ret
    exact ⟨rfl, HB0.out⟩
  have q1 : decide ((300 : Int) < (l.length : Int)) = false := decide_eq_false (by omega)
  have HPA := hid (pairs_any A c l (by omega) w0 (HRL.out.below HB0.out))
  go_wp2_with fail
  refine HPA.out.mono ?_; rintro e w1 ⟨⟨v1, rfl, hown1⟩, hb1⟩
  obtain ⟨A1, c1, rfl, hcc1, hrd1, hA1, hsp1⟩ := Rd.own' hown1
  have HB1 := hid (below_tr HB0.out hb1)
  have HR1 := hid hrd1
  have HSO := hid (StabI.sorted_any cmpI eqI cmpI_ok eqI_ok A1 c1 l (by omega) (own_cap0 hown1) hsp1 w1 hrd1)
  clear hb1 hown1 hrd1 hcc1 hA1 hsp1
  go_wp2_with fail
  refine HSO.out.mono ?_; rintro e w2 ⟨⟨v2, rfl, hown2⟩, hb2⟩
  obtain ⟨A2, c2, rfl, hcc2, hrd2, hA2, hsp2⟩ := Rd.own' hown2
  obtain ⟨so, hso⟩ : ∃ so, so = StabI.sortedP (StabI.ltC cmpI) eqI l := ⟨_, rfl⟩
  have hspec := sortedI_spec l
  rw [← hso] at hown2 hrd2 hspec ⊢
  have hlt2 : ∀ b o, A2 = some ⟨b, o, none⟩ → b < w2.heap.size := by
    rintro b o rfl
    exact own_lt' hown2 b rfl
  have HLT2 := hid hlt2
  have HB2 := hid (below_tr HB1.out hb2)
  have HR12 := hid (HR1.out.below hb2)
  have HR2 := hid hrd2
  have HSP := hid hspec
  have HRS := hid (R02.sorted_any A c l (by omega) w2 (HRL.out.below HB2.out))
  clear hb2 hown2 hrd2 hcc2 hA2 hsp2 hso hspec hlt2
  go_wp2_with fail
  refine HRS.out.mono ?_; rintro e w3 ⟨⟨rl, v3, rfl, hown3, hso3, hlen3⟩, hb3⟩
  obtain rfl := spec_eq hso3 HSP.out
  obtain ⟨A3, c3, rfl, hcc3, hrd3, hA3, hsp3⟩ := Rd.own' hown3
  have HB3 := hid (below_tr HB2.out hb3)
  have HR23 := hid (HR2.out.below hb3)
  have HR13 := hid (HR12.out.below hb3)
  have hsa := same_any A2 A3 c2 c3 rl rl (by omega) (by omega) w3 HR23.out hrd3
  rw [decide_eq_true rfl] at hsa
  have HSA := hid hsa
  have hs3 := hb3.size
  clear hb3 hown3 hrd3 hcc3 hA3 hsp3 hsa hso3
  go_wp2_with fail
  refine HSA.out.mono ?_; rintro e w4 ⟨rfl, hb4⟩
  have HB4 := hid (below_tr HB3.out hb4)
  have HR24 := hid (HR23.out.below hb4)
  have hsa := same_any A1 A c1 c l l (by omega) (by omega) w4 (HR13.out.below hb4) (HRL.out.below HB4.out)
  rw [decide_eq_true rfl] at hsa
  have HSB := hid hsa
  have hs4 := hb4.size
  clear hb4 hsa
  go_wp2_with fail
  refine HSB.out.mono ?_; rintro e w5 ⟨rfl, hb5⟩
  have HB5 := hid (below_tr HB4.out hb5)
  have HR25 := hid (HR24.out.below hb5)
  have hs5 := hb5.size
  clear hb5
  go_wp2_with fail
  refine (of_any A2 rl.length c2 w5).mono ?_; rintro e w6 ⟨rfl, hw6⟩
  have hal : Below w5.heap.size w5 w6 := by rw [hw6]; exact below_al (below_rf w5) _
  have hz6 : w6.heap.size = w5.heap.size + 1 := by rw [hw6]; simp
  have hc6 : w6.cell? ⟨w5.heap.size, 0, none⟩ = some (.slice A2 rl.length c2) := by rw [hw6, World.cell?_alloc_at _ _ _ _ rfl]; rfl
  have hRl : ∀ k, ROf w5.heap.size A2 k → k < w6.heap.size := fun k hk => by
    rcases hk with h | ⟨b, o, e, h⟩
    · omega
    · have := HLT2.out b o e; omega
  have HRI := hid (rises_iter 38 #[.pointer (some ⟨w5.heap.size, 0, none⟩)] (enters_of Try.func38 (by kernel_rfl) rfl) rl (by omega) _ _ (of_iter w5.heap.size A2 c2 rl (by omega) w6 hc6 (HR25.out.below hal) hRl) w6 hRl (fun k hk => rfl))
  have HB6 := hid (below_tr HB5.out hal)
  clear hw6 hal hc6 hRl
  go_wp2_with fail
  refine HRI.out.mono ?_; rintro e w7 ⟨rfl, hm7, i7, hT7⟩
  rw [ris_risesTo HSP.out.ris]
  have HB7 := hid (below_tr HB6.out (hm7.quiet hT7))
  clear hm7 hT7
  go_wp2
  go_ret
  exact ⟨rfl, HB7.out⟩
end Go.Proofs.Ytiemcfkekaklgaa.W02
