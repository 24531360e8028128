/- The law of what differences tell, walked. -/
import Derived.Test.YtoidbgedpakjmaaAw10
import Derived.Test.YtoidbgedpakjmaaL08b
import Derived.Test.YtoidbgedpakjmaaR10
import Derived.Test.YtoidbgedpakjmaaR10s
import Derived.Test.YtoidbgedpakjmaaV10
set_option linter.unusedVariables false
set_option linter.unusedSimpArgs false
namespace Go.Proofs.Ytoidbgedpakjmaa.D10
open Go Go.RowKit Go.Proofs.Ytoidbgedpakjmaa.Lib Go.Proofs.Ytoidbgedpakjmaa.Sha Go.Proofs.Ytoidbgedpakjmaa.Itms Go.Proofs.Ytoidbgedpakjmaa.T07 Go.Proofs.Ytoidbgedpakjmaa.T08 Go.Proofs.Ytoidbgedpakjmaa.QTail Go.Proofs.Ytoidbgedpakjmaa.WSeq Go.Proofs.Ytoidbgedpakjmaa.Ord Go.Proofs.Ytoidbgedpakjmaa.W08 Go.Proofs.Ytoidbgedpakjmaa.Dif Go.Proofs.Ytoidbgedpakjmaa.Mp Go.Proofs.Ytoidbgedpakjmaa.Tree Go.Proofs.Ytoidbgedpakjmaa.Bld Go.Proofs.Ytoidbgedpakjmaa.Inj Go.Proofs.Ytoidbgedpakjmaa.W07
attribute [local go_sem] Str_size Str_toList Str_extract
set_option maxRecDepth 100000 in
set_option maxHeartbeats 8000000 in
theorem tells_any (A B : Option Addr) (c d : Nat) (l m : List Itm) (hl : l.length ≤ 1000000000000000000) (hm : m.length ≤ 1000000000000000000) (w : World) (hra : Rd w A (its l)) (hrb : Rd w B (its m)) (hsa : ∀ i, i < l.length → (itm l i).1.length ≤ 140737488355328 ∧ (itm l i).2.length ≤ 140737488355328) (hsb : ∀ i, i < m.length → (itm m i).1.length ≤ 140737488355328 ∧ (itm m i).2.length ≤ 140737488355328) :
    Calls Try.prog 5 #[.slice A l.length c, .slice B m.length d] w fun e w' => e = .returned (.bool true) ∧ Below w.heap.size w w' := by
  have HA := hid hra
  have HB := hid hrb
  have HSA := hid hsa
  have HSB := hid hsb
  clear hra hrb hsa hsb
  go_enter Try.func5, Try.ntmps5
  go_wp2_with fail
  refine (awake10_any w).mono ?_; rintro e w1 ⟨rfl, hb1⟩
  have hB1 := hb1
  go_wp2_with fail
  refine (few_any A c l hl w1 (HA.out.below hB1) HSA.out).mono ?_; rintro e w2 ⟨⟨r, rfl, hfa⟩, hb2⟩
  have hB2 := below_tr hB1 hb2
  cases r with
  | false =>
    go_wp2
    go_ret
    exact ⟨rfl, hB2⟩
  | true =>
    go_wp2_with fail
    refine (few_any B d m hm w2 (HB.out.below hB2) HSB.out).mono ?_; rintro e w3 ⟨⟨r, rfl, hfb⟩, hb3⟩
    have hB3 := below_tr hB2 hb3
    cases r with
    | false =>
      go_wp2
      go_ret
      exact ⟨rfl, hB3⟩
    | true =>
      have fa : FewS l := by simpa using hfa
      have fb : FewS m := by simpa using hfb
      have hla := fa.1
      have hlb := fb.1
      have hqa := map_q l fa
      have hqb := map_q m fb
      clear hb1 hb2 hb3 hB2 hfa hfb HSA HSB hl hm
      go_wp2_with fail
      refine (rising_any A c l (by omega) w3 (HA.out.below hB3)).mono ?_; rintro e w4 ⟨⟨v, rfl, hown4⟩, hb4⟩
      have hB4 := below_tr hB3 hb4
      obtain ⟨x, hx⟩ : ∃ x, x = risingS l := ⟨_, rfl⟩
      obtain ⟨y, hy⟩ : ∃ y, y = risingS m := ⟨_, rfl⟩
      rw [← hx] at hown4 hqa
      rw [← hy] at hqb
      have hxl := hqa.len
      have hyl := hqb.len
      obtain ⟨Al, cl, rfl, hcl, hrl4, _, _⟩ := Rd.own' hown4
      clear hx hown4 hb4 hcl hB3
      go_wp2_with fail
      refine (rising_any B d m (by omega) w4 (HB.out.below hB4)).mono ?_; rintro e w5 ⟨⟨v', rfl, hown5⟩, hb5⟩
      have hB5 := below_tr hB4 hb5
      rw [← hy] at hown5
      obtain ⟨Am, cm, rfl, hcm, hrm5, _, _⟩ := Rd.own' hown5
      have hrl5 := hrl4.below hb5
      clear hy hown5 hb5 hcm hB4 hrl4 HA HB fa fb
      go_wp2_with fail
      refine (pairs_any Al cl x (by omega) w5 hrl5).mono ?_; rintro e w6 ⟨⟨v6, rfl, hown6⟩, hb6⟩
      obtain ⟨Ap, cp, rfl, hcp, hrp, _, _⟩ := Rd.own' hown6
      have hB6 := below_tr hB5 hb6
      have hrl6 := hrl5.below hb6
      have hrm6 := hrm5.below hb6
      clear hb6 hrl5 hrm5 hB5
      go_wp2_with fail
      refine (build_any Ap cp x hcp (by omega) w6 (fun b o e => own_low hown6 e) hrp).mono ?_; rintro e w7 ⟨ho7, hb7⟩
      have hB7 := below_tr hB6 hb7
      have hrl7 := hrl6.below hb7
      have hrm7 := hrm6.below hb7
      clear hown6 hrp hb7 hcp hB6 hrl6 hrm6
      rcases ho7 with ⟨hf, _⟩ | ⟨_, v7, rfl, hown7⟩
      · rw [hqa.right] at hf; cases hf
      obtain ⟨A7, c7, rfl, hc7, hr7, _, _⟩ := Rd.own' hown7
      clear hown7 hc7
      go_wp2_with fail
      refine (pairs_any Am cm y (by omega) w7 hrm7).mono ?_; rintro e w8 ⟨⟨v8, rfl, hown8⟩, hb8⟩
      obtain ⟨Aq, cq, rfl, hcq, hrq, _, _⟩ := Rd.own' hown8
      have hB8 := below_tr hB7 hb8
      have hr78 := hr7.below hb8
      have hrl8 := hrl7.below hb8
      have hrm8 := hrm7.below hb8
      clear hb8 hrm7 hrl7 hr7 hB7
      go_wp2_with fail
      refine (build_any Aq cq y hcq (by omega) w8 (fun b o e => own_low hown8 e) hrq).mono ?_; rintro e w11 ⟨ho9, hb9⟩
      have hB11 := below_tr hB8 hb9
      have hr711 := hr78.below hb9
      have HX11 := hid (hrl8.below hb9)
      have HY11 := hid (hrm8.below hb9)
      clear hown8 hrq hb9 hcq hr78 hB8 hrl8 hrm8
      rcases ho9 with ⟨hf, _⟩ | ⟨_, v9, rfl, hown9⟩
      · rw [hqb.right] at hf; cases hf
      obtain ⟨A9, c9, rfl, hc9, hr9, _, _⟩ := Rd.own' hown9
      have na := hqa.nodes
      have nb := hqb.nodes
      have ra := hqa.root
      have rb := hqb.root
      have sha1 := hqa.short
      have shb1 := hqb.short
      have hsrc : ∀ s ∈ (treeS x).2 ++ (treeS y).2, s.length ≤ 3000000 ∧ ∃ v P, parseS s = some (v, P) ∧ cnt v P ≤ 1000 ∧ v ≤ 10 := fun s hs => by
        rcases List.mem_append.1 hs with h | h
        · exact MapQ.src hqa s h
        · exact MapQ.src hqb s h
      have hlaw := diff_law x y hqa hqb
      obtain ⟨ta, hta⟩ : ∃ t, t = (treeS x).1 := ⟨_, rfl⟩
      obtain ⟨tb, htb⟩ : ∃ t, t = (treeS y).1 := ⟨_, rfl⟩
      obtain ⟨ns, hns⟩ : ∃ t, t = (treeS x).2 := ⟨_, rfl⟩
      obtain ⟨ms, hms⟩ : ∃ t, t = (treeS y).2 := ⟨_, rfl⟩
      rw [← hta, ← htb, ← hns, ← hms] at hlaw
      rw [← hns, ← hms] at hsrc
      rw [← hta] at ra ⊢
      rw [← htb] at rb ⊢
      rw [← hns] at na sha1 hr711 ⊢
      rw [← hms] at nb shb1 hr9 ⊢
      have HLAW := hid hlaw
      have HSHA := hid sha1
      have HSHB := hid shb1
      have HR7 := hid hr711
      have HR9 := hid hr9
      have HB11 := hid hB11
      have hal := below_al (below_rf w11) (Obj.cells ([] : List Value).toArray 9)
      have HON := hid (own_fresh w11 w11.heap.size 9 0 1 [] (Nat.le_refl _) (by rfl) (by decide))
      have HR7' := hid (hr711.below hal)
      have HAL := hid hal
      have HSHC := hid (show ∀ s ∈ ns ++ ms, s.length ≤ 3000000 from fun s hs => by
        rcases List.mem_append.1 hs with h | h
        · exact sha1 s h
        · exact shb1 s h)
      have HSRC := hid hsrc
      clear hta htb hns hms hqa hqb hown9 sha1 shb1 hc9 hlaw hr711 hr9 hB11 hal hsrc
      go_wp2_with (at_builtin; first
        | (refine wpList_appR ti_str (.tmp 45) (.tmp 46) (by first | rfl | simp [Region.wanted, yielded]) (by rfl) w11.heap.size (strs ns) A7 ns.length c7 (by rfl) (by rfl) HR7'.out HON.out (by rw [strs_len, Nat.mul_one]) (strs_one _) (by simp) (by omega) ?_
           intro A12 c12 w12 ho12 hg12
           have hb12 : Below w11.heap.size w11 w12 := HAL.out.grown hg12 (by simp) (fun k hk => own_block_base HON.out k hk)
           have HR9'' := hid (HR9.out.below hb12)
           rw [Nat.zero_add] at ho12 ⊢
           have HO12 := hid ho12
           have HB12 := hid hb12
           clear ho12 hg12 hb12)
        | (refine wpList_appR ti_str (.tmp 47) (.tmp 48) (by first | rfl | simp [Region.wanted, yielded]) (by rfl) w11.heap.size (strs ms) A9 ms.length c9 (by rfl) (by rfl) HR9''.out HO12.out (by rw [strs_len, Nat.mul_one]) (strs_one _) HB12.out.size (by omega) ?_
           intro A13 c13 w13 ho13 hg13
           have hb13 : Below w11.heap.size w11 w13 := HB12.out.grown hg13 HB12.out.size (fun k hk => own_block_base HO12.out k hk)
           have hr13 : Rd w13 A13 (strs (ns ++ ms)) := by
             rw [← strs_app]
             exact rd_own ho13
           rw [show ns.length + ms.length = (ns ++ ms).length by simp]
           have HR13 := hid hr13
           have HB13 := hid hb13
           clear ho13 hg13 hr13 hb13))
      have hsq : SrcQ (heapF (ns ++ ms)) := SrcQ.heap HSRC.out
      obtain ⟨F, hF⟩ : ∃ F, F = heapF (ns ++ ms) := ⟨_, rfl⟩
      have hnh := newheap_gen (ns ++ ms) A13 c13 w13 (by simp; omega) HR13.out HSHC.out
      rw [← hF, List.length_append] at hnh
      have HNH := hid hnh
      have hlaw := HLAW.out
      rw [← hF] at hsq hlaw
      have HSQ := hid hsq
      obtain ⟨R, hR⟩ : ∃ R, R = restsE F ta tb := ⟨_, rfl⟩
      have HRE := hid hR
      have HRB := hid (fun l m (h : R = some (l, m)) => hsq.restsE (hR ▸ h))
      rw [← hR] at hlaw
      have HLW := hid hlaw
      have HB13' := hid (below_tr HB11.out HB13.out)
      have HN13 := hid (HR7.out.below HB13.out)
      have HM13 := hid (HR9.out.below HB13.out)
      have HX13 := hid (HX11.out.below HB13.out)
      have HY13 := hid (HY11.out.below HB13.out)
      clear hF hnh hsq hlaw hR HR13 HB13 HB12 HO12 HR9'' HR7' HON HAL HR7 HR9 HB11 HSRC HLAW HX11 HY11 HSHC
      go_wp2_with fail
      (with_reducible refine HNH.out.mono ?_); rintro e w14 ⟨⟨hb, mb, n, rfl, hH⟩, hb14⟩
      have hdf := diff_any hb mb n F HSQ.out ta tb (by omega) (by omega) w14 hH (heap_lt hH).1 (heap_lt hH).2
      rw [← HRE.out] at hdf
      have HDF := hid hdf
      have HH14 := hid hH
      have HB14 := hid (below_tr HB13'.out hb14)
      have HN14 := hid (HN13.out.below hb14)
      have HM14 := hid (HM13.out.below hb14)
      have HX14 := hid (HX13.out.below hb14)
      have HY14 := hid (HY13.out.below hb14)
      clear hH hb14 HNH HN13 HM13 HB13' HX13 HY13 hdf
      go_wp2_with fail
      (with_reducible refine HDF.out.mono ?_); rintro e w15 ⟨ho15, hb15⟩
      have hex : ∃ (A15 : Option Addr) (c15 : Nat) (k : Int), e = .returned (.tuple #[.slice A15 (toldC R).length c15, .int .i64 k]) ∧ w15.ownsRow w14.heap.size 39 5 (.slice A15 (toldC R).length c15) (toldC R).length (JoinS.bts (toldC R)) ∧ (R.isSome = true → k = 0) := by
        cases R with
        | none => exact ⟨none, 0, 6, ho15, own_nil _ _ _ _, fun h => by cases h⟩
        | some q =>
          obtain ⟨v, rfl, hown⟩ := ho15
          obtain ⟨A, c, rfl⟩ := own_succ hown
          exact ⟨A, c, 0, rfl, hown, fun _ => rfl⟩
      obtain ⟨A15, c15, k15, rfl, hown15, hk15⟩ := hex
      obtain ⟨C, hC⟩ : ∃ C, C = toldC R := ⟨_, rfl⟩
      have HCE := hid hC
      have HCB := hid (show C.length ≤ 4000000 by
        rw [hC]
        cases R with
        | none => exact Nat.zero_le _
        | some q =>
          obtain ⟨l', m'⟩ := q
          have h1 := diff_len l' m'
          obtain ⟨h2, h3⟩ := HRB.out l' m' rfl
          show (diffS l' m').length ≤ _
          omega)
      have HK15 := hid hk15
      rw [← hC] at hown15 ⊢
      obtain ⟨A15', c15', e15, _, hr15, _, _⟩ := Rd.own' hown15
      injection e15 with e1 _ e2
      subst e1; subst e2
      -- the box in which changes are gathered, and the three boxes of Changes
      obtain ⟨w16, hw16⟩ : ∃ w16, w16 = w15.alloc (Obj.cells #[.slice none 0 0] 33) := ⟨_, rfl⟩
      have hb16 : Below w15.heap.size w15 w16 := by rw [hw16]; exact below_al (below_rf w15) _
      have hx16 : w16.heap[w15.heap.size]? = some (Obj.cells #[.slice none 0 0] 33 (0, 0)) := by rw [hw16]; exact heap_new _ _
      obtain ⟨w17, hw17⟩ : ∃ w17, w17 = ((w16.alloc (.cells #[.iface 31 (.pointer (some ⟨hb, 0, none⟩))] 68)).alloc (.cells #[.string (Str ta)] 9)).alloc (.cells #[.string (Str tb)] 9) := ⟨_, rfl⟩
      have hb17 : Below w16.heap.size w16 w17 := by rw [hw17]; exact below_al (below_al (below_al (below_rf w16) _) _) _
      have hz16 : w16.heap.size = w15.heap.size + 1 := by rw [hw16]; simp
      have hz17 : w17.heap.size = w16.heap.size + 3 := by rw [hw17]; simp
      have z0 : w17.cell? ⟨w16.heap.size, 0, none⟩ = some (.iface 31 (.pointer (some ⟨hb, 0, none⟩))) := by
        have h1 := heap_new w16 (.cells #[.iface 31 (.pointer (some ⟨hb, 0, none⟩))] 68)
        have h2 := (below_al (below_rf (w16.alloc (.cells #[.iface 31 (.pointer (some ⟨hb, 0, none⟩))] 68))) (.cells #[.string (Str ta)] 9))
        have h3 := below_al h2 (.cells #[.string (Str tb)] 9)
        rw [hw17, Go.Lib.cell_of_heap ((h3.block w16.heap.size (by simp)).trans h1)]; rfl
      have z1 : w17.cell? ⟨w16.heap.size + 1, 0, none⟩ = some (.string (Str ta)) := by
        have h1 := heap_new (w16.alloc (.cells #[.iface 31 (.pointer (some ⟨hb, 0, none⟩))] 68)) (.cells #[.string (Str ta)] 9)
        rw [World.size_alloc] at h1
        have h2 := below_al (below_rf ((w16.alloc (.cells #[.iface 31 (.pointer (some ⟨hb, 0, none⟩))] 68)).alloc (.cells #[.string (Str ta)] 9))) (.cells #[.string (Str tb)] 9)
        rw [hw17, Go.Lib.cell_of_heap ((h2.block (w16.heap.size + 1) (by simp)).trans h1)]; rfl
      have z2 : w17.cell? ⟨w16.heap.size + 2, 0, none⟩ = some (.string (Str tb)) := by
        have h1 := heap_new ((w16.alloc (.cells #[.iface 31 (.pointer (some ⟨hb, 0, none⟩))] 68)).alloc (.cells #[.string (Str ta)] 9)) (.cells #[.string (Str tb)] 9)
        rw [World.size_alloc, World.size_alloc] at h1
        rw [hw17, Go.Lib.cell_of_heap h1]; rfl
      have hb1517 : Below w15.heap.size w15 w17 := hb16.trans (hb17.mono (by omega))
      have hch := changes_any w15.heap.size w16.heap.size (w16.heap.size + 1) (w16.heap.size + 2) hb mb n F HSQ.out ta tb (by omega) (by omega) w17 (by omega) ((hb17.block w15.heap.size (by omega)).trans hx16) ((HH14.out.below hb15).below hb1517) (by rw [← HRE.out, ← HCE.out]; have := HCB.out; omega) z0 z1 z2
      rw [← HRE.out, ← HCE.out] at hch
      have HCH := hid hch
      have HB15 := hid (below_tr HB14.out hb15)
      have HN15 := hid (HN14.out.below hb15)
      have HM15 := hid (HM14.out.below hb15)
      have HX15 := hid (HX14.out.below hb15)
      have HY15 := hid (HY14.out.below hb15)
      have HC15 := hid hr15
      have HB1517 := hid hb1517
      have HZ := hid (show w15.heap.size < w17.heap.size by omega)
      clear hb15 HB14 HN14 HM14 HX14 HY14 hr15 hown15 HH14 HDF ho15 hk15 hC hb16 hx16 hb17 z0 z1 z2 hch hb1517 hz17 hz16
      go_wp2_with fail
      rw [← hw16]
      clear hw16
      (with_reducible refine (changesf_any _ ta tb w16).mono ?_); rintro e w17' ⟨rfl, e17⟩
      rw [← hw17] at e17
      subst e17
      clear hw17
      go_wp2_with fail
      (with_reducible refine HCH.out.mono ?_); rintro e w18 ⟨⟨v18, rfl⟩, v', g1, g2, g3⟩
      have hB1518 := HB1517.out.trans (g3.below (n := w15.heap.size) (by have := HZ.out; omega) (fun k hk e => by omega))
      have HG1 := hid g1
      obtain ⟨A18, c18, rfl⟩ := own_succ g2
      obtain ⟨A18', c18', e18, _, hr18, _, _⟩ := Rd.own' g2
      injection e18 with e1 _ e2
      subst e1; subst e2
      have HR18 := hid hr18
      have HB18 := hid (below_tr HB15.out hB1518)
      have HN18 := hid (HN15.out.below hB1518)
      have HM18 := hid (HM15.out.below hB1518)
      have HX18 := hid (HX15.out.below hB1518)
      have HY18 := hid (HY15.out.below hB1518)
      have HC18 := hid (HC15.out.below hB1518)
      clear g1 g2 g3 hB1518 HB15 HN15 HM15 HX15 HY15 HC15 HB1517 HCH hr18 HZ HRB
      by_cases hk : k15 = 0
      · subst hk
        have HRD := hid (rdiff_any Al Am cl cm x y (by omega) (by omega) w18 HX18.out HY18.out)
        go_wp2_with fail
        (with_reducible refine HRD.out.mono ?_); rintro e w19 ⟨⟨v19, rfl, hown19⟩, hb19⟩
        obtain ⟨D, hD⟩ : ∃ D, D = diffS x y := ⟨_, rfl⟩
        have HLW2 := hid (show NoC (ns ++ ms) (ns ++ ms) → C = D from fun hc => by
          obtain ⟨l', m', h1, h2⟩ := HLW.out hc
          rw [HCE.out, h1, hD, ← h2]; rfl)
        have HDB := hid (show D.length ≤ 4000 by rw [hD]; have h1 := diff_len x y; omega)
        rw [← hD] at hown19
        obtain ⟨A19, c19, rfl, hc19, hr19, _, _⟩ := Rd.own' hown19
        have HSM := hid (Dif.same_any A15 A19 c15 c19 C D (by have := HCB.out; omega) (by have := HDB.out; omega) w19 (HC18.out.below hb19) hr19)
        have HB19 := hid (below_tr HB18.out hb19)
        have HN19 := hid (HN18.out.below hb19)
        have HM19 := hid (HM18.out.below hb19)
        have HC19 := hid (HC18.out.below hb19)
        have HR19 := hid (HR18.out.below hb19)
        have HG19 := hid ((hb19.block w15.heap.size (Array.getElem?_eq_some_iff.1 HG1.out).1).trans HG1.out)
        clear hown19 hr19 hb19 HRD hD HB18 HN18 HM18 HC18 HR18 HG1 HX18 HY18 HLW HCE
        go_wp2_with fail
        (with_reducible refine HSM.out.mono ?_); rintro e w20 ⟨rfl, hb20⟩
        have HBE := hid (below_tr HB19.out hb20)
        have HNE := hid (HN19.out.below hb20)
        have HME := hid (HM19.out.below hb20)
        have HC20 := hid (HC19.out.below hb20)
        have HR20 := hid (HR19.out.below hb20)
        have hg20 := (hb20.block w15.heap.size (Array.getElem?_eq_some_iff.1 HG19.out).1).trans HG19.out
        have q20 : w20.cell? ⟨w15.heap.size, 0, none⟩ = some (.slice A18 C.length c18) := by rw [Go.Lib.cell_of_heap hg20]; rfl
        clear hb20 HSM HB19 HN19 HM19 HC19 HR19 HG19 hg20
        by_cases he : C = D
        · rw [decide_eq_true he]
          have HS2 := hid (Dif.same_any A18 A15 c18 c15 C C (by have := HCB.out; omega) (by have := HCB.out; omega) w20 HR20.out HC20.out)
          clear he HLW2
          go_wp2_with fail
          (with_reducible refine HS2.out.mono ?_); rintro e w21 ⟨rfl, hb21⟩
          have HB21 := hid (below_tr HBE.out hb21)
          rw [show (decide (True : Prop)) = true from rfl]
          clear hb21 HS2
          go_wp2
          go_ret
          exact ⟨rfl, HB21.out⟩
        · rw [decide_eq_false he]
          have HEND := HLW2
          have HQ := hid he
          clear he HLW2 q20
          obtain ⟨wy, hwy⟩ : ∃ wy, wy = (w20).alloc (Obj.cells #[.slice A7 ns.length c7, .slice A9 ms.length c9] 25) := ⟨_, rfl⟩
          have hby : Below (w20).heap.size w20 wy := by rw [hwy]; exact below_al (below_rf _) _
          have hxy : wy.heap[(w20).heap.size]? = some (Obj.cells #[.slice A7 ns.length c7, .slice A9 ms.length c9] 25 (0, 0)) := by rw [hwy]; exact heap_new _ _
          have HCL : Hid (Calls Try.prog 13 #[.slice (some ⟨(w20).heap.size, 0, none⟩) 2 2] wy fun e w' => (∃ r, e = .returned (.bool r) ∧ (r = false → NoC [ns, ms].flatten [ns, ms].flatten)) ∧ Below wy.heap.size wy w') :=
            hid (clash9_any (w20).heap.size 0 2 [ns, ms] (by simp) (by simp; omega) (fun l hl s hs => by
              rcases List.mem_cons.1 hl with e | hl
              · subst e; have := HSHA.out s hs; omega
              · obtain rfl := List.mem_singleton.1 hl; have := HSHB.out s hs; omega) wy (fun j hj => by
              rcases (by simp at hj; omega : j = 0 ∨ j = 1) with rfl | rfl
              · exact ⟨A7, c7, by rw [Go.Lib.cell_of_heap hxy]; rfl, HNE.out.below hby⟩
              · exact ⟨A9, c9, by rw [Go.Lib.cell_of_heap hxy]; rfl, HME.out.below hby⟩))
          have HBF := hid (below_tr HBE.out hby)
          clear hby hxy
          go_wp2_with fail
          rw [← hwy]
          (with_reducible refine HCL.out.mono ?_); rintro e wz ⟨⟨r, rfl, hr⟩, hbz⟩
          cases r with
          | true =>
            go_wp2
            go_ret
            exact ⟨rfl, below_tr HBF.out hbz⟩
          | false => exact absurd (HEND.out (by have := hr rfl; rw [show [ns, ms].flatten = ns ++ ms by simp] at this; exact this)) HQ.out
      · have gk : (k15 == 0) = false := beq_eq_false_iff_ne.2 hk
        have HEND : Hid (NoC (ns ++ ms) (ns ++ ms) → False) := hid (fun hc => by
          obtain ⟨l', m', h1, h2⟩ := HLW.out hc
          exact hk (HK15.out (by rw [h1]; rfl)))
        have HQ : Hid (¬ False) := hid not_false
        have HBE := HB18
        have HNE := HN18
        have HME := HM18
        obtain ⟨wy, hwy⟩ : ∃ wy, wy = (w18).alloc (Obj.cells #[.slice A7 ns.length c7, .slice A9 ms.length c9] 25) := ⟨_, rfl⟩
        have hby : Below (w18).heap.size w18 wy := by rw [hwy]; exact below_al (below_rf _) _
        have hxy : wy.heap[(w18).heap.size]? = some (Obj.cells #[.slice A7 ns.length c7, .slice A9 ms.length c9] 25 (0, 0)) := by rw [hwy]; exact heap_new _ _
        have HCL : Hid (Calls Try.prog 13 #[.slice (some ⟨(w18).heap.size, 0, none⟩) 2 2] wy fun e w' => (∃ r, e = .returned (.bool r) ∧ (r = false → NoC [ns, ms].flatten [ns, ms].flatten)) ∧ Below wy.heap.size wy w') :=
          hid (clash9_any (w18).heap.size 0 2 [ns, ms] (by simp) (by simp; omega) (fun l hl s hs => by
            rcases List.mem_cons.1 hl with e | hl
            · subst e; have := HSHA.out s hs; omega
            · obtain rfl := List.mem_singleton.1 hl; have := HSHB.out s hs; omega) wy (fun j hj => by
            rcases (by simp at hj; omega : j = 0 ∨ j = 1) with rfl | rfl
            · exact ⟨A7, c7, by rw [Go.Lib.cell_of_heap hxy]; rfl, HNE.out.below hby⟩
            · exact ⟨A9, c9, by rw [Go.Lib.cell_of_heap hxy]; rfl, HME.out.below hby⟩))
        have HBF := hid (below_tr HBE.out hby)
        clear hby hxy
        go_wp2_with fail
        rw [← hwy]
        (with_reducible refine HCL.out.mono ?_); rintro e wz ⟨⟨r, rfl, hr⟩, hbz⟩
        cases r with
        | true =>
          go_wp2
          go_ret
          exact ⟨rfl, below_tr HBF.out hbz⟩
        | false => exact absurd (HEND.out (by have := hr rfl; rw [show [ns, ms].flatten = ns ++ ms by simp] at this; exact this)) HQ.out
end Go.Proofs.Ytoidbgedpakjmaa.D10
