/- The law of differences of trees that lack nodes, walked. -/
import Derived.Test.YtoidbgedpakjmaaAw10
import Derived.Test.YtoidbgedpakjmaaL08b
import Derived.Test.YtoidbgedpakjmaaR10
import Derived.Test.YtoidbgedpakjmaaR10s
set_option linter.unusedVariables false
set_option linter.unusedSimpArgs false
namespace Go.Proofs.Ytoidbgedpakjmaa.D10
open Go Go.RowKit Go.Proofs.Ytoidbgedpakjmaa.Lib Go.Proofs.Ytoidbgedpakjmaa.Sha Go.Proofs.Ytoidbgedpakjmaa.Itms Go.Proofs.Ytoidbgedpakjmaa.T07 Go.Proofs.Ytoidbgedpakjmaa.T08 Go.Proofs.Ytoidbgedpakjmaa.QTail Go.Proofs.Ytoidbgedpakjmaa.WSeq Go.Proofs.Ytoidbgedpakjmaa.Ord Go.Proofs.Ytoidbgedpakjmaa.W08 Go.Proofs.Ytoidbgedpakjmaa.Dif Go.Proofs.Ytoidbgedpakjmaa.Mp Go.Proofs.Ytoidbgedpakjmaa.Tree Go.Proofs.Ytoidbgedpakjmaa.Bld Go.Proofs.Ytoidbgedpakjmaa.Inj Go.Proofs.Ytoidbgedpakjmaa.W07
attribute [local go_sem] Str_size Str_toList Str_extract
/-- a heap without one text -/
theorem lost_put (al : List (List UInt8)) (o : List UInt8) (j : Nat) (h : j < al.length) : heapF ((al.take (j + 1)).filter (fun s => !(s == o))) = if sat al j = o then heapF ((al.take j).filter (fun s => !(s == o))) else putS (heapF ((al.take j).filter (fun s => !(s == o)))) (sat al j) := by
  rw [take_sat al j h, List.filter_append]
  by_cases e : sat al j = o
  · rw [if_pos e, e]; simp
  · rw [if_neg e]
    have : List.filter (fun s => !(s == o)) [sat al j] = [sat al j] := by rw [List.filter_cons_of_pos (by simpa using e)]; rfl
    rw [this]
    unfold heapF
    rw [List.foldl_append]; rfl
set_option maxRecDepth 100000 in
set_option maxHeartbeats 8000000 in
theorem lost_any (A B : Option Addr) (c d : Nat) (l m : List Itm) (out : Int) (hl : l.length ≤ 1000000000000000000) (hm : m.length ≤ 1000000000000000000) (w : World) (hra : Rd w A (its l)) (hrb : Rd w B (its m)) (hsa : ∀ i, i < l.length → (itm l i).1.length ≤ 140737488355328 ∧ (itm l i).2.length ≤ 140737488355328) (hsb : ∀ i, i < m.length → (itm m i).1.length ≤ 140737488355328 ∧ (itm m i).2.length ≤ 140737488355328) :
    Calls Try.prog 4 #[.slice A l.length c, .slice B m.length d, .int .i64 out] w fun e w' => e = .returned (.bool true) ∧ Below w.heap.size w w' := by
  have HA := hid hra
  have HB := hid hrb
  have HSA := hid hsa
  have HSB := hid hsb
  clear hra hrb hsa hsb
  go_enter Try.func4, Try.ntmps4
  go_wp2_with fail
  refine (awake10_any w).mono ?_; rintro e w1 ⟨rfl, hb1⟩
  have hB1 := hb1
  go_wp2_with fail
  refine (few_any A c l hl w1 (HA.out.below hB1) HSA.out).mono ?_; rintro e w2 ⟨⟨r, rfl, hfa⟩, hb2⟩
  have hB2 := below_tr hB1 hb2
  cases r with
  | false =>
    go_wp2
    go_ret
    exact ⟨rfl, hB2⟩
  | true =>
    go_wp2_with fail
    refine (few_any B d m hm w2 (HB.out.below hB2) HSB.out).mono ?_; rintro e w3 ⟨⟨r, rfl, hfb⟩, hb3⟩
    have hB3 := below_tr hB2 hb3
    cases r with
    | false =>
      go_wp2
      go_ret
      exact ⟨rfl, hB3⟩
    | true =>
      have fa : FewS l := by simpa using hfa
      have fb : FewS m := by simpa using hfb
      have hla := fa.1
      have hlb := fb.1
      have hqa := map_q l fa
      have hqb := map_q m fb
      clear hb1 hb2 hb3 hB2 hfa hfb HSA HSB hl hm
      go_wp2_with fail
      refine (rising_any A c l (by omega) w3 (HA.out.below hB3)).mono ?_; rintro e w4 ⟨⟨v, rfl, hown4⟩, hb4⟩
      have hB4 := below_tr hB3 hb4
      obtain ⟨x, hx⟩ : ∃ x, x = risingS l := ⟨_, rfl⟩
      obtain ⟨y, hy⟩ : ∃ y, y = risingS m := ⟨_, rfl⟩
      rw [← hx] at hown4 hqa
      rw [← hy] at hqb
      have hxl := hqa.len
      have hyl := hqb.len
      obtain ⟨Al, cl, rfl, hcl, hrl4, _, _⟩ := Rd.own' hown4
      clear hx hown4 hb4 hcl hB3
      go_wp2_with fail
      refine (rising_any B d m (by omega) w4 (HB.out.below hB4)).mono ?_; rintro e w5 ⟨⟨v', rfl, hown5⟩, hb5⟩
      have hB5 := below_tr hB4 hb5
      rw [← hy] at hown5
      obtain ⟨Am, cm, rfl, hcm, hrm5, _, _⟩ := Rd.own' hown5
      have hrl5 := hrl4.below hb5
      clear hy hown5 hb5 hcm hB4 hrl4 HA HB fa fb
      go_wp2_with fail
      refine (pairs_any Al cl x (by omega) w5 hrl5).mono ?_; rintro e w6 ⟨⟨v6, rfl, hown6⟩, hb6⟩
      obtain ⟨Ap, cp, rfl, hcp, hrp, _, _⟩ := Rd.own' hown6
      have hB6 := below_tr hB5 hb6
      have hrl6 := hrl5.below hb6
      have hrm6 := hrm5.below hb6
      clear hb6 hrl5 hrm5 hB5
      go_wp2_with fail
      refine (build_any Ap cp x hcp (by omega) w6 (fun b o e => own_low hown6 e) hrp).mono ?_; rintro e w7 ⟨ho7, hb7⟩
      have hB7 := below_tr hB6 hb7
      have hrl7 := hrl6.below hb7
      have hrm7 := hrm6.below hb7
      clear hown6 hrp hb7 hcp hB6 hrl6 hrm6
      rcases ho7 with ⟨hf, _⟩ | ⟨_, v7, rfl, hown7⟩
      · rw [hqa.right] at hf; cases hf
      obtain ⟨A7, c7, rfl, hc7, hr7, _, _⟩ := Rd.own' hown7
      clear hown7 hc7
      go_wp2_with fail
      refine (pairs_any Am cm y (by omega) w7 hrm7).mono ?_; rintro e w8 ⟨⟨v8, rfl, hown8⟩, hb8⟩
      obtain ⟨Aq, cq, rfl, hcq, hrq, _, _⟩ := Rd.own' hown8
      have hB8 := below_tr hB7 hb8
      have hr78 := hr7.below hb8
      have hrl8 := hrl7.below hb8
      have hrm8 := hrm7.below hb8
      clear hb8 hrm7 hrl7 hr7 hB7
      go_wp2_with fail
      refine (build_any Aq cq y hcq (by omega) w8 (fun b o e => own_low hown8 e) hrq).mono ?_; rintro e w11 ⟨ho9, hb9⟩
      have hB11 := below_tr hB8 hb9
      have hr711 := hr78.below hb9
      have HX11 := hid (hrl8.below hb9)
      have HY11 := hid (hrm8.below hb9)
      clear hown8 hrq hb9 hcq hr78 hB8 hrl8 hrm8
      rcases ho9 with ⟨hf, _⟩ | ⟨_, v9, rfl, hown9⟩
      · rw [hqb.right] at hf; cases hf
      obtain ⟨A9, c9, rfl, hc9, hr9, _, _⟩ := Rd.own' hown9
      have na := hqa.nodes
      have nb := hqb.nodes
      have ra := hqa.root
      have rb := hqb.root
      have sha1 := hqa.short
      have shb1 := hqb.short
      have hsrc : ∀ s ∈ (treeS x).2 ++ (treeS y).2, s.length ≤ 3000000 ∧ ∃ v P, parseS s = some (v, P) ∧ cnt v P ≤ 1000 ∧ v ≤ 10 := fun s hs => by
        rcases List.mem_append.1 hs with h | h
        · exact MapQ.src hqa s h
        · exact MapQ.src hqb s h
      have hlaw : NoC ((treeS x).2 ++ (treeS y).2) ((treeS x).2 ++ (treeS y).2) → ∀ qs, (∀ s ∈ qs, s ∈ (treeS x).2 ++ (treeS y).2) → ∀ l m, restsE (heapF qs) (treeS x).1 (treeS y).1 = some (l, m) → diffS l m = diffS x y := fun hc qs hm l m h => lost_law x y hqa hqb hc qs hm h
      obtain ⟨ta, hta⟩ : ∃ t, t = (treeS x).1 := ⟨_, rfl⟩
      obtain ⟨tb, htb⟩ : ∃ t, t = (treeS y).1 := ⟨_, rfl⟩
      obtain ⟨ns, hns⟩ : ∃ t, t = (treeS x).2 := ⟨_, rfl⟩
      obtain ⟨ms, hms⟩ : ∃ t, t = (treeS y).2 := ⟨_, rfl⟩
      rw [← hta, ← htb, ← hns, ← hms] at hlaw
      rw [← hns, ← hms] at hsrc
      rw [← hta] at ra ⊢
      rw [← htb] at rb ⊢
      rw [← hns] at na sha1 hr711 ⊢
      rw [← hms] at nb shb1 hr9 ⊢
      have HLAW := hid hlaw
      have HSHA := hid sha1
      have HSHB := hid shb1
      have HR7 := hid hr711
      have HR9 := hid hr9
      have HB11 := hid hB11
      have hal := below_al (below_rf w11) (Obj.cells ([] : List Value).toArray 9)
      have HON := hid (own_fresh w11 w11.heap.size 9 0 1 [] (Nat.le_refl _) (by rfl) (by decide))
      have HR7' := hid (hr711.below hal)
      have HAL := hid hal
      have HSHC := hid (show ∀ s ∈ ns ++ ms, s.length ≤ 3000000 from fun s hs => by
        rcases List.mem_append.1 hs with h | h
        · exact sha1 s h
        · exact shb1 s h)
      have HSRC := hid hsrc
      clear hta htb hns hms hqa hqb hown9 sha1 shb1 hc9 hlaw hr711 hr9 hB11 hal hsrc
      by_cases hou : 0 ≤ out ∧ out < ((ns.length + ms.length : Nat) : Int)
      rotate_left
      · have hor : out < 0 ∨ ((ns.length + ms.length : Nat) : Int) ≤ out := by omega
        go_wp2_with (at_builtin; first
          | (refine wpList_appR ti_str (.tmp 49) (.tmp 50) (by first | rfl | simp [Region.wanted, yielded]) (by rfl) w11.heap.size (strs ns) A7 ns.length c7 (by rfl) (by rfl) HR7'.out HON.out (by rw [strs_len, Nat.mul_one]) (strs_one _) (by simp) (by omega) ?_
             intro A12 c12 w12 ho12 hg12
             have hb12 : Below w11.heap.size w11 w12 := HAL.out.grown hg12 (by simp) (fun k hk => own_block_base HON.out k hk)
             have HR9'' := hid (HR9.out.below hb12)
             rw [Nat.zero_add] at ho12 ⊢
             have HO12 := hid ho12
             have HB12 := hid hb12
             clear ho12 hg12 hb12)
          | (refine wpList_appR ti_str (.tmp 51) (.tmp 52) (by first | rfl | simp [Region.wanted, yielded]) (by rfl) w11.heap.size (strs ms) A9 ms.length c9 (by rfl) (by rfl) HR9''.out HO12.out (by rw [strs_len, Nat.mul_one]) (strs_one _) HB12.out.size (by omega) ?_
             intro A13 c13 w13 ho13 hg13
             have hb13 : Below w11.heap.size w11 w13 := HB12.out.grown hg13 HB12.out.size (fun k hk => own_block_base HO12.out k hk)
             have hr13 : Rd w13 A13 (strs (ns ++ ms)) := by
               rw [← strs_app]
               exact rd_own ho13
             rw [show ns.length + ms.length = (ns ++ ms).length by simp]
             have HR13 := hid hr13
             have HB13 := hid hb13
             clear ho13 hg13 hr13 hb13))
        all_goals
          have HB13' := below_tr HB11.out HB13.out
          go_ret
          exact ⟨rfl, HB13'⟩
      obtain ⟨hou1, hou2⟩ := hou
      obtain ⟨o, rfl⟩ := Int.eq_ofNat_of_zero_le hou1
      have hoi : o < ns.length + ms.length := by omega
      go_wp2_with (at_builtin; first
        | (refine wpList_appR ti_str (.tmp 49) (.tmp 50) (by first | rfl | simp [Region.wanted, yielded]) (by rfl) w11.heap.size (strs ns) A7 ns.length c7 (by rfl) (by rfl) HR7'.out HON.out (by rw [strs_len, Nat.mul_one]) (strs_one _) (by simp) (by omega) ?_
           intro A12 c12 w12 ho12 hg12
           have hb12 : Below w11.heap.size w11 w12 := HAL.out.grown hg12 (by simp) (fun k hk => own_block_base HON.out k hk)
           have HR9'' := hid (HR9.out.below hb12)
           rw [Nat.zero_add] at ho12 ⊢
           have HO12 := hid ho12
           have HB12 := hid hb12
           clear ho12 hg12 hb12)
        | (refine wpList_appR ti_str (.tmp 51) (.tmp 52) (by first | rfl | simp [Region.wanted, yielded]) (by rfl) w11.heap.size (strs ms) A9 ms.length c9 (by rfl) (by rfl) HR9''.out HO12.out (by rw [strs_len, Nat.mul_one]) (strs_one _) HB12.out.size (by omega) ?_
           intro A13 c13 w13 ho13 hg13
           have hb13 : Below w11.heap.size w11 w13 := HB12.out.grown hg13 HB12.out.size (fun k hk => own_block_base HO12.out k hk)
           have hr13 : Rd w13 A13 (strs (ns ++ ms)) := by
             rw [← strs_app]
             exact rd_own ho13
           rw [show ns.length + ms.length = (ns ++ ms).length by simp]
           have HR13 := hid hr13
           have HB13 := hid hb13
           clear ho13 hg13 hr13 hb13))
      have HB13' := hid (below_tr HB11.out HB13.out)
      have HN13 := hid (HR7.out.below HB13.out)
      have HM13 := hid (HR9.out.below HB13.out)
      have HX13 := hid (HX11.out.below HB13.out)
      have HY13 := hid (HY11.out.below HB13.out)
      obtain ⟨al, hal⟩ : ∃ al, al = ns ++ ms := ⟨_, rfl⟩
      have hr13 := HR13.out
      rw [← hal] at hr13 HSRC HSHC HLAW
      have HAE := hid hal
      have HAL := hid (show al.length = ns.length + ms.length by rw [hal, List.length_append])
      have HR13 := hid hr13
      rw [← HAL.out]
      clear hal hr13 HB13 HB12 HO12 HR9'' HR7' HON HR7 HR9 HB11
      have hoal : o < al.length := by rw [HAL.out]; exact hoi
      have HNH := hid (show Calls Try.prog 11 #[.slice none 0 0] w13 _ from newheap_any [] none 0 w13 (by simp) (Rd.nil _ _) (fun i hi => by simp at hi))
      go_wp2_with fail
      (with_reducible refine HNH.out.mono ?_); rintro e w14 ⟨⟨hb, mb, n0, rfl, hn0, hH, _, hmb⟩, hb14⟩
      have HB14 := hid hb14
      have HH14 := hid hH
      have HMB := hid hmb
      have hn0' : n0 = 0 := by simpa using hn0
      obtain ⟨ob, hob⟩ : ∃ ob, ob = sat al o := ⟨_, rfl⟩
      have HOB := hid hob
      clear hH hb14 hmb HNH hob hn0
      go_wp2
      go_loopw [65] (fun jv wr => ∃ (j n : Nat), j ≤ al.length ∧ jv = .int .i64 (j : Int) ∧ n ≤ j ∧ Hid (Below w13.heap.size w13 wr) ∧ Hid (HeapT wr hb mb n (heapF ((al.take j).filter (fun s => !(s == ob)))))) (fun jv _ => al.length - (intOf jv).toNat)
      case atStart => exact ⟨0, n0, by omega, rfl, by omega, HB14, hid (by rw [List.take_zero]; exact HH14.out)⟩
      case round =>
        obtain ⟨j, n, hj, rfl, hnj, HBJ, HHJ⟩ := hrel
        have hal9 : al.length ≤ 5000 := by have := HAL.out; omega
        by_cases hlt : j < al.length
        · obtain ⟨ba, oa, rfl, p1⟩ := (HR13.out.below HBJ.out).str hlt
          obtain ⟨bb, obb, e2, p2⟩ := (HR13.out.below HBJ.out).str hoal
          injection e2 with e2
          injection e2 with e2 e3
          subst e2; subst e3
          have hst := lost_put al ob j hlt
          have hsl := HSHC.out (sat al j) (by rw [sat_eq al j hlt]; exact List.getElem_mem hlt)
          rw [← HOB.out] at p2
          obtain ⟨x9, hx9⟩ : ∃ x9, x9 = sat al j := ⟨_, rfl⟩
          rw [← hx9] at p1 hst hsl
          clear hx9
          by_cases he : x9 = ob
          · have g1 : (x9 == ob) = true := beq_iff_eq.2 he
            have g1n : (x9 != ob) = false := by rw [bne, g1]; rfl
            rw [if_pos he] at hst
            have HH2 := hid (show HeapT wr hb mb n (heapF ((al.take (j + 1)).filter (fun s => !(s == ob)))) by rw [hst]; exact HHJ.out)
            clear he hst hsl
            go_wp2
            go_roundw
            case rel => exact ⟨j + 1, n, by omega, by go_num, by omega, HBJ, HH2⟩
            case measure => simp [intOf]; omega
          · have g1 : (x9 == ob) = false := beq_eq_false_iff_ne.2 he
            have g1n : (x9 != ob) = true := by rw [bne, g1]; rfl
            rw [if_neg he] at hst
            have HPU := hid (put_any w13.heap.size hb mb n _ x9 (by omega) (by omega) wr HHJ.out HMB.out HBJ.out.size)
            rw [← hst] at HPU
            clear he hst hsl
            go_wp2_with fail
            (with_reducible refine HPU.out.mono ?_); rintro e w15 ⟨rfl, h1, h2, h3⟩
            have HH2 := hid h1
            have HB2 := hid (HBJ.out.trans h2)
            clear h1 h2 h3 HPU
            go_wp2
            go_roundw
            case rel => exact ⟨j + 1, n + 1, by omega, by go_num, by omega, HB2, HH2⟩
            case measure => simp [intOf]; omega
        · obtain rfl : j = al.length := by omega
          have hH := HHJ.out
          rw [List.take_length] at hH
          have hqs : ∀ s ∈ al.filter (fun s => !(s == ob)), s ∈ al := fun s hs => (List.mem_filter.1 hs).1
          have hq : SrcQ (heapF (al.filter (fun s => !(s == ob)))) := SrcQ.heap fun s hs => HSRC.out s (hqs s hs)
          have hlaw : NoC (ns ++ ms) (ns ++ ms) → ∀ l m, restsE (heapF (al.filter (fun s => !(s == ob)))) ta tb = some (l, m) → diffS l m = diffS x y := fun hc => HLAW.out (by rw [HAE.out]; exact hc) _ hqs
          obtain ⟨F, hF⟩ : ∃ F, F = heapF (al.filter (fun s => !(s == ob))) := ⟨_, rfl⟩
          rw [← hF] at hH hq hlaw
          have HDF := hid (diff_any hb mb n F hq ta tb (by omega) (by omega) wr hH (heap_lt hH).1 (heap_lt hH).2)
          have HRB := hid (fun l m (h : restsE F ta tb = some (l, m)) => hq.restsE h)
          obtain ⟨R, hR⟩ : ∃ R, R = restsE F ta tb := ⟨_, rfl⟩
          rw [← hR] at HDF HRB hlaw
          have HLW := hid hlaw
          have HBE := hid (HB13'.out.trans (HBJ.out.mono HB13'.out.size))
          have HNE := hid (HN13.out.below HBJ.out)
          have HME := hid (HM13.out.below HBJ.out)
          have HXE := hid (HX13.out.below HBJ.out)
          have HYE := hid (HY13.out.below HBJ.out)
          clear hH hq hlaw hqs hF hR HHJ HLAW HSRC HR13 HN13 HM13 HX13 HY13 HB13' HAE HSHC HH14 HB14 hn0' HOB HAL hoal
          go_wp2_with fail
          (with_reducible refine HDF.out.mono ?_); rintro e w15 ⟨ho15, hb15⟩
          have HB15 := hid (below_tr HBE.out hb15)
          have HN15 := hid (HNE.out.below hb15)
          have HM15 := hid (HME.out.below hb15)
          have HX15 := hid (HXE.out.below hb15)
          have HY15 := hid (HYE.out.below hb15)
          clear hb15 HDF HNE HME HXE HYE HBE
          cases R with
          | none =>
            obtain rfl : e = _ := ho15
            go_wp2
            go_ret
            exact ⟨rfl, HB15.out⟩
          | some q =>
            obtain ⟨l', m'⟩ := q
            obtain ⟨v15, rfl, hown15⟩ := ho15
            obtain ⟨C, hC⟩ : ∃ C, C = diffS l' m' := ⟨_, rfl⟩
            dsimp only at hown15
            rw [← hC] at hown15
            have hcl := HLW.out
            have HCB := hid (show C.length ≤ 4000000 by rw [hC]; have h1 := diff_len l' m'; obtain ⟨h2, h3⟩ := HRB.out l' m' rfl; omega)
            have HLW2 := hid (show NoC (ns ++ ms) (ns ++ ms) → C = diffS x y from fun hc => by rw [hC]; exact hcl hc l' m' rfl)
            obtain ⟨A15, c15, rfl, hc15, hr15, _, _⟩ := Rd.own' hown15
            have HR15 := hid hr15
            have HRD := hid (rdiff_any Al Am cl cm x y (by omega) (by omega) w15 HX15.out HY15.out)
            clear hown15 hr15 hC hcl HLW HRB HX15 HY15
            go_wp2_with fail
            (with_reducible refine HRD.out.mono ?_); rintro e w16 ⟨⟨v16, rfl, hown16⟩, hb16⟩
            obtain ⟨D, hD⟩ : ∃ D, D = diffS x y := ⟨_, rfl⟩
            have HDB := hid (show D.length ≤ 4000 by rw [hD]; have h1 := diff_len x y; omega)
            rw [← hD] at hown16 HLW2
            obtain ⟨A16, c16, rfl, hc16, hr16, _, _⟩ := Rd.own' hown16
            have HSM := hid (Dif.same_any A15 A16 c15 c16 C D (by have := HCB.out; omega) (by have := HDB.out; omega) w16 (HR15.out.below hb16) hr16)
            have HB16 := hid (below_tr HB15.out hb16)
            have HN16 := hid (HN15.out.below hb16)
            have HM16 := hid (HM15.out.below hb16)
            clear hown16 hr16 hb16 HRD hD HB15 HN15 HM15 HR15
            go_wp2_with fail
            (with_reducible refine HSM.out.mono ?_); rintro e w17 ⟨rfl, hb17⟩
            have HBE := hid (below_tr HB16.out hb17)
            have HNE := hid (HN16.out.below hb17)
            have HME := hid (HM16.out.below hb17)
            clear hb17 HSM HB16 HN16 HM16
            by_cases he : C = D
            · rw [decide_eq_true he]
              clear he HLW2
              go_wp2
              go_ret
              exact ⟨rfl, HBE.out⟩
            · rw [decide_eq_false he]
              have HEND := HLW2
              have HQ := hid he
              clear he HLW2
              obtain ⟨wy, hwy⟩ : ∃ wy, wy = (w17).alloc (Obj.cells #[.slice A7 ns.length c7, .slice A9 ms.length c9] 25) := ⟨_, rfl⟩
              have hby : Below (w17).heap.size w17 wy := by rw [hwy]; exact below_al (below_rf _) _
              have hxy : wy.heap[(w17).heap.size]? = some (Obj.cells #[.slice A7 ns.length c7, .slice A9 ms.length c9] 25 (0, 0)) := by rw [hwy]; exact heap_new _ _
              have HCL : Hid (Calls Try.prog 13 #[.slice (some ⟨(w17).heap.size, 0, none⟩) 2 2] wy fun e w' => (∃ r, e = .returned (.bool r) ∧ (r = false → NoC [ns, ms].flatten [ns, ms].flatten)) ∧ Below wy.heap.size wy w') :=
                hid (clash9_any (w17).heap.size 0 2 [ns, ms] (by simp) (by simp; omega) (fun l hl s hs => by
                  rcases List.mem_cons.1 hl with e | hl
                  · subst e; have := HSHA.out s hs; omega
                  · obtain rfl := List.mem_singleton.1 hl; have := HSHB.out s hs; omega) wy (fun j hj => by
                  rcases (by simp at hj; omega : j = 0 ∨ j = 1) with rfl | rfl
                  · exact ⟨A7, c7, by rw [Go.Lib.cell_of_heap hxy]; rfl, HNE.out.below hby⟩
                  · exact ⟨A9, c9, by rw [Go.Lib.cell_of_heap hxy]; rfl, HME.out.below hby⟩))
              have HBF := hid (below_tr HBE.out hby)
              clear hby hxy
              go_wp2_with fail
              rw [← hwy]
              (with_reducible refine HCL.out.mono ?_); rintro e wz ⟨⟨r, rfl, hr⟩, hbz⟩
              cases r with
              | true =>
                go_wp2
                go_ret
                exact ⟨rfl, below_tr HBF.out hbz⟩
              | false => exact absurd (HEND.out (by have := hr rfl; rw [show [ns, ms].flatten = ns ++ ms by simp] at this; exact this)) HQ.out
end Go.Proofs.Ytoidbgedpakjmaa.D10
