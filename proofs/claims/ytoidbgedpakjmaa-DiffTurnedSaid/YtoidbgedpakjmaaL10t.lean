/- The law of differences turned round, walked. -/
import Derived.Test.YtoidbgedpakjmaaAw10
import Derived.Test.YtoidbgedpakjmaaL08b
set_option linter.unusedVariables false
set_option linter.unusedSimpArgs false
namespace Go.Proofs.Ytoidbgedpakjmaa.D10
open Go Go.RowKit Go.Proofs.Ytoidbgedpakjmaa.Lib Go.Proofs.Ytoidbgedpakjmaa.Sha Go.Proofs.Ytoidbgedpakjmaa.Itms Go.Proofs.Ytoidbgedpakjmaa.T07 Go.Proofs.Ytoidbgedpakjmaa.T08 Go.Proofs.Ytoidbgedpakjmaa.QTail Go.Proofs.Ytoidbgedpakjmaa.WSeq Go.Proofs.Ytoidbgedpakjmaa.Ord Go.Proofs.Ytoidbgedpakjmaa.W08 Go.Proofs.Ytoidbgedpakjmaa.Dif Go.Proofs.Ytoidbgedpakjmaa.Mp Go.Proofs.Ytoidbgedpakjmaa.Tree Go.Proofs.Ytoidbgedpakjmaa.Bld Go.Proofs.Ytoidbgedpakjmaa.Inj Go.Proofs.Ytoidbgedpakjmaa.W07
attribute [local go_sem] Str_size Str_toList Str_extract
set_option maxRecDepth 100000 in
set_option maxHeartbeats 8000000 in
theorem turned_any (A B : Option Addr) (c d : Nat) (l m : List Itm) (hl : l.length ≤ 1000000000000000000) (hm : m.length ≤ 1000000000000000000) (w : World) (hra : Rd w A (its l)) (hrb : Rd w B (its m)) (hsa : ∀ i, i < l.length → (itm l i).1.length ≤ 140737488355328 ∧ (itm l i).2.length ≤ 140737488355328) (hsb : ∀ i, i < m.length → (itm m i).1.length ≤ 140737488355328 ∧ (itm m i).2.length ≤ 140737488355328) :
    Calls Try.prog 3 #[.slice A l.length c, .slice B m.length d] w fun e w' => e = .returned (.bool true) ∧ Below w.heap.size w w' := by
  have HA := hid hra
  have HB := hid hrb
  have HSA := hid hsa
  have HSB := hid hsb
  clear hra hrb hsa hsb
  go_enter Try.func3, Try.ntmps3
  go_wp2_with fail
  refine (awake10_any w).mono ?_; rintro e w1 ⟨rfl, hb1⟩
  have hB1 := hb1
  go_wp2_with fail
  refine (few_any A c l hl w1 (HA.out.below hB1) HSA.out).mono ?_; rintro e w2 ⟨⟨r, rfl, hfa⟩, hb2⟩
  have hB2 := below_tr hB1 hb2
  cases r with
  | false =>
    go_wp2
    go_ret
    exact ⟨rfl, hB2⟩
  | true =>
    go_wp2_with fail
    refine (few_any B d m hm w2 (HB.out.below hB2) HSB.out).mono ?_; rintro e w3 ⟨⟨r, rfl, hfb⟩, hb3⟩
    have hB3 := below_tr hB2 hb3
    cases r with
    | false =>
      go_wp2
      go_ret
      exact ⟨rfl, hB3⟩
    | true =>
      have fa : FewS l := by simpa using hfa
      have fb : FewS m := by simpa using hfb
      have hla := fa.1
      have hlb := fb.1
      have hqa := map_q l fa
      have hqb := map_q m fb
      clear hb1 hb2 hb3 hB2 hfa hfb HSA HSB hl hm
      go_wp2_with fail
      refine (rising_any A c l (by omega) w3 (HA.out.below hB3)).mono ?_; rintro e w4 ⟨⟨v, rfl, hown4⟩, hb4⟩
      have hB4 := below_tr hB3 hb4
      obtain ⟨x, hx⟩ : ∃ x, x = risingS l := ⟨_, rfl⟩
      obtain ⟨y, hy⟩ : ∃ y, y = risingS m := ⟨_, rfl⟩
      rw [← hx] at hown4 hqa
      rw [← hy] at hqb
      have hxl := hqa.len
      have hyl := hqb.len
      obtain ⟨Al, cl, rfl, hcl, hrl4, _, _⟩ := Rd.own' hown4
      clear hx hown4 hb4
      go_wp2_with fail
      refine (pairs_any Al cl x (by omega) w4 hrl4).mono ?_; rintro e w6 ⟨⟨v6, rfl, hown6⟩, hb6⟩
      obtain ⟨Ap, cp, rfl, hcp, hrp, _, _⟩ := Rd.own' hown6
      have hB6 := below_tr hB4 hb6
      clear hb6 hrl4 hcl
      go_wp2_with fail
      refine (build_any Ap cp x hcp (by omega) w6 (fun b o e => own_low hown6 e) hrp).mono ?_; rintro e w7 ⟨ho7, hb7⟩
      have hB7 := below_tr hB6 hb7
      clear hown6 hrp hb7 hcp hB6
      rcases ho7 with ⟨hf, _⟩ | ⟨_, v7, rfl, hown7⟩
      · rw [hqa.right] at hf; cases hf
      obtain ⟨A7, c7, rfl, hc7, hr7, _, _⟩ := Rd.own' hown7
      clear hown7 hc7 hB4 hB3
      go_wp2_with fail
      refine (rising_any B d m (by omega) w7 (HB.out.below hB7)).mono ?_; rintro e w5 ⟨⟨v', rfl, hown5⟩, hb5⟩
      rw [← hy] at hown5
      obtain ⟨Am, cm, rfl, hcm, hrm5, _, _⟩ := Rd.own' hown5
      clear hy hown5 HA HB fa fb
      have hB5 := below_tr hB7 hb5
      have hr75 := hr7.below hb5
      clear hb5 hr7 hB7
      go_wp2_with fail
      refine (pairs_any Am cm y (by omega) w5 hrm5).mono ?_; rintro e w8 ⟨⟨v8, rfl, hown8⟩, hb8⟩
      obtain ⟨Aq, cq, rfl, hcq, hrq, _, _⟩ := Rd.own' hown8
      have hB8 := below_tr hB5 hb8
      have hr78 := hr75.below hb8
      clear hb8 hrm5 hcm hr75 hB5
      go_wp2_with fail
      refine (build_any Aq cq y hcq (by omega) w8 (fun b o e => own_low hown8 e) hrq).mono ?_; rintro e w11 ⟨ho9, hb9⟩
      have hB11 := below_tr hB8 hb9
      have hr711 := hr78.below hb9
      clear hown8 hrq hb9 hcq hr78 hB8
      rcases ho9 with ⟨hf, _⟩ | ⟨_, v9, rfl, hown9⟩
      · rw [hqb.right] at hf; cases hf
      obtain ⟨A9, c9, rfl, hc9, hr9, _, _⟩ := Rd.own' hown9
      have na := hqa.nodes
      have nb := hqb.nodes
      have ra := hqa.root
      have rb := hqb.root
      have sha1 := hqa.short
      have shb1 := hqb.short
      have hsrc : SrcQ (heapF ((treeS x).2 ++ (treeS y).2)) := SrcQ.heap fun s hs => by
        rcases List.mem_append.1 hs with h | h
        · exact MapQ.src hqa s h
        · exact MapQ.src hqb s h
      have hlaw := diff_law x y hqa hqb
      obtain ⟨ta, hta⟩ : ∃ t, t = (treeS x).1 := ⟨_, rfl⟩
      obtain ⟨tb, htb⟩ : ∃ t, t = (treeS y).1 := ⟨_, rfl⟩
      obtain ⟨ns, hns⟩ : ∃ t, t = (treeS x).2 := ⟨_, rfl⟩
      obtain ⟨ms, hms⟩ : ∃ t, t = (treeS y).2 := ⟨_, rfl⟩
      rw [← hta, ← htb, ← hns, ← hms] at hlaw
      rw [← hns, ← hms] at hsrc
      rw [← hta] at ra ⊢
      rw [← htb] at rb ⊢
      rw [← hns] at na sha1 hr711 ⊢
      rw [← hms] at nb shb1 hr9 ⊢
      have HLAW := hid hlaw
      have HSHA := hid sha1
      have HSHB := hid shb1
      have HR7 := hid hr711
      have HR9 := hid hr9
      have HB11 := hid hB11
      have hal := below_al (below_rf w11) (Obj.cells ([] : List Value).toArray 9)
      have HON := hid (own_fresh w11 w11.heap.size 9 0 1 [] (Nat.le_refl _) (by rfl) (by decide))
      have HR7' := hid (hr711.below hal)
      have HAL := hid hal
      have HSHC := hid (show ∀ s ∈ ns ++ ms, s.length ≤ 3000000 from fun s hs => by
        rcases List.mem_append.1 hs with h | h
        · exact sha1 s h
        · exact shb1 s h)
      have HSRC := hid hsrc
      clear hta htb hns hms hqa hqb hown9 sha1 shb1 hc9 hlaw hr711 hr9 hB11 hal hsrc
      go_wp2_with (at_builtin; first
        | (refine wpList_appR ti_str (.tmp 46) (.tmp 47) (by first | rfl | simp [Region.wanted, yielded]) (by rfl) w11.heap.size (strs ns) A7 ns.length c7 (by rfl) (by rfl) HR7'.out HON.out (by rw [strs_len, Nat.mul_one]) (strs_one _) (by simp) (by omega) ?_
           intro A12 c12 w12 ho12 hg12
           have hb12 : Below w11.heap.size w11 w12 := HAL.out.grown hg12 (by simp) (fun k hk => own_block_base HON.out k hk)
           have HR9'' := hid (HR9.out.below hb12)
           rw [Nat.zero_add] at ho12 ⊢
           have HO12 := hid ho12
           have HB12 := hid hb12
           clear ho12 hg12 hb12)
        | (refine wpList_appR ti_str (.tmp 48) (.tmp 49) (by first | rfl | simp [Region.wanted, yielded]) (by rfl) w11.heap.size (strs ms) A9 ms.length c9 (by rfl) (by rfl) HR9''.out HO12.out (by rw [strs_len, Nat.mul_one]) (strs_one _) HB12.out.size (by omega) ?_
           intro A13 c13 w13 ho13 hg13
           have hb13 : Below w11.heap.size w11 w13 := HB12.out.grown hg13 HB12.out.size (fun k hk => own_block_base HO12.out k hk)
           have hr13 : Rd w13 A13 (strs (ns ++ ms)) := by
             rw [← strs_app]
             exact rd_own ho13
           rw [show ns.length + ms.length = (ns ++ ms).length by simp]
           have HR13 := hid hr13
           have HB13 := hid hb13
           clear ho13 hg13 hr13 hb13))
      obtain ⟨F, hF⟩ : ∃ F, F = heapF (ns ++ ms) := ⟨_, rfl⟩
      have hnh := newheap_gen (ns ++ ms) A13 c13 w13 (by simp; omega) HR13.out HSHC.out
      rw [← hF, List.length_append] at hnh
      have HNH := hid hnh
      have hsrc := HSRC.out
      have hlaw := HLAW.out
      rw [← hF] at hsrc hlaw
      have HSRC := hid hsrc
      have HLAW := hid hlaw
      have HB13' := hid (below_tr HB11.out HB13.out)
      have HN13 := hid (HR7.out.below HB13.out)
      have HM13 := hid (HR9.out.below HB13.out)
      clear hF hnh hsrc hlaw HR13 HB13 HB12 HO12 HR9'' HR7' HON HAL HR7 HR9 HB11
      go_wp2_with fail
      (with_reducible refine HNH.out.mono ?_); rintro e w14 ⟨⟨hb, mb, n, rfl, hH⟩, hb14⟩
      have HH14 := hid hH
      have hlt := heap_lt hH
      have hlt1 := hlt.1
      have hlt2 := hlt.2
      have HDF := hid (diff_any hb mb n F HSRC.out ta tb (by omega) (by omega) w14 hH hlt1 hlt2)
      have HB14 := hid (below_tr HB13'.out hb14)
      have HN14 := hid (HN13.out.below hb14)
      have HM14 := hid (HM13.out.below hb14)
      clear hH hb14 HNH HN13 HM13 HB13' hlt
      go_wp2_with fail
      (with_reducible refine HDF.out.mono ?_); rintro e w15 ⟨ho15, hb15⟩
      have hDF := diff_any hb mb n F HSRC.out tb ta (by omega) (by omega) w15 (HH14.out.below hb15) (by have := hb15.size; omega) (by have := hb15.size; omega)
      rw [rests_swap] at hDF
      have HDF2 := hid hDF
      have HD15 := hid ho15
      have HB15 := hid (below_tr HB14.out hb15)
      have HN15 := hid (HN14.out.below hb15)
      have HM15 := hid (HM14.out.below hb15)
      have HH15 := hid (HH14.out.below hb15)
      obtain ⟨R, hR⟩ : ∃ R, R = restsE F ta tb := ⟨_, rfl⟩
      have HRB := hid (fun l m (h : R = some (l, m)) => SrcQ.restsE HSRC.out (hR ▸ h))
      rw [← hR] at ho15 HDF2 HLAW
      have HL2 := hid HLAW.out
      clear hb15 HDF hDF HH14 HB14 HN14 HM14 HD15 hlt1 hlt2 hR HLAW
      cases R with
      | none =>
        obtain rfl : e = _ := ho15
        have HNO : Hid (NoC (ns ++ ms) (ns ++ ms) → False) := hid (fun hc => by obtain ⟨_, _, h, _⟩ := HL2.out hc; cases h)
        clear HL2
        go_wp2_with fail
        (with_reducible refine HDF2.out.mono ?_); rintro e w16 ⟨ho16, hb16⟩
        obtain rfl : e = _ := ho16
        have HDF3 := hid (diff_eq (.iface 31 (.pointer (some ⟨hb, 0, none⟩))) ta w16)
        have HB16 := hid (below_tr HB15.out hb16)
        have HN16 := hid (HN15.out.below hb16)
        have HM16 := hid (HM15.out.below hb16)
        clear hb16 HDF2 HB15 HN15 HM15
        go_wp2_with fail
        (with_reducible refine HDF3.out.mono ?_); rintro e w17 ⟨ho17, hb17⟩
        obtain ⟨v17, rfl, hown17⟩ := ho17
        obtain ⟨A17, c17, rfl⟩ := own_succ hown17
        have HBE := hid (below_tr HB16.out hb17)
        have HNE := hid (HN16.out.below hb17)
        have HME := hid (HM16.out.below hb17)
        have HEND := HNO
        have HQ : Hid (¬ False) := hid not_false
        clear hb17 hown17 HDF3 HB16 HN16 HM16 HNO
        obtain ⟨wy, hwy⟩ : ∃ wy, wy = (w17).alloc (Obj.cells #[.slice A7 ns.length c7, .slice A9 ms.length c9] 25) := ⟨_, rfl⟩
        have hby : Below (w17).heap.size w17 wy := by rw [hwy]; exact below_al (below_rf _) _
        have hxy : wy.heap[(w17).heap.size]? = some (Obj.cells #[.slice A7 ns.length c7, .slice A9 ms.length c9] 25 (0, 0)) := by rw [hwy]; exact heap_new _ _
        have HCL : Hid (Calls Try.prog 13 #[.slice (some ⟨(w17).heap.size, 0, none⟩) 2 2] wy fun e w' => (∃ r, e = .returned (.bool r) ∧ (r = false → NoC [ns, ms].flatten [ns, ms].flatten)) ∧ Below wy.heap.size wy w') :=
          hid (clash9_any (w17).heap.size 0 2 [ns, ms] (by simp) (by simp; omega) (fun l hl s hs => by
            rcases List.mem_cons.1 hl with e | hl
            · subst e; have := HSHA.out s hs; omega
            · obtain rfl := List.mem_singleton.1 hl; have := HSHB.out s hs; omega) wy (fun j hj => by
            rcases (by simp at hj; omega : j = 0 ∨ j = 1) with rfl | rfl
            · exact ⟨A7, c7, by rw [Go.Lib.cell_of_heap hxy]; rfl, HNE.out.below hby⟩
            · exact ⟨A9, c9, by rw [Go.Lib.cell_of_heap hxy]; rfl, HME.out.below hby⟩))
        have HBF := hid (below_tr HBE.out hby)
        clear hby hxy
        go_wp2_with fail
        rw [← hwy]
        (with_reducible refine HCL.out.mono ?_); rintro e wz ⟨⟨r, rfl, hr⟩, hbz⟩
        cases r with
        | true =>
          go_wp2
          go_ret
          exact ⟨rfl, below_tr HBF.out hbz⟩
        | false => exact absurd (HEND.out (by have := hr rfl; rw [show [ns, ms].flatten = ns ++ ms by simp] at this; exact this)) HQ.out
      | some q =>
        obtain ⟨l', m'⟩ := q
        clear HL2
        obtain ⟨v15, rfl, hown15⟩ := ho15
        obtain ⟨C, hC⟩ : ∃ C, C = diffS l' m' := ⟨_, rfl⟩
        dsimp only at hown15
        rw [← hC] at hown15
        have hDd : diffS m' l' = C.map swp := by rw [hC, diff_swap]
        have HCB := hid (show C.length ≤ 4000000 by rw [hC]; have h1 := diff_len l' m'; obtain ⟨h2, h3⟩ := HRB.out l' m' rfl; omega)
        clear HRB
        obtain ⟨A15, c15, rfl, hc15, hr15, _, _⟩ := Rd.own' hown15
        have HR15 := hid hr15
        clear hown15 hr15 hC
        go_wp2_with fail
        (with_reducible refine HDF2.out.mono ?_); rintro e w16 ⟨ho16, hb16⟩
        obtain ⟨v16, rfl, hown16⟩ := ho16
        dsimp only at hown16
        rw [hDd, List.length_map] at hown16
        obtain ⟨A16, c16, rfl, hc16, hr16, _, _⟩ := Rd.own' hown16
        have HDF3 := hid (diff_eq (.iface 31 (.pointer (some ⟨hb, 0, none⟩))) ta w16)
        have HB16 := hid (below_tr HB15.out hb16)
        have HC16 := hid (HR15.out.below hb16)
        have HD16 := hid hr16
        clear hb16 HDF2 HB15 HN15 HM15 HR15 hr16 hown16 HH15 HSRC hDd
        go_wp2_with fail
        (with_reducible refine HDF3.out.mono ?_); rintro e w17 ⟨ho17, hb17⟩
        obtain ⟨v17, rfl, hown17⟩ := ho17
        dsimp only at hown17
        rw [diff_nil, List.length_nil] at hown17
        obtain ⟨A17, c17, rfl⟩ := own_succ hown17
        have HB17 := hid (below_tr HB16.out hb17)
        have HC17 := hid (HC16.out.below hb17)
        have HD17 := hid (HD16.out.below hb17)
        clear hb17 hown17 HDF3 HB16 HC16 HD16
        have gll : ((C.length : Int) == (C.length : Int)) = true := beq_self_eq_true _
        have glln : ((C.length : Int) != (C.length : Int)) = false := by rw [bne, gll]; rfl
        go_wp2
        go_loopw [104] (fun jv wr => ∃ (j : Nat), j ≤ C.length ∧ jv = .int .i64 (j : Int) ∧ Hid (Below w17.heap.size w17 wr)) (fun jv _ => C.length - (intOf jv).toNat)
        case atStart => exact ⟨0, by omega, rfl, hid (below_rf w17)⟩
        case round =>
          obtain ⟨j, hj, rfl, HBJ⟩ := hrel
          have hcb := HCB.out
          by_cases hlt : j < C.length
          · obtain ⟨ba, oa, rfl, p1, p2, p3, p4, p5⟩ := JoinS.rd_btd (HC17.out.below HBJ.out) hlt
            obtain ⟨bb, ob, rfl, q1, q2, q3, q4, q5⟩ := JoinS.rd_btd (HD17.out.below HBJ.out) (j := j) (by rw [List.length_map]; exact hlt)
            have he : JoinS.btd (C.map swp) j = swp (JoinS.btd C j) := by rw [JoinS.btd_eq _ _ (by rw [List.length_map]; exact hlt), JoinS.btd_eq _ _ hlt, List.getElem_map]
            rw [he] at q1 q2 q3 q4 q5
            obtain ⟨⟨x1, x2, x3, x4, x5⟩, hx⟩ : ∃ x, x = JoinS.btd C j := ⟨_, rfl⟩
            rw [← hx] at p1 p2 p3 p4 p5 q1 q2 q3 q4 q5
            unfold swp at q1 q2 q3 q4 q5
            dsimp only at p1 p2 p3 p4 p5 q1 q2 q3 q4 q5
            obtain ⟨w9, hw9⟩ : ∃ w9, w9 = wr.alloc (Obj.cells #[.string (Str x1), .string (Str x2), .string (Str x3), .bool x4, .bool x5] 39) := ⟨_, rfl⟩
            have hb9 : Below wr.heap.size wr w9 := by rw [hw9]; exact below_al (below_rf wr) _
            have hn9 : w9.heap[wr.heap.size]? = some (Obj.cells #[.string (Str x1), .string (Str x2), .string (Str x3), .bool x4, .bool x5] 39 (0, 0)) := by rw [hw9]; exact heap_new _ _
            have y0 : w9.cell? ⟨wr.heap.size, 0, none⟩ = some (.string (Str x1)) := by rw [Go.Lib.cell_of_heap hn9]; rfl
            have y1 : w9.cell? ⟨wr.heap.size, 1, none⟩ = some (.string (Str x2)) := by rw [Go.Lib.cell_of_heap hn9]; rfl
            have y2 : w9.cell? ⟨wr.heap.size, 2, none⟩ = some (.string (Str x3)) := by rw [Go.Lib.cell_of_heap hn9]; rfl
            have y3 : w9.cell? ⟨wr.heap.size, 3, none⟩ = some (.bool x4) := by rw [Go.Lib.cell_of_heap hn9]; rfl
            have y4 : w9.cell? ⟨wr.heap.size, 4, none⟩ = some (.bool x5) := by rw [Go.Lib.cell_of_heap hn9]; rfl
            have z1 := (hb9.cell (World.block_lt_of_cell? _ _ q1)).trans q1
            have z2 := (hb9.cell (World.block_lt_of_cell? _ _ q2)).trans q2
            have z3 := (hb9.cell (World.block_lt_of_cell? _ _ q3)).trans q3
            have z4 := (hb9.cell (World.block_lt_of_cell? _ _ q4)).trans q4
            have z5 := (hb9.cell (World.block_lt_of_cell? _ _ q5)).trans q5
            have HB9 := hid (below_tr HBJ.out hb9)
            rw [hw9] at y0 y1 y2 y3 y4 z1 z2 z3 z4 z5
            clear hx hb9 hn9 q1 q2 q3 q4 q5 he
            go_wp2
            go_quiet (fail)
            go_wp2
            rw [← hw9]
            go_roundw
            case rel => exact ⟨j + 1, by omega, by go_num, hid (below_drewN HB9.out _)⟩
            case measure => simp [intOf]; omega
          · obtain rfl : j = C.length := by omega
            go_wp2
            go_ret
            exact ⟨rfl, HB17.out.trans (HBJ.out.mono HB17.out.size)⟩
end Go.Proofs.Ytoidbgedpakjmaa.D10
