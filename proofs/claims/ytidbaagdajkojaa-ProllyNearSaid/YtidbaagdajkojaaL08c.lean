/- ProllyNear: of a map and the same with one pair more the trees have the same leaves ahead of it. -/
import Derived.Test.YtidbaagdajkojaaL08b
import Derived.Test.YtidbaagdajkojaaNear
import Derived.Test.YtidbaagdajkojaaMapB
set_option linter.unusedVariables false
set_option linter.unusedSimpArgs false
namespace Go.Proofs.Ytidbaagdajkojaa.W08
open Go.RowKit Go.Proofs.Ytidbaagdajkojaa.Lib Go.Proofs.Ytidbaagdajkojaa.Sha Go.Proofs.Ytidbaagdajkojaa.T07 Go.Proofs.Ytidbaagdajkojaa.T08 Go.Proofs.Ytidbaagdajkojaa.QTail Go.Proofs.Ytidbaagdajkojaa.Bld Go.Proofs.Ytidbaagdajkojaa.Itms Go.Proofs.Ytidbaagdajkojaa.W07 Go.Proofs.Ytidbaagdajkojaa.WSeq Go.Proofs.Ytidbaagdajkojaa.Ord Go.Proofs.Ytidbaagdajkojaa.Inj Go.Proofs.Ytidbaagdajkojaa.Mp
attribute [local go_sem] Str_size Str_toList Str_extract Str_append Str_get bt_nn bt_lt List.length_append take_rest sha_len two_len
set_option maxRecDepth 100000 in
set_option maxHeartbeats 800000 in
theorem parsew_any (s : List UInt8) (lv : Nat) (P : List Itm) (hs : s.length ≤ 1000000000) (hP : parseS s = some (lv, P)) (w : World) :
    Calls Try.prog 16 #[.string (Str s)] w fun e w' => (∃ v, e = .returned (.tuple #[.int .i64 (lv : Int), v, .bool true]) ∧ w'.ownsRow w.heap.size 42 2 v P.length (its P)) ∧ Below w.heap.size w w' := by
  go_enter Try.func16, Try.ntmps16
  go_wp2_with fail
  refine (parse_any s w hs).mono ?_; rintro e w1 ⟨ho, hb1⟩
  rcases ho with ⟨hn, _⟩ | ⟨lv', P', v, hp, rfl, hown⟩
  · rw [hP] at hn; cases hn
  · rw [hP] at hp
    injection hp with hp; injection hp with e1 e2
    subst e1 e2
    obtain ⟨Av, cv, rfl⟩ := own_succ hown
    have hal : Below w1.heap.size w1 (w1.alloc (Obj.cells #[.int .i64 (lv : Int), .slice Av P.length cv] 58)) := below_al (below_rf w1) _
    have HO := hid (own_of_below hown hal)
    have HB := hid (below_tr hb1 hal)
    clear hown hb1 hal
    go_wp2
    go_quiet (fail)
    go_wp2
    go_ret3
    exact ⟨⟨_, rfl, HO.out⟩, below_drewN HB.out _⟩
theorem parse0_any (s : List UInt8) (P : List Itm) (hs : s.length ≤ 1000000000) (hP : parseS s = some (0, P)) (w : World) :
    Calls Try.prog 16 #[.string (Str s)] w fun e w' => (∃ v, e = .returned (.tuple #[.int .i64 0, v, .bool true]) ∧ w'.ownsRow w.heap.size 42 2 v P.length (its P)) ∧ Below w.heap.size w w' := parsew_any s 0 P hs hP w
set_option maxRecDepth 100000 in
set_option maxHeartbeats 3200000 in
theorem near_any (A : Option Addr) (c : Nat) (l : List Itm) (x : Itm) (hl : l.length ≤ 1000000000000000000) (w : World) (hrd : Rd w A (its l)) (hsh : ∀ i, i < l.length → (itm l i).1.length ≤ 140737488355328 ∧ (itm l i).2.length ≤ 140737488355328) (hx1 : x.1.length ≤ 140737488355328) (hx2 : x.2.length ≤ 140737488355328) :
    Calls Try.prog 5 #[.slice A l.length c, .agg #[.string (Str x.1), .string (Str x.2)]] w fun e w' => e = .returned (.bool true) ∧ Below w.heap.size w w' := by
  obtain ⟨xk, xv⟩ := x
  simp only [] at hx1 hx2 ⊢
  have HA := hid hrd
  have HSA := hid hsh
  clear hrd hsh
  obtain ⟨w0, hw0⟩ : ∃ w0, w0 = w.alloc (Obj.cells #[Value.string (Str xk), Value.string (Str xv)] 38) := ⟨_, rfl⟩
  have hal : Below w.heap.size w w0 := by rw [hw0]; exact below_al (below_rf w) _
  have hc1 : w0.cell? ⟨w.heap.size, 0, none⟩ = some (.string (Str xk)) := by rw [hw0, World.cell?_alloc_at _ _ _ _ rfl]; rfl
  have hc2 : w0.cell? ⟨w.heap.size, 1, none⟩ = some (.string (Str xv)) := by rw [hw0, World.cell?_alloc_at _ _ _ _ rfl]; rfl
  have hz : w.heap.size < w0.heap.size := by rw [hw0]; simp
  have HC1 := hid hc1
  have HC2 := hid hc2
  clear hc1 hc2
  go_enter Try.func5, Try.ntmps5
  go_wp2_with fail
  rw [← hw0]
  clear hw0
  refine (awake_any w0).mono ?_; rintro e w1 ⟨rfl, hb1⟩
  have hB1 := below_tr hal hb1
  go_wp2_with fail
  refine (few_any A c l hl w1 (HA.out.below hB1) HSA.out).mono ?_; rintro e w2 ⟨⟨r, rfl, hfa⟩, hb2⟩
  have hb02 := below_tr hb1 hb2
  have hB2 := below_tr hal hb02
  have hk1 := (hb02.cell (p := ⟨w.heap.size, 0, none⟩) hz).trans HC1.out
  have hk2 := (hb02.cell (p := ⟨w.heap.size, 1, none⟩) hz).trans HC2.out
  cases r with
  | false =>
    go_wp2
    go_ret
    exact ⟨rfl, hB2⟩
  | true =>
    have fa : FewS l := hfa rfl
    by_cases h2 : 2000 < xk.length
    · have g2 : decide ((2000 : Int) < (xk.length : Int)) = true := decide_eq_true (by omega)
      clear h2 hx1
      go_wp2
      go_ret
      exact ⟨rfl, hB2⟩
    · have g2 : decide ((2000 : Int) < (xk.length : Int)) = false := decide_eq_false (by omega)
      by_cases h3 : 8000 < xv.length
      · have g3 : decide ((8000 : Int) < (xv.length : Int)) = true := decide_eq_true (by omega)
        clear h3 hx2
        go_wp2
        go_ret
        exact ⟨rfl, hB2⟩
      · have g3 : decide ((8000 : Int) < (xv.length : Int)) = false := decide_eq_false (by omega)
        have hla := fa.1
        clear hx1 hx2 hfa HSA hl hb1 hb2 hB1
        go_wp2_with fail
        refine (rising_any A c l (by omega) w2 (HA.out.below hB2)).mono ?_; rintro e w3 ⟨⟨v, rfl, hown3⟩, hb3⟩
        have hb03 := below_tr hb02 hb3
        have hB3 := below_tr hB2 hb3
        have hk1' := (hb03.cell (p := ⟨w.heap.size, 0, none⟩) hz).trans HC1.out
        have hk2' := (hb03.cell (p := ⟨w.heap.size, 1, none⟩) hz).trans HC2.out
        obtain ⟨m, hm⟩ : ∃ m, m = risingS l := ⟨_, rfl⟩
        have hm2 : m.length ≤ 200 := by have := rising_len l l.length (Nat.le_refl _); rw [List.take_length, ← hm] at this; omega
        have um : Up m := by rw [hm]; exact rising_up l
        have sm : Shrt m := fun y hy => by rw [hm] at hy; exact few_mem fa y (rising_mem l y hy)
        have hlow : lowK xk (risingS ((xk, xv) :: l)) = lowK xk m := by rw [hm]; exact low_more l (xk, xv)
        have un := rising_up ((xk, xv) :: l)
        have sn : Shrt (risingS ((xk, xv) :: l)) := fun y hy => by
          rcases List.mem_cons.1 (rising_mem _ y hy) with e | h
          · rw [e]; exact ⟨by simp only []; omega, by simp only []; omega⟩
          · exact few_mem fa y h
        have hn2 : (risingS ((xk, xv) :: l)).length ≤ 201 := by
          have := rising_len ((xk, xv) :: l) ((xk, xv) :: l).length (Nat.le_refl _)
          rw [List.take_length, List.length_cons] at this; omega
        have rm := shrt_right m um sm
        have rn := shrt_right _ un sn
        rw [← hm] at hown3
        have hinf := near_info m (risingS ((xk, xv) :: l)) xk um un sm hlow.symm (by omega)
        have hshm := tree_short m (shrt_sm m sm)
        have hshn := tree_short _ (shrt_sm _ sn)
        have hnm := tree_len m (by omega)
        have hnn := tree_len _ (show (risingS ((xk, xv) :: l)).length ≤ 1000000 by omega)
        clear hm um un sm sn hlow fa hb02 hB2 h2 h3
        have hel : ((xk, xv) :: l).length = 1 + l.length := by rw [List.length_cons]; omega
        obtain ⟨n, hn⟩ : ∃ n, n = risingS ((xk, xv) :: l) := ⟨_, rfl⟩
        rw [← hn] at hinf hshn hnn rn hn2
        have HN := hid hn
        clear hn
        obtain ⟨Am, cm, rfl, hcm, hrm, _, _⟩ := Rd.own' hown3
        have HRM := hid hrm
        clear hown3 hrm hb3
        have hon := own_new w3 38 2 [.string (Str xk), .string (Str xv)] (by rfl)
        have hal3 := below_al (below_rf w3) (Obj.cells [Value.string (Str xk), Value.string (Str xv)].toArray 38)
        have hra := (HA.out.below hB3).below hal3
        have HRA := hid hra
        have HON := hid hon
        have HAL := hid hal3
        have HB3 := hid hB3
        have HB03 := hid hb03
        have HZ := hid hz
        clear hra hon hal3 hB3 hb03 hz hal
        go_wp2_with (at_builtin; (refine wpList_appR ti_ritem (.tmp 45) (.tmp 46) (by rfl) (by rfl) w3.heap.size (its l) A l.length c (by rfl) (by rfl) HRA.out HON.out (by rw [its_len]; omega) (its_one _) (by simp) (by omega) ?_
                                  intro A4 c4 w4 ho4 hg4
                                  have hb4 : Below w3.heap.size w3 w4 := HAL.out.grown hg4 (by simp) (fun k hk => own_block_base HON.out k hk)
                                  have HR4 := hid (show Rd w4 A4 (its ((xk, xv) :: l)) from rd_own ho4)
                                  have HB4 := hid hb4
                                  clear ho4 hg4 hb4))
        have hri := rising_any A4 c4 ((xk, xv) :: l) (by rw [hel]; omega) w4 HR4.out
        rw [hel, ← HN.out] at hri
        refine hri.mono ?_; rintro e w5 ⟨⟨v5, rfl, hown5⟩, hb5⟩
        obtain ⟨An, cn, rfl, hcn, hrn, _, _⟩ := Rd.own' hown5
        have hb35 := below_tr HB4.out (hb5.mono (Nat.le_refl _))
        have HRN := hid hrn
        have HB5 := hid hb35
        clear hri hown5 hrn hb5 hb35 hel HN HR4 HA
        go_wp2_with fail
        refine (pairs_any Am cm m (by omega) w5 (HRM.out.below HB5.out)).mono ?_; rintro e w6 ⟨⟨v6, rfl, hown6⟩, hb6⟩
        obtain ⟨Ap, cp, rfl, hcp, hrp, _, _⟩ := Rd.own' hown6
        go_wp2_with fail
        refine (build_any Ap cp m hcp (by omega) w6 (fun b o e => own_low hown6 e) hrp).mono ?_; rintro e w7 ⟨ho7, hb7⟩
        have hb57 := below_tr hb6 hb7
        have HB57 := hid hb57
        clear hown6 hrp hb6 hb7 hb57 hcp
        rcases ho7 with ⟨hf, _⟩ | ⟨_, v7, rfl, hown7⟩
        · rw [rm] at hf; cases hf
        obtain ⟨A7, c7, rfl, hc7, hr7, _, _⟩ := Rd.own' hown7
        have HR7 := hid hr7
        clear hown7 hr7
        go_wp2_with fail
        refine (pairs_any An cn n (by omega) w7 (HRN.out.below HB57.out)).mono ?_; rintro e w8 ⟨⟨v8, rfl, hown8⟩, hb8⟩
        obtain ⟨Aq, cq, rfl, hcq, hrq, _, _⟩ := Rd.own' hown8
        go_wp2_with fail
        refine (build_any Aq cq n hcq (by omega) w8 (fun b o e => own_low hown8 e) hrq).mono ?_; rintro e w9 ⟨ho9, hb9⟩
        have hb79 := below_tr hb8 hb9
        have HB79 := hid hb79
        clear hown8 hrq hb8 hb9 hb79 hcq
        rcases ho9 with ⟨hf, _⟩ | ⟨_, v9, rfl, hown9⟩
        · rw [rn] at hf; cases hf
        obtain ⟨A9, c9, rfl, hc9, hr9, _, _⟩ := Rd.own' hown9
        have hr79 := HR7.out.below HB79.out
        have hb39 := below_tr (below_tr HB5.out HB57.out) HB79.out
        have hb09 := below_tr HB03.out hb39
        have hB9 := below_tr HB3.out hb39
        have hk1 := (hb09.cell (p := ⟨w.heap.size, 0, none⟩) HZ.out).trans HC1.out
        obtain ⟨a, ha⟩ : ∃ a, a = (treeS m).2 := ⟨_, rfl⟩
        obtain ⟨b, hb⟩ : ∃ b, b = (treeS n).2 := ⟨_, rfl⟩
        obtain ⟨ra, hra⟩ : ∃ x, x = (treeS m).1 := ⟨_, rfl⟩
        obtain ⟨rb, hrb⟩ : ∃ x, x = (treeS n).1 := ⟨_, rfl⟩
        rw [← ha, ← hb] at hinf
        rw [← ha] at hshm hnm hr79 ⊢
        rw [← hb] at hshn hnn hr9 ⊢
        rw [← hra, ← hrb]
        obtain ⟨t, lk, hinf⟩ := hinf
        have HI := hid hinf
        have HSM := hid hshm
        have HSN := hid hshn
        have HNA := hid hr79
        have HRB := hid hr9
        have HB9 := hid hB9
        have HC9 := hid hk1
        have HZ9 := hid (Nat.lt_of_lt_of_le HZ.out hb09.size)
        clear ha hb hra hrb hinf hshm hshn hr79 hr9 hB9 hk1 hk1' hk2' hk2 hb39 hb09 hown9 rm rn HR7 HB57 HB79 HB5 HB4 HRN HRM HRA HON HAL HB3 HB03 HZ HC1 HC2 hcn hcm
        have hmm : ∀ W : World, (Instr.makeMap 39 none).run Try.prog W = .ok (.map (some W.heap.size)) (W.alloc (.map #[] 0)) := fun W => by kernel_rfl
        obtain ⟨w10, hw10⟩ : ∃ w10, w10 = w9.alloc (.map #[] 0) := ⟨_, rfl⟩
        have hb10 : Below w9.heap.size w9 w10 := by rw [hw10]; exact below_al (below_rf w9) _
        have hM10 : MapB w10 w9.heap.size 0 (fun _ => false) := by rw [hw10]; exact MapB.made w9
        have HM10 := hid hM10
        clear hM10
        go_wp2
        rw [← hw10]
        clear hw10
        go_loopw [72] (fun i wr => ∃ (k q : Nat) (f : List UInt8 → Bool), k ≤ b.length ∧ q ≤ k ∧ i = .int .i64 (k : Int) ∧ Hid (MapB wr w9.heap.size q f) ∧ Hid (∀ s ∈ b.take k, f s = true) ∧ Below w9.heap.size w9 wr) (fun i _ => b.length - (intOf i).toNat)
        case atStart => exact ⟨0, 0, _, by omega, by omega, rfl, HM10, hid (fun s h => by simp at h), hb10⟩
        case round =>
          obtain ⟨k, q, f, hk, hqk, rfl, HM, HF, hB⟩ := hrel
          by_cases hlt : k < b.length
          · obtain ⟨bb, bo, rfl, hc1⟩ := (HRB.out.below hB).str hlt
            have hsl := HSN.out _ (by rw [sat_eq b k hlt]; exact List.getElem_mem hlt : sat b k ∈ b)
            have htk := take_sat b k hlt
            obtain ⟨s, hs⟩ : ∃ s, s = sat b k := ⟨_, rfl⟩
            rw [← hs] at hc1 hsl htk
            have HTK := hid htk
            obtain ⟨w11, hrun, hM11, hg11⟩ := HM.out.put (by unfold maxLen; omega) s true (by unfold maxLen; omega)
            have hB11 : Below w9.heap.size w9 w11 := hB.grown hg11 hB.size (fun k hk => by injection hk with hk; omega)
            have hnew : ∀ z ∈ b.take (k + 1), putB f s true z = true := by
              intro z hz
              rw [HTK.out] at hz
              unfold putB
              rcases List.mem_append.1 hz with hz | hz
              · split
                · rfl
                · exact HF.out z hz
              · obtain rfl : z = s := by simpa using hz
                rw [if_pos rfl]
            have HNW := hid hnew
            have HM11 := hid hM11
            clear hs htk hnew hM11 hg11 hsl
            go_wp2
            go_roundw
            case rel => exact ⟨k + 1, q + 1, _, by omega, by omega, by go_num, HM11, HNW, hB11⟩
            case measure => simp [intOf]; omega
          · obtain rfl : k = b.length := by omega
            have hall : ∀ s ∈ b, f s = true := fun s hs => HF.out s (by rw [List.take_length]; exact hs)
            have HALL := hid hall
            obtain ⟨wA, rfl⟩ : ∃ z, z = wr := ⟨_, rfl⟩
            have HBA := hid hB
            clear hall HF hB
            go_wp2
            go_loopw [81] (fun i wr => ∃ k : Nat, k ≤ a.length ∧ i = .int .i64 (k : Int) ∧ Hid (k ≤ t) ∧ Hid (∀ j, j < k → ltS (lk j) xk = true) ∧ Below wA.heap.size wA wr) (fun i _ => a.length - (intOf i).toNat)
            case atStart => exact ⟨0, by omega, rfl, hid (Nat.zero_le _), hid (fun j h => by omega), below_rf wA⟩
            case round =>
              obtain ⟨k, hk, rfl, HKT, HLK, hBr⟩ := hrel
              have hB9r := below_tr HBA.out hBr
              by_cases hlt : k < a.length
              · obtain ⟨ab, ao, rfl, hca⟩ := (HNA.out.below hB9r).str hlt
                have hsl := HSM.out _ (by rw [sat_eq a k hlt]; exact List.getElem_mem hlt : sat a k ∈ a)
                by_cases hkt : k < t
                · obtain ⟨P, hP, hP0, hP16, hPl⟩ := HI.out.leaf k hkt
                  obtain ⟨q, hq⟩ : ∃ q, P.length = q + 1 := ⟨P.length - 1, by omega⟩
                  obtain ⟨s, hs⟩ : ∃ s, s = sat a k := ⟨_, rfl⟩
                  rw [← hs] at hca hsl hP
                  have HS := hid hs
                  clear hs
                  go_wp2_with fail
                  refine (parse0_any s P (by omega) hP wr).mono ?_; rintro e w12 ⟨⟨v12, rfl, hown12⟩, hb12⟩
                  obtain ⟨Av, cv, rfl, hcv, hrv, _, _⟩ := Rd.own' hown12
                  obtain ⟨vb, vo, rfl, hv1, hv2⟩ := rd_itm hrv (j := q) (by omega)
                  rw [hq, Nat.add_sub_cancel] at hPl
                  rw [hPl] at hv1
                  rw [hq]
                  have hb9 := below_tr hB9r hb12
                  have hkc := (hb9.cell (p := ⟨w.heap.size, 0, none⟩) HZ9.out).trans HC9.out
                  have HB12 := hid (below_tr hBr hb12)
                  have HB9R := hid hb9
                  obtain ⟨lkk, hlkk⟩ : ∃ x, x = lk k := ⟨_, rfl⟩
                  rw [← hlkk] at hv1
                  have HL := hid hlkk
                  clear hrv hown12 hv2 hP hPl hlkk hb12 hBr hB9r hcv hca
                  have hq15 : q ≤ 15 := by omega
                  clear hP16 hP0 hq
                  have hq0 : ((q : Int) + 1 == 0) = false := beq_eq_false_iff_ne.2 (by omega)
                  cases hcmp : ltS lkk xk with
                  | false =>
                    have hcm2 : Op.bytesLess lkk xk = false := hcmp
                    clear hcmp
                    go_wp2
                    go_quiet (fail)
                    go_wp2
                    go_ret
                    exact ⟨rfl, below_tr HB9.out (below_drewN HB9R.out _)⟩
                  | true =>
                    have hcm2 : Op.bytesLess lkk xk = true := hcmp
                    clear hcmp
                    go_wp2
                    go_quiet (fail)
                    have hb12d := below_drewN HB12.out nq
                    have hb9d := below_drewN HB9R.out nq
                    obtain ⟨w13, hw13⟩ : ∃ w13, w13 = w12.drewN nq := ⟨_, rfl⟩
                    rw [← hw13] at hb12d hb9d ⊢
                    clear hw13
                    have HB13 := hid hb12d
                    have HB93 := hid hb9d
                    have hlk1 : ∀ j, j < k + 1 → ltS (lk j) xk = true := by
                      intro j hj
                      by_cases e : j = k
                      · subst e; rw [← HL.out]; exact hcm2
                      · exact HLK.out j (by omega)
                    have HLK1 := hid hlk1
                    clear hlk1 hb12d hb9d hkc hv1 hq0
                    by_cases hk1 : k + 1 < a.length
                    · have hkb : decide ((k : Int) + 1 < (a.length : Int)) = true := decide_eq_true (by omega)
                      obtain ⟨ab2, ao2, e2, hca2⟩ := (HNA.out.below HB93.out).str hk1
                      injection e2 with e2; injection e2 with e2 e3
                      subst e2 e3
                      have hsl2 := HSM.out _ (by rw [sat_eq a (k + 1) hk1]; exact List.getElem_mem hk1 : sat a (k + 1) ∈ a)
                      by_cases hkt1 : k + 1 < t
                      · obtain ⟨P2, hP2, _, _, _⟩ := HI.out.leaf (k + 1) hkt1
                        have hmem : f s = true := by
                          rw [HS.out]
                          exact HALL.out _ (HI.out.near k hkt1 (fun j hj => HLK1.out j (by omega)))
                        obtain ⟨s2, hs2⟩ : ∃ s, s = sat a (k + 1) := ⟨_, rfl⟩
                        rw [← hs2] at hca2 hsl2 hP2
                        have HMEM := hid hmem
                        have HKT1 := hid hkt1
                        clear hs2 hmem hkt1
                        go_wp2_with fail
                        refine (parse0_any s2 P2 (by omega) hP2 w13).mono ?_; rintro e w14 ⟨⟨v14, rfl, hown14⟩, hb14⟩
                        have hlook := (HM.out.below (below_tr HB13.out hb14)).look s (by unfold maxLen; omega)
                        rw [HMEM.out] at hlook
                        obtain ⟨Ay, cy, rfl⟩ := own_succ hown14
                        have HB14 := hid (below_tr HB13.out hb14)
                        clear hown14 hb14 hca2 hP2
                        go_wp2
                        go_roundw
                        case rel => exact ⟨k + 1, by omega, by go_num, hid (Nat.le_of_lt HKT1.out), HLK1, HB14.out⟩
                        case measure => simp [intOf]; omega
                      · have hkt2 : k + 1 = t := by omega
                        obtain ⟨lv, P2, hP2, _, hlv, _⟩ := HI.out.stop (by rw [← hkt2]; exact hk1)
                        rw [← hkt2] at hP2
                        have hlv1 : 0 < lv := hlv (by omega)
                        have hlvb : ((lv : Int) == 0) = false := beq_eq_false_iff_ne.2 (by omega)
                        have hlvd : decide (lv = 0) = false := decide_eq_false (by omega)
                        obtain ⟨s2, hs2⟩ : ∃ s, s = sat a (k + 1) := ⟨_, rfl⟩
                        rw [← hs2] at hca2 hsl2 hP2
                        have HKT2 := hid hkt2
                        clear hs2 hkt1 hkt2 hlv
                        go_wp2_with fail
                        refine (parsew_any s2 lv P2 (by omega) hP2 w13).mono ?_; rintro e w14 ⟨⟨v14, rfl, hown14⟩, hb14⟩
                        obtain ⟨Ay, cy, rfl⟩ := own_succ hown14
                        have HB14 := hid (below_tr HB13.out hb14)
                        clear hown14 hb14 hca2 hP2
                        go_wp2
                        go_roundw
                        case rel => exact ⟨k + 1, by omega, by go_num, hid (Nat.le_of_eq HKT2.out), HLK1, HB14.out⟩
                        case measure => simp [intOf]; omega
                    · have hkb : decide ((k : Int) + 1 < (a.length : Int)) = false := decide_eq_false (by omega)
                      go_wp2
                      go_roundw
                      case rel => exact ⟨k + 1, by omega, by go_num, hid hkt, HLK1, HB13.out⟩
                      case measure => simp [intOf]; omega
                · obtain rfl : k = t := by have := HKT.out; omega
                  obtain ⟨lv, P, hP, hor, _, hP16⟩ := HI.out.stop hlt
                  obtain ⟨s, hs⟩ : ∃ s, s = sat a k := ⟨_, rfl⟩
                  rw [← hs] at hca hsl hP
                  clear hs
                  go_wp2_with fail
                  refine (parsew_any s lv P (by omega) hP wr).mono ?_; rintro e w12 ⟨⟨v12, rfl, hown12⟩, hb12⟩
                  obtain ⟨Av, cv, rfl⟩ := own_succ hown12
                  have HB9R := hid (below_tr hB9r hb12)
                  clear hown12 hP hb12 hBr hB9r hca
                  by_cases hlv : 0 < lv
                  · have hl1 : decide ((0 : Int) < (lv : Int)) = true := decide_eq_true (by omega)
                    clear hor
                    go_wp2
                    go_quiet (fail)
                    go_wp2
                    go_ret
                    exact ⟨rfl, below_tr HB9.out (below_drewN HB9R.out _)⟩
                  · have hl1 : decide ((0 : Int) < (lv : Int)) = false := decide_eq_false (by omega)
                    have hl0 : lv = 0 := by omega
                    have hp0 : P.length = 0 := by omega
                    subst hl0
                    rw [hp0]
                    clear hor hp0 hP16
                    go_wp2
                    go_quiet (fail)
                    go_wp2
                    go_ret
                    exact ⟨rfl, below_tr HB9.out (below_drewN HB9R.out _)⟩
              · obtain rfl : k = a.length := by omega
                go_wp2
                go_ret
                exact ⟨rfl, below_tr HB9.out hB9r⟩
end Go.Proofs.Ytidbaagdajkojaa.W08
