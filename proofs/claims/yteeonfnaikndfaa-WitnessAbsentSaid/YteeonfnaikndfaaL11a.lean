/- The law that a key's absence is proved, walked. -/
import Derived.Test.YteeonfnaikndfaaL11
import Derived.Test.YteeonfnaikndfaaWitw
import Derived.Test.YteeonfnaikndfaaW09c
import Derived.Deep.CutRange
import Derived.Deep.DeepCutAuto
set_option linter.unusedVariables false
set_option linter.unusedSimpArgs false
namespace Go.Proofs.Yteeonfnaikndfaa.W11
open Go Go.RowKit Go.Proofs.Yteeonfnaikndfaa.Lib Go.Proofs.Yteeonfnaikndfaa.Sha Go.Proofs.Yteeonfnaikndfaa.T07 Go.Proofs.Yteeonfnaikndfaa.T08 Go.Proofs.Yteeonfnaikndfaa.QTail Go.Proofs.Yteeonfnaikndfaa.Itms Go.Proofs.Yteeonfnaikndfaa.WSeq Go.Proofs.Yteeonfnaikndfaa.Ord Go.Proofs.Yteeonfnaikndfaa.Tree Go.Proofs.Yteeonfnaikndfaa.W08 Go.Proofs.Yteeonfnaikndfaa.Wit Go.Proofs.Yteeonfnaikndfaa.W01 Go.Proofs.Yteeonfnaikndfaa.Bld Go.Proofs.Yteeonfnaikndfaa.Mp Go.Proofs.Yteeonfnaikndfaa.Inj
open Go.Proofs.Yteeonfnaikndfaa.Run hiding round_any yield_any
attribute [local go_sem] Str_size Str_toList Str_extract
theorem less_snoc (m : List Itm) (key : List UInt8) (k : Nat) (h : k < m.length) : lessS (m.take (k + 1)) key = lessS (m.take k) key ++ if (itm m k).1 = key then [] else [itm m k] := by
  rw [take_itm m k h]
  unfold lessS
  rw [List.filter_append]
  by_cases e : (itm m k).1 = key
  · rw [if_pos e, List.filter_cons_of_neg (by simpa using e)]; rfl
  · rw [if_neg e, List.filter_cons_of_pos (by simpa using e)]; rfl
set_option maxRecDepth 100000 in
set_option maxHeartbeats 8000000 in
theorem absent_any (A : Option Addr) (c : Nat) (l : List Itm) (xk xv : List UInt8) (hl : l.length ≤ 1000000000000000000) (w : World) (hrd : Rd w A (its l)) (hsh : ∀ i, i < l.length → (itm l i).1.length ≤ 140737488355328 ∧ (itm l i).2.length ≤ 140737488355328) (hxk : xk.length ≤ 140737488355328) (hxv : xv.length ≤ 140737488355328) :
    Calls Try.prog 6 #[.slice A l.length c, .agg #[.string (Str xk), .string (Str xv)]] w fun e w' => e = .returned (.bool true) ∧ Below w.heap.size w w' := by
  have HA := hid hrd
  have HSA := hid hsh
  clear hrd hsh
  obtain ⟨w0, hw0⟩ : ∃ w0, w0 = w.alloc (Obj.cells #[Value.string (Str xk), Value.string (Str xv)] 27) := ⟨_, rfl⟩
  have hal : Below w.heap.size w w0 := by rw [hw0]; exact below_al (below_rf w) _
  have hkb : w0.heap[w.heap.size]? = some (Obj.cells #[Value.string (Str xk), Value.string (Str xv)] 27 (0, 0)) := by rw [hw0]; exact heap_new w _
  have hbc : ∀ W, Below w0.heap.size w0 W → W.cell? ⟨w.heap.size, 0, none⟩ = some (.string (Str xk)) ∧ W.cell? ⟨w.heap.size, 1, none⟩ = some (.string (Str xv)) := fun W hW => by
    have h := (hW.block w.heap.size (Array.getElem?_eq_some_iff.1 hkb).1).trans hkb
    exact ⟨by rw [Go.Lib.cell_of_heap h]; rfl, by rw [Go.Lib.cell_of_heap h]; rfl⟩
  have HBC := hid hbc
  have HAL := hid hal
  clear hkb hbc hal
  go_enter Try.func6, Try.ntmps6
  go_wp2_with fail
  rw [← hw0]
  clear hw0
  refine (awake11_any w0).mono ?_; rintro e w1 ⟨rfl, hb1⟩
  go_wp2_with fail
  refine (few_any A c l hl w1 (HA.out.below (below_tr HAL.out hb1)) HSA.out).mono ?_; rintro e w2 ⟨⟨r, rfl, hfa⟩, hb2⟩
  have hb02 := below_tr hb1 hb2
  obtain ⟨k0, k1⟩ := HBC.out w2 hb02
  have HB02 := hid hb02
  have HB2 := hid (HAL.out.trans (hb02.mono HAL.out.size))
  clear hb1 hb2 hb02
  cases r with
  | false =>
    go_wp2
    go_ret
    exact ⟨rfl, HB2.out⟩
  | true =>
    have fa : FewS l := hfa rfl
    by_cases h1 : 2000 < xk.length
    · have g1 : decide ((2000 : Int) < (xk.length : Int)) = true := decide_eq_true (by omega)
      clear h1 hfa fa
      go_wp2
      go_ret
      exact ⟨rfl, HB2.out⟩
    · have g1 : decide ((2000 : Int) < (xk.length : Int)) = false := decide_eq_false (by omega)
      by_cases h2 : 8000 < xv.length
      · have g2 : decide ((8000 : Int) < (xv.length : Int)) = true := decide_eq_true (by omega)
        clear h1 h2 hfa fa
        go_wp2
        go_ret
        exact ⟨rfl, HB2.out⟩
      · have g2 : decide ((8000 : Int) < (xv.length : Int)) = false := decide_eq_false (by omega)
        have hla := fa.1
        have hq1 := less_q l fa xk
        have hq2 := more_q l fa (xk, xv) (by show xk.length ≤ 2000; omega) (by show xv.length ≤ 8000; omega)
        have hlaw := absent_law l fa (xk, xv) (by show xk.length ≤ 2000; omega) (by show xv.length ≤ 8000; omega) _ _ rfl rfl
        have hul := less_few l fa xk
        have hml := rising_len l l.length (Nat.le_refl _)
        rw [List.take_length] at hml
        have hml2 : (risingS l).length ≤ 200 := by omega
        obtain ⟨m, hm⟩ : ∃ m, m = risingS l := ⟨_, rfl⟩
        have hri := rising_any A c l (by omega) w2 (HA.out.below HB2.out)
        rw [← hm] at hq1 hq2 hlaw hul hml hml2 hri
        have HRI := hid hri
        clear h1 h2 hfa hm fa hri hl hxk hxv
        go_wp2_with fail
        (with_reducible refine HRI.out.mono ?_); rintro e w3 ⟨⟨v, rfl, hown3⟩, hb3⟩
        obtain ⟨Am, cm, rfl, hcm, hrm, _, _⟩ := Rd.own' hown3
        have HRM := hid hrm
        have HB03 := hid (below_tr HB02.out hb3)
        have HLAW := hid hlaw
        have HQ1 := hid hq1
        have HQ2 := hid hq2
        clear k0 k1 hown3 hrm hb3 HRI HA HSA hla hcm hlaw hq1 hq2
        go_wp2
        go_loopw [5, 51] (fun uv jv wr => ∃ (k : Nat) (acc : List Itm), k ≤ m.length ∧ jv = .int .i64 (k : Int) ∧ Hid (acc = lessS (m.take k) xk) ∧ acc.length ≤ k ∧ wr.ownsRow w3.heap.size 27 2 uv acc.length (its acc) ∧ Hid (Below w3.heap.size w3 wr)) (fun _ jv _ => m.length - (intOf jv).toNat)
        case atStart => exact ⟨0, [], by omega, rfl, hid rfl, by simp, own_nil _ _ _ _, hid (below_rf w3)⟩
        case round =>
          obtain ⟨k, acc, hk, rfl, HACC, hak, hown, HB⟩ := hrel
          by_cases hlt : k < m.length
          · obtain ⟨bm, om, rfl, hc1, hc2⟩ := rd_itm (HRM.out.below HB.out) hlt
            have hsn := less_snoc m xk k hlt
            obtain ⟨⟨yk, yv⟩, hy⟩ : ∃ y, y = itm m k := ⟨_, rfl⟩
            rw [← hy] at hc1 hc2 hsn
            dsimp only at hc1 hc2 hsn
            obtain ⟨w5, hw5⟩ : ∃ w5, w5 = wr.alloc (Obj.cells #[.string (Str yk), .string (Str yv)] 27) := ⟨_, rfl⟩
            have hb5 : Below wr.heap.size wr w5 := by rw [hw5]; exact below_al (below_rf wr) _
            have hy5 : w5.heap[wr.heap.size]? = some (Obj.cells #[.string (Str yk), .string (Str yv)] 27 (0, 0)) := by rw [hw5]; exact heap_new _ _
            have y0 : w5.cell? ⟨wr.heap.size, 0, none⟩ = some (.string (Str yk)) := by rw [Go.Lib.cell_of_heap hy5]; rfl
            have y1 : w5.cell? ⟨wr.heap.size, 1, none⟩ = some (.string (Str yv)) := by rw [Go.Lib.cell_of_heap hy5]; rfl
            have HB5 := hid (below_tr HB.out hb5)
            obtain ⟨x0, x1⟩ := HBC.out w5 (below_tr HB03.out HB5.out)
            have HOW5 := hid (own_of_below hown hb5)
            rw [hw5] at x0 x1 y0 y1
            clear hy hb5 hy5 hown
            by_cases he : yk = xk
            · have g9 : (yk == xk) = true := beq_iff_eq.2 he
              have g9n : (yk != xk) = false := by rw [bne, g9]; rfl
              have HA2 := hid (show acc = lessS (m.take (k + 1)) xk by rw [hsn, if_pos he, List.append_nil]; exact HACC.out)
              clear he hsn
              go_wp2
              rw [← hw5]
              go_roundw
              case rel => exact ⟨k + 1, acc, by omega, by go_num, HA2, by omega, HOW5.out, HB5⟩
              case measure => simp [intOf]; omega
            · have g9 : (yk == xk) = false := beq_eq_false_iff_ne.2 he
              have g9n : (yk != xk) = true := by rw [bne, g9]; rfl
              have HA2 := hid (show acc ++ [(yk, yv)] = lessS (m.take (k + 1)) xk by rw [hsn, if_neg he, HACC.out])
              clear he hsn
              have HZ5 : Hid (w5.heap.size = wr.heap.size + 1) := hid (by rw [hw5]; simp)
              go_wp2_with (at_builtin; (rw [← hw5]; (refine wpList_appN ti_ritem (.tmp 60) (.tmp 62) (by rfl) (by rfl) w3.heap.size [.string (Str yk), .string (Str yv)] 27 1 1 (by rfl) (by rw [HZ5.out]; rfl) HOW5.out (by rfl) (by simp [Value.oneCell']) HB5.out HB5.out.size (by omega) ?_); intro A7 c7 w7 ho7 hg7 hB7 hs7))
              go_wp2
              go_roundw
              case rel => exact ⟨k + 1, acc ++ [(yk, yv)], by omega, by go_num, HA2, by simp; omega, by rw [its_app, List.length_append]; exact ho7, hid hB7⟩
              case measure => simp [intOf]; omega
          · obtain rfl : k = m.length := by omega
            rw [List.take_length] at HACC
            have hu := HACC.out
            have hacc2 : acc.length ≤ 200 := by rw [hu]; exact hul
            obtain ⟨Au, cu, rfl, hcu, hru, _, _⟩ := Rd.own' hown
            obtain ⟨w4, rfl⟩ : ∃ w4, w4 = wr := ⟨_, rfl⟩
            have hqu : MapQ acc := by rw [hu]; exact HQ1.out
            have hqv : MapQ (risingS ((xk, xv) :: acc)) := by rw [hu]; exact HQ2.out
            have hlaw2 := HLAW.out
            rw [← hu] at hlaw2
            obtain ⟨vv, hvv⟩ : ∃ vv, vv = risingS ((xk, xv) :: acc) := ⟨_, rfl⟩
            rw [← hvv] at hqv hlaw2
            have hel : ((xk, xv) :: acc).length = 1 + acc.length := by rw [List.length_cons]; omega
            have hb4w := below_tr HB03.out HB.out
            obtain ⟨x0, x1⟩ := HBC.out w4 hb4w
            have hon := own_new w4 27 2 [.string (Str xk), .string (Str xv)] (by rfl)
            have hal4 := below_al (below_rf w4) (Obj.cells [Value.string (Str xk), Value.string (Str xv)].toArray 27)
            have HRA := hid (hru.below hal4)
            have HON := hid hon
            have HAL4 := hid hal4
            have HRU := hid hru
            have HB4 := hid hb4w
            have HVV := hid hvv
            have HQU := hid hqu
            have HQV := hid hqv
            have HLAW2 := hid hlaw2
            clear hu hown hqu hqv hlaw2 hvv hb4w hon hal4 hru HLAW HQ1 HQ2 HACC HRM hlt hak hul hml
            go_wp2_with (at_builtin; (refine wpList_appR ti_ritem (.tmp 66) (.tmp 67) (by rfl) (by rfl) w4.heap.size (its acc) Au acc.length cu (by rfl) (by rfl) HRA.out HON.out (by rw [its_len]; omega) (its_one _) (by simp) (by omega) ?_
                                      intro A5 c5 w5 ho5 hg5
                                      have hb5 : Below w4.heap.size w4 w5 := HAL4.out.grown hg5 (by simp) (fun k hk => own_block_base HON.out k hk)
                                      have HR5 := hid (show Rd w5 A5 (its ((xk, xv) :: acc)) from rd_own ho5)
                                      have HB5 := hid hb5
                                      clear ho5 hg5 hb5))
            have hri := rising_any A5 c5 ((xk, xv) :: acc) (by rw [hel]; omega) w5 HR5.out
            rw [hel, ← HVV.out] at hri
            refine hri.mono ?_; rintro e w6 ⟨⟨v6, rfl, hown6⟩, hb6⟩
            obtain ⟨Av, cv, rfl, hcv, hrv, _, _⟩ := Rd.own' hown6
            have hb46 := below_tr HB5.out (hb6.mono (Nat.le_refl _))
            have HRV := hid hrv
            have HB06 := hid (below_tr HB4.out hb46)
            have HRU6 := hid (HRU.out.below hb46)
            clear hri hown6 hrv hb6 hb46 hel HVV HR5 HON HAL4 HRA hcv hcu
            go_wp2_with fail
            refine (pairs_any Au cu acc (by omega) w6 HRU6.out).mono ?_; rintro e w7 ⟨⟨v7, rfl, hown7⟩, hb7⟩
            obtain ⟨Ap, cp, rfl, hcp, hrp, _, _⟩ := Rd.own' hown7
            go_wp2_with fail
            refine (build_any Ap cp acc hcp (by omega) w7 (fun b o e => own_low hown7 e) hrp).mono ?_; rintro e w8 ⟨ho8, hb8⟩
            have hb68 := below_tr hb7 hb8
            have HB08 := hid (below_tr HB06.out hb68)
            have HRV8 := hid (HRV.out.below hb68)
            clear hown7 hrp hb7 hb8 hb68 hcp HRV
            have hvl := HQV.out.len
            rcases ho8 with ⟨hf, _⟩ | ⟨_, v8, rfl, hown8⟩
            · rw [HQU.out.right] at hf; cases hf
            obtain ⟨A9, c9, rfl, hc9, hr9, _, _⟩ := Rd.own' hown8
            have HR9 := hid hr9
            clear hown8 hr9 hc9
            go_wp2_with fail
            refine (pairs_any Av cv vv (by omega) w8 HRV8.out).mono ?_; rintro e w9 ⟨⟨v9, rfl, hown9⟩, hb9⟩
            obtain ⟨Aq, cq, rfl, hcq, hrq, _, _⟩ := Rd.own' hown9
            go_wp2_with fail
            refine (build_any Aq cq vv hcq (by omega) w9 (fun b o e => own_low hown9 e) hrq).mono ?_; rintro e w10 ⟨ho10, hb10⟩
            have hb810 := below_tr hb9 hb10
            have HB010 := hid (below_tr HB08.out hb810)
            have HR910 := hid (HR9.out.below hb810)
            clear hown9 hrq hb9 hb10 hb810 hcq HR9 HRV8
            rcases ho10 with ⟨hf, _⟩ | ⟨_, v10, rfl, hown10⟩
            · rw [HQV.out.right] at hf; cases hf
            obtain ⟨A11, c11, rfl, hc11, hr11, _, _⟩ := Rd.own' hown10
            have HR11 := hid hr11
            have na := HQU.out.nodes
            have nb := HQV.out.nodes
            have ra := HQU.out.root
            have rb := HQV.out.root
            have HSHA := hid HQU.out.short
            have HSHB := hid HQV.out.short
            have HFA := hid HQU.out.hf
            have HFB := hid HQV.out.hf
            have hlw := HLAW2.out
            obtain ⟨ta, hta⟩ : ∃ t, t = (treeS acc).1 := ⟨_, rfl⟩
            obtain ⟨tb, htb⟩ : ∃ t, t = (treeS vv).1 := ⟨_, rfl⟩
            obtain ⟨ns, hns⟩ : ∃ t, t = (treeS acc).2 := ⟨_, rfl⟩
            obtain ⟨ms, hms⟩ : ∃ t, t = (treeS vv).2 := ⟨_, rfl⟩
            rw [← hta] at ra hlw ⊢
            rw [← htb] at rb hlw ⊢
            rw [← hns] at na HSHA HFA hlw HR910 ⊢
            rw [← hms] at nb HSHB HFB hlw HR11 ⊢
            have HLW := hid hlw
            clear hlw HLAW2 hta htb hns hms HQU HQV hown10 hr11 hc11 hvl HB08 HB06 HRU HRU6 x0 x1
            obtain ⟨x0, x1⟩ := HBC.out w10 HB010.out
            have HN10 : Hid (Rd w10.drew A9 (strs ns)) := hid (HR910.out.drewN 1)
            have hz10 : w.heap.size < w10.heap.size := (World.block_lt_of_cell? _ _ x0)
            go_upto_region 15 with fail
            go_cut [15, 16] from 84 to 93 (fun pv ev wx => pv = .string (Str (proveP (heapF ns) ta xk)) ∧ (∃ k : Int, ev = .int .i64 k ∧ ((wayS (srcNx (heapF ns)) xk () ta).isSome = true → k = 0)) ∧ Below w10.heap.size w10 wx)
            case first =>
              go_region_with (first
                | (go_at_call 22; (with_reducible refine (newheap_gen ns A9 c9 w10.drew (by omega) HN10.out HSHA.out).mono ?_); rintro e w11 ⟨⟨hb, mb, n, rfl, hH⟩, hb11⟩; have HH11 := hid hH; have HB11 := hid hb11; have p1 : w11.cell? ⟨w.heap.size, 0, none⟩ = some (.string (Str xk)) := (hb11.cell (p := ⟨w.heap.size, 0, none⟩) hz10).trans x0; clear hH hb11)
                | (go_at_call 21; (with_reducible refine (prove_gen _ _ _ (heapF ns) HFA.out ta xk (by omega) _ HH11.out).mono ?_); rintro e w12 ⟨⟨pk, rfl, hpk⟩, hb12⟩; have HB12 := hid hb12; clear hb12))
              all_goals
                go_wp2_with fail
                go_meet
                exact ⟨rfl, ⟨pk, rfl, hpk⟩, (show Below w10.heap.size w10 w10.drew from below_drewN (below_rf w10) 1).trans (HB11.out.trans (HB12.out.mono HB11.out.size))⟩
            case rest =>
              obtain ⟨rfl, ⟨kp, rfl, hkp⟩, hbcut⟩ := hcut
              obtain ⟨w12, rfl⟩ : ∃ w12, w12 = wc := ⟨_, rfl⟩
              have HB012 := hid (below_tr HB010.out hbcut)
              have HR912 := hid (HR910.out.below hbcut)
              have HR1112 := hid (HR11.out.below hbcut)
              have HN11 : Hid (Rd w12.drew A11 (strs ms)) := hid (HR1112.out.drewN 1)
              obtain ⟨pf, hpf⟩ : ∃ pf, pf = proveP (heapF ns) ta xk := ⟨_, rfl⟩
              rw [← hpf] at HLW ⊢
              have HKP := hid hkp
              clear hbcut hpf hkp HR910 HR11 HN10 HB010 hz10 x0 x1
              obtain ⟨x0, x1⟩ := HBC.out w12 HB012.out
              have hz12 : w.heap.size < w12.heap.size := (World.block_lt_of_cell? _ _ x0)
              go_upto_region 16 with fail
              go_cut [17, 18] from 94 to 103 (fun pv ev wx => pv = .string (Str (proveP (heapF ms) tb xk)) ∧ (∃ k : Int, ev = .int .i64 k ∧ ((wayS (srcNx (heapF ms)) xk () tb).isSome = true → k = 0)) ∧ Below w12.heap.size w12 wx)
              case first =>
                go_region_with (first
                  | (go_at_call 22; (with_reducible refine (newheap_gen ms A11 c11 w12.drew (by omega) HN11.out HSHB.out).mono ?_); rintro e w13 ⟨⟨hb, mb, n, rfl, hH⟩, hb13⟩; have HH13 := hid hH; have HB13 := hid hb13; have p1 : w13.cell? ⟨w.heap.size, 0, none⟩ = some (.string (Str xk)) := (hb13.cell (p := ⟨w.heap.size, 0, none⟩) hz12).trans x0; clear hH hb13)
                  | (go_at_call 21; (with_reducible refine (prove_gen _ _ _ (heapF ms) HFB.out tb xk (by omega) _ HH13.out).mono ?_); rintro e w14 ⟨⟨pk, rfl, hpk⟩, hb14⟩; have HB14 := hid hb14; clear hb14))
                all_goals
                  go_wp2_with fail
                  go_meet
                  exact ⟨rfl, ⟨pk, rfl, hpk⟩, (show Below w12.heap.size w12 w12.drew from below_drewN (below_rf w12) 1).trans (HB13.out.trans (HB14.out.mono HB13.out.size))⟩
              case rest =>
                obtain ⟨rfl, ⟨kq, rfl, hkq⟩, hbcut⟩ := hcut
                obtain ⟨w13, rfl⟩ : ∃ w13, w13 = wc := ⟨_, rfl⟩
                have HB013 := hid (below_tr HB012.out hbcut)
                have HR913 := hid (HR912.out.below hbcut)
                have HR1113 := hid (HR1112.out.below hbcut)
                obtain ⟨qf, hqf⟩ : ∃ qf, qf = proveP (heapF ms) tb xk := ⟨_, rfl⟩
                rw [← hqf] at HLW ⊢
                have HKQ := hid hkq
                clear hbcut hqf hkq HR912 HR1112 HN11 HB012 hz12 x0 x1
                have HV1 := hid (fun W => verify_vt ta xk pf (by omega) W)
                have HV2 := hid (fun W => verify_vt tb xk qf (by omega) W)
                have HV3 := hid (fun W => verify_vt tb xk pf (by omega) W)
                have HV4 := hid (fun W => verify_vt ta xk qf (by omega) W)
                have hend : NoC [ns, ms].flatten [ns, ms].flatten → kp = 0 ∧ kq = 0 ∧ (vT (verifyS ta xk pf)).2.2 = true ∧ (vT (verifyS ta xk pf)).2.1 = false ∧ (vT (verifyS tb xk qf)).2.2 = true ∧ (vT (verifyS tb xk qf)).2.1 = true ∧ (vT (verifyS tb xk qf)).1 = xv ∧ (vT (verifyS tb xk pf)).2.2 = false ∧ (vT (verifyS ta xk qf)).2.2 = false := fun hc => by
                  rw [show [ns, ms].flatten = ns ++ ms by simp] at hc
                  obtain ⟨h1, h2, h3, h4, h5, h6⟩ := HLW.out hc
                  rw [h3, h4, h5, h6]
                  exact ⟨HKP.out h1, HKQ.out h2, rfl, rfl, rfl, rfl, rfl, rfl, rfl⟩
                obtain ⟨⟨a1, a2, a3⟩, ha⟩ : ∃ t, t = vT (verifyS ta xk pf) := ⟨_, rfl⟩
                obtain ⟨⟨b1, b2, b3⟩, hb⟩ : ∃ t, t = vT (verifyS tb xk qf) := ⟨_, rfl⟩
                obtain ⟨⟨c1, c2, c3⟩, hc⟩ : ∃ t, t = vT (verifyS tb xk pf) := ⟨_, rfl⟩
                obtain ⟨⟨d1, d2, d3⟩, hd⟩ : ∃ t, t = vT (verifyS ta xk qf) := ⟨_, rfl⟩
                rw [← ha] at HV1
                rw [← hb] at HV2
                rw [← hc] at HV3
                rw [← hd] at HV4
                rw [← ha, ← hb, ← hc, ← hd] at hend
                have HEND := hid hend
                clear hend ha hb hc hd HKP HKQ HLW HFA HFB
                obtain ⟨x0, x1⟩ := HBC.out w13 HB013.out
                go_wp2_with fail
                (with_reducible refine (HV1.out _).mono ?_); rintro e v1 ⟨rfl, hb1⟩
                have HB1 := hid (below_tr HB013.out hb1)
                have HN1 := hid (HR913.out.below hb1)
                have HM1 := hid (HR1113.out.below hb1)
                clear x0 x1 hb1 HB013 HR913 HR1113
                obtain ⟨x0, x1⟩ := HBC.out v1 HB1.out
                go_wp2_with fail
                (with_reducible refine (HV2.out _).mono ?_); rintro e v2 ⟨rfl, hb2⟩
                have HB2 := hid (below_tr HB1.out hb2)
                have HN2 := hid (HN1.out.below hb2)
                have HM2 := hid (HM1.out.below hb2)
                clear x0 x1 hb2 HB1 HN1 HM1
                obtain ⟨x0, x1⟩ := HBC.out v2 HB2.out
                go_wp2_with fail
                (with_reducible refine (HV3.out _).mono ?_); rintro e v3 ⟨rfl, hb3⟩
                have HB3 := hid (below_tr HB2.out hb3)
                have HN3 := hid (HN2.out.below hb3)
                have HM3 := hid (HM2.out.below hb3)
                clear x0 x1 hb3 HB2 HN2 HM2
                obtain ⟨x0, x1⟩ := HBC.out v3 HB3.out
                go_wp2_with fail
                (with_reducible refine (HV4.out _).mono ?_); rintro e w14 ⟨rfl, hb4⟩
                have HB04 := hid (below_tr HB3.out hb4)
                have HNE := hid (HN3.out.below hb4)
                have HME := hid (HM3.out.below hb4)
                have HBE := hid (HAL.out.trans (HB04.out.mono HAL.out.size))
                clear x0 x1 hb4 HB3 HN3 HM3 HV1 HV2 HV3 HV4
                obtain ⟨x0, x1⟩ := HBC.out w14 HB04.out
                by_cases z1 : kp = 0
                · have q1 : (kp == 0) = true := beq_iff_eq.2 z1
                  by_cases z2 : kq = 0
                  · have q2 : (kq == 0) = true := beq_iff_eq.2 z2
                    cases a3 with
                    | false =>
                      obtain ⟨w15, hw15⟩ : ∃ w15, w15 = w14.alloc (Obj.cells #[.slice A9 ns.length c9, .slice A11 ms.length c11] 35) := ⟨_, rfl⟩
                      have hb15 : Below w14.heap.size w14 w15 := by rw [hw15]; exact below_al (below_rf w14) _
                      have hx15 : w15.heap[w14.heap.size]? = some (Obj.cells #[.slice A9 ns.length c9, .slice A11 ms.length c11] 35 (0, 0)) := by rw [hw15]; exact heap_new _ _
                      have HCL : Hid (Calls Try.prog 23 #[.slice (some ⟨w14.heap.size, 0, none⟩) 2 2] w15 fun e w' => (∃ r, e = .returned (.bool r) ∧ (r = false → NoC [ns, ms].flatten [ns, ms].flatten)) ∧ Below w15.heap.size w15 w') :=
                        hid (clash9_any w14.heap.size 0 2 [ns, ms] (by simp) (by simp; omega) (fun l hl s hs => by
                          rcases List.mem_cons.1 hl with e | hl
                          · subst e; have := HSHA.out s hs; omega
                          · obtain rfl := List.mem_singleton.1 hl; have := HSHB.out s hs; omega) w15 (fun j hj => by
                          rcases (by simp at hj; omega : j = 0 ∨ j = 1) with rfl | rfl
                          · exact ⟨A9, c9, by rw [Go.Lib.cell_of_heap hx15]; rfl, HNE.out.below hb15⟩
                          · exact ⟨A11, c11, by rw [Go.Lib.cell_of_heap hx15]; rfl, HME.out.below hb15⟩))
                      have HBF := hid (below_tr HBE.out hb15)
                      clear hb15 hx15
                      go_wp2_with fail
                      rw [← hw15]
                      (with_reducible refine HCL.out.mono ?_); rintro e w16 ⟨⟨r, rfl, hr⟩, hb16⟩
                      cases r with
                      | true =>
                        go_wp2
                        go_ret
                        exact ⟨rfl, below_tr HBF.out hb16⟩
                      | false => exact absurd (HEND.out (hr rfl)) (by simp [*])
                    | true =>
                      cases a2 with
                      | true =>
                        obtain ⟨w15, hw15⟩ : ∃ w15, w15 = w14.alloc (Obj.cells #[.slice A9 ns.length c9, .slice A11 ms.length c11] 35) := ⟨_, rfl⟩
                        have hb15 : Below w14.heap.size w14 w15 := by rw [hw15]; exact below_al (below_rf w14) _
                        have hx15 : w15.heap[w14.heap.size]? = some (Obj.cells #[.slice A9 ns.length c9, .slice A11 ms.length c11] 35 (0, 0)) := by rw [hw15]; exact heap_new _ _
                        have HCL : Hid (Calls Try.prog 23 #[.slice (some ⟨w14.heap.size, 0, none⟩) 2 2] w15 fun e w' => (∃ r, e = .returned (.bool r) ∧ (r = false → NoC [ns, ms].flatten [ns, ms].flatten)) ∧ Below w15.heap.size w15 w') :=
                          hid (clash9_any w14.heap.size 0 2 [ns, ms] (by simp) (by simp; omega) (fun l hl s hs => by
                            rcases List.mem_cons.1 hl with e | hl
                            · subst e; have := HSHA.out s hs; omega
                            · obtain rfl := List.mem_singleton.1 hl; have := HSHB.out s hs; omega) w15 (fun j hj => by
                            rcases (by simp at hj; omega : j = 0 ∨ j = 1) with rfl | rfl
                            · exact ⟨A9, c9, by rw [Go.Lib.cell_of_heap hx15]; rfl, HNE.out.below hb15⟩
                            · exact ⟨A11, c11, by rw [Go.Lib.cell_of_heap hx15]; rfl, HME.out.below hb15⟩))
                        have HBF := hid (below_tr HBE.out hb15)
                        clear hb15 hx15
                        go_wp2_with fail
                        rw [← hw15]
                        (with_reducible refine HCL.out.mono ?_); rintro e w16 ⟨⟨r, rfl, hr⟩, hb16⟩
                        cases r with
                        | true =>
                          go_wp2
                          go_ret
                          exact ⟨rfl, below_tr HBF.out hb16⟩
                        | false => exact absurd (HEND.out (hr rfl)) (by simp [*])
                      | false =>
                        cases b3 with
                        | false =>
                          obtain ⟨w15, hw15⟩ : ∃ w15, w15 = w14.alloc (Obj.cells #[.slice A9 ns.length c9, .slice A11 ms.length c11] 35) := ⟨_, rfl⟩
                          have hb15 : Below w14.heap.size w14 w15 := by rw [hw15]; exact below_al (below_rf w14) _
                          have hx15 : w15.heap[w14.heap.size]? = some (Obj.cells #[.slice A9 ns.length c9, .slice A11 ms.length c11] 35 (0, 0)) := by rw [hw15]; exact heap_new _ _
                          have HCL : Hid (Calls Try.prog 23 #[.slice (some ⟨w14.heap.size, 0, none⟩) 2 2] w15 fun e w' => (∃ r, e = .returned (.bool r) ∧ (r = false → NoC [ns, ms].flatten [ns, ms].flatten)) ∧ Below w15.heap.size w15 w') :=
                            hid (clash9_any w14.heap.size 0 2 [ns, ms] (by simp) (by simp; omega) (fun l hl s hs => by
                              rcases List.mem_cons.1 hl with e | hl
                              · subst e; have := HSHA.out s hs; omega
                              · obtain rfl := List.mem_singleton.1 hl; have := HSHB.out s hs; omega) w15 (fun j hj => by
                              rcases (by simp at hj; omega : j = 0 ∨ j = 1) with rfl | rfl
                              · exact ⟨A9, c9, by rw [Go.Lib.cell_of_heap hx15]; rfl, HNE.out.below hb15⟩
                              · exact ⟨A11, c11, by rw [Go.Lib.cell_of_heap hx15]; rfl, HME.out.below hb15⟩))
                          have HBF := hid (below_tr HBE.out hb15)
                          clear hb15 hx15
                          go_wp2_with fail
                          rw [← hw15]
                          (with_reducible refine HCL.out.mono ?_); rintro e w16 ⟨⟨r, rfl, hr⟩, hb16⟩
                          cases r with
                          | true =>
                            go_wp2
                            go_ret
                            exact ⟨rfl, below_tr HBF.out hb16⟩
                          | false => exact absurd (HEND.out (hr rfl)) (by simp [*])
                        | true =>
                          cases b2 with
                          | false =>
                            obtain ⟨w15, hw15⟩ : ∃ w15, w15 = w14.alloc (Obj.cells #[.slice A9 ns.length c9, .slice A11 ms.length c11] 35) := ⟨_, rfl⟩
                            have hb15 : Below w14.heap.size w14 w15 := by rw [hw15]; exact below_al (below_rf w14) _
                            have hx15 : w15.heap[w14.heap.size]? = some (Obj.cells #[.slice A9 ns.length c9, .slice A11 ms.length c11] 35 (0, 0)) := by rw [hw15]; exact heap_new _ _
                            have HCL : Hid (Calls Try.prog 23 #[.slice (some ⟨w14.heap.size, 0, none⟩) 2 2] w15 fun e w' => (∃ r, e = .returned (.bool r) ∧ (r = false → NoC [ns, ms].flatten [ns, ms].flatten)) ∧ Below w15.heap.size w15 w') :=
                              hid (clash9_any w14.heap.size 0 2 [ns, ms] (by simp) (by simp; omega) (fun l hl s hs => by
                                rcases List.mem_cons.1 hl with e | hl
                                · subst e; have := HSHA.out s hs; omega
                                · obtain rfl := List.mem_singleton.1 hl; have := HSHB.out s hs; omega) w15 (fun j hj => by
                                rcases (by simp at hj; omega : j = 0 ∨ j = 1) with rfl | rfl
                                · exact ⟨A9, c9, by rw [Go.Lib.cell_of_heap hx15]; rfl, HNE.out.below hb15⟩
                                · exact ⟨A11, c11, by rw [Go.Lib.cell_of_heap hx15]; rfl, HME.out.below hb15⟩))
                            have HBF := hid (below_tr HBE.out hb15)
                            clear hb15 hx15
                            go_wp2_with fail
                            rw [← hw15]
                            (with_reducible refine HCL.out.mono ?_); rintro e w16 ⟨⟨r, rfl, hr⟩, hb16⟩
                            cases r with
                            | true =>
                              go_wp2
                              go_ret
                              exact ⟨rfl, below_tr HBF.out hb16⟩
                            | false => exact absurd (HEND.out (hr rfl)) (by simp [*])
                          | true =>
                            by_cases z7 : b1 = xv
                            · have q7 : (b1 == xv) = true := beq_iff_eq.2 z7
                              cases c3 with
                              | true =>
                                obtain ⟨w15, hw15⟩ : ∃ w15, w15 = w14.alloc (Obj.cells #[.slice A9 ns.length c9, .slice A11 ms.length c11] 35) := ⟨_, rfl⟩
                                have hb15 : Below w14.heap.size w14 w15 := by rw [hw15]; exact below_al (below_rf w14) _
                                have hx15 : w15.heap[w14.heap.size]? = some (Obj.cells #[.slice A9 ns.length c9, .slice A11 ms.length c11] 35 (0, 0)) := by rw [hw15]; exact heap_new _ _
                                have HCL : Hid (Calls Try.prog 23 #[.slice (some ⟨w14.heap.size, 0, none⟩) 2 2] w15 fun e w' => (∃ r, e = .returned (.bool r) ∧ (r = false → NoC [ns, ms].flatten [ns, ms].flatten)) ∧ Below w15.heap.size w15 w') :=
                                  hid (clash9_any w14.heap.size 0 2 [ns, ms] (by simp) (by simp; omega) (fun l hl s hs => by
                                    rcases List.mem_cons.1 hl with e | hl
                                    · subst e; have := HSHA.out s hs; omega
                                    · obtain rfl := List.mem_singleton.1 hl; have := HSHB.out s hs; omega) w15 (fun j hj => by
                                    rcases (by simp at hj; omega : j = 0 ∨ j = 1) with rfl | rfl
                                    · exact ⟨A9, c9, by rw [Go.Lib.cell_of_heap hx15]; rfl, HNE.out.below hb15⟩
                                    · exact ⟨A11, c11, by rw [Go.Lib.cell_of_heap hx15]; rfl, HME.out.below hb15⟩))
                                have HBF := hid (below_tr HBE.out hb15)
                                clear hb15 hx15
                                go_wp2_with fail
                                rw [← hw15]
                                (with_reducible refine HCL.out.mono ?_); rintro e w16 ⟨⟨r, rfl, hr⟩, hb16⟩
                                cases r with
                                | true =>
                                  go_wp2
                                  go_ret
                                  exact ⟨rfl, below_tr HBF.out hb16⟩
                                | false => exact absurd (HEND.out (hr rfl)) (by simp [*])
                              | false =>
                                cases d3 with
                                | true =>
                                  obtain ⟨w15, hw15⟩ : ∃ w15, w15 = w14.alloc (Obj.cells #[.slice A9 ns.length c9, .slice A11 ms.length c11] 35) := ⟨_, rfl⟩
                                  have hb15 : Below w14.heap.size w14 w15 := by rw [hw15]; exact below_al (below_rf w14) _
                                  have hx15 : w15.heap[w14.heap.size]? = some (Obj.cells #[.slice A9 ns.length c9, .slice A11 ms.length c11] 35 (0, 0)) := by rw [hw15]; exact heap_new _ _
                                  have HCL : Hid (Calls Try.prog 23 #[.slice (some ⟨w14.heap.size, 0, none⟩) 2 2] w15 fun e w' => (∃ r, e = .returned (.bool r) ∧ (r = false → NoC [ns, ms].flatten [ns, ms].flatten)) ∧ Below w15.heap.size w15 w') :=
                                    hid (clash9_any w14.heap.size 0 2 [ns, ms] (by simp) (by simp; omega) (fun l hl s hs => by
                                      rcases List.mem_cons.1 hl with e | hl
                                      · subst e; have := HSHA.out s hs; omega
                                      · obtain rfl := List.mem_singleton.1 hl; have := HSHB.out s hs; omega) w15 (fun j hj => by
                                      rcases (by simp at hj; omega : j = 0 ∨ j = 1) with rfl | rfl
                                      · exact ⟨A9, c9, by rw [Go.Lib.cell_of_heap hx15]; rfl, HNE.out.below hb15⟩
                                      · exact ⟨A11, c11, by rw [Go.Lib.cell_of_heap hx15]; rfl, HME.out.below hb15⟩))
                                  have HBF := hid (below_tr HBE.out hb15)
                                  clear hb15 hx15
                                  go_wp2_with fail
                                  rw [← hw15]
                                  (with_reducible refine HCL.out.mono ?_); rintro e w16 ⟨⟨r, rfl, hr⟩, hb16⟩
                                  cases r with
                                  | true =>
                                    go_wp2
                                    go_ret
                                    exact ⟨rfl, below_tr HBF.out hb16⟩
                                  | false => exact absurd (HEND.out (hr rfl)) (by simp [*])
                                | false =>
                                  clear z1 z2 z7
                                  go_wp2
                                  go_ret
                                  exact ⟨rfl, HBE.out⟩
                            · have q7 : (b1 == xv) = false := beq_eq_false_iff_ne.2 z7
                              obtain ⟨w15, hw15⟩ : ∃ w15, w15 = w14.alloc (Obj.cells #[.slice A9 ns.length c9, .slice A11 ms.length c11] 35) := ⟨_, rfl⟩
                              have hb15 : Below w14.heap.size w14 w15 := by rw [hw15]; exact below_al (below_rf w14) _
                              have hx15 : w15.heap[w14.heap.size]? = some (Obj.cells #[.slice A9 ns.length c9, .slice A11 ms.length c11] 35 (0, 0)) := by rw [hw15]; exact heap_new _ _
                              have HCL : Hid (Calls Try.prog 23 #[.slice (some ⟨w14.heap.size, 0, none⟩) 2 2] w15 fun e w' => (∃ r, e = .returned (.bool r) ∧ (r = false → NoC [ns, ms].flatten [ns, ms].flatten)) ∧ Below w15.heap.size w15 w') :=
                                hid (clash9_any w14.heap.size 0 2 [ns, ms] (by simp) (by simp; omega) (fun l hl s hs => by
                                  rcases List.mem_cons.1 hl with e | hl
                                  · subst e; have := HSHA.out s hs; omega
                                  · obtain rfl := List.mem_singleton.1 hl; have := HSHB.out s hs; omega) w15 (fun j hj => by
                                  rcases (by simp at hj; omega : j = 0 ∨ j = 1) with rfl | rfl
                                  · exact ⟨A9, c9, by rw [Go.Lib.cell_of_heap hx15]; rfl, HNE.out.below hb15⟩
                                  · exact ⟨A11, c11, by rw [Go.Lib.cell_of_heap hx15]; rfl, HME.out.below hb15⟩))
                              have HBF := hid (below_tr HBE.out hb15)
                              clear hb15 hx15
                              go_wp2_with fail
                              rw [← hw15]
                              (with_reducible refine HCL.out.mono ?_); rintro e w16 ⟨⟨r, rfl, hr⟩, hb16⟩
                              cases r with
                              | true =>
                                go_wp2
                                go_ret
                                exact ⟨rfl, below_tr HBF.out hb16⟩
                              | false => exact absurd (HEND.out (hr rfl)) (by simp [*])
                  · have q2 : (kq == 0) = false := beq_eq_false_iff_ne.2 z2
                    obtain ⟨w15, hw15⟩ : ∃ w15, w15 = w14.alloc (Obj.cells #[.slice A9 ns.length c9, .slice A11 ms.length c11] 35) := ⟨_, rfl⟩
                    have hb15 : Below w14.heap.size w14 w15 := by rw [hw15]; exact below_al (below_rf w14) _
                    have hx15 : w15.heap[w14.heap.size]? = some (Obj.cells #[.slice A9 ns.length c9, .slice A11 ms.length c11] 35 (0, 0)) := by rw [hw15]; exact heap_new _ _
                    have HCL : Hid (Calls Try.prog 23 #[.slice (some ⟨w14.heap.size, 0, none⟩) 2 2] w15 fun e w' => (∃ r, e = .returned (.bool r) ∧ (r = false → NoC [ns, ms].flatten [ns, ms].flatten)) ∧ Below w15.heap.size w15 w') :=
                      hid (clash9_any w14.heap.size 0 2 [ns, ms] (by simp) (by simp; omega) (fun l hl s hs => by
                        rcases List.mem_cons.1 hl with e | hl
                        · subst e; have := HSHA.out s hs; omega
                        · obtain rfl := List.mem_singleton.1 hl; have := HSHB.out s hs; omega) w15 (fun j hj => by
                        rcases (by simp at hj; omega : j = 0 ∨ j = 1) with rfl | rfl
                        · exact ⟨A9, c9, by rw [Go.Lib.cell_of_heap hx15]; rfl, HNE.out.below hb15⟩
                        · exact ⟨A11, c11, by rw [Go.Lib.cell_of_heap hx15]; rfl, HME.out.below hb15⟩))
                    have HBF := hid (below_tr HBE.out hb15)
                    clear hb15 hx15
                    go_wp2_with fail
                    rw [← hw15]
                    (with_reducible refine HCL.out.mono ?_); rintro e w16 ⟨⟨r, rfl, hr⟩, hb16⟩
                    cases r with
                    | true =>
                      go_wp2
                      go_ret
                      exact ⟨rfl, below_tr HBF.out hb16⟩
                    | false => exact absurd (HEND.out (hr rfl)) (by simp [*])
                · have q1 : (kp == 0) = false := beq_eq_false_iff_ne.2 z1
                  obtain ⟨w15, hw15⟩ : ∃ w15, w15 = w14.alloc (Obj.cells #[.slice A9 ns.length c9, .slice A11 ms.length c11] 35) := ⟨_, rfl⟩
                  have hb15 : Below w14.heap.size w14 w15 := by rw [hw15]; exact below_al (below_rf w14) _
                  have hx15 : w15.heap[w14.heap.size]? = some (Obj.cells #[.slice A9 ns.length c9, .slice A11 ms.length c11] 35 (0, 0)) := by rw [hw15]; exact heap_new _ _
                  have HCL : Hid (Calls Try.prog 23 #[.slice (some ⟨w14.heap.size, 0, none⟩) 2 2] w15 fun e w' => (∃ r, e = .returned (.bool r) ∧ (r = false → NoC [ns, ms].flatten [ns, ms].flatten)) ∧ Below w15.heap.size w15 w') :=
                    hid (clash9_any w14.heap.size 0 2 [ns, ms] (by simp) (by simp; omega) (fun l hl s hs => by
                      rcases List.mem_cons.1 hl with e | hl
                      · subst e; have := HSHA.out s hs; omega
                      · obtain rfl := List.mem_singleton.1 hl; have := HSHB.out s hs; omega) w15 (fun j hj => by
                      rcases (by simp at hj; omega : j = 0 ∨ j = 1) with rfl | rfl
                      · exact ⟨A9, c9, by rw [Go.Lib.cell_of_heap hx15]; rfl, HNE.out.below hb15⟩
                      · exact ⟨A11, c11, by rw [Go.Lib.cell_of_heap hx15]; rfl, HME.out.below hb15⟩))
                  have HBF := hid (below_tr HBE.out hb15)
                  clear hb15 hx15
                  go_wp2_with fail
                  rw [← hw15]
                  (with_reducible refine HCL.out.mono ?_); rintro e w16 ⟨⟨r, rfl, hr⟩, hb16⟩
                  cases r with
                  | true =>
                    go_wp2
                    go_ret
                    exact ⟨rfl, below_tr HBF.out hb16⟩
                  | false => exact absurd (HEND.out (hr rfl)) (by simp [*])
end Go.Proofs.Yteeonfnaikndfaa.W11
