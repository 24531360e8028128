/- The law of ranges, walked. -/
import Derived.Test.YtbggeccaoibleaaTreed
import Derived.Test.YtbggeccaoibleaaL08b
import Derived.Test.YtbggeccaoibleaaW08k
set_option linter.unusedVariables false
set_option linter.unusedSimpArgs false
namespace Go.Proofs.Ytbggeccaoibleaa.W08
open Go.RowKit Go.Proofs.Ytbggeccaoibleaa.Lib Go.Proofs.Ytbggeccaoibleaa.Sha Go.Proofs.Ytbggeccaoibleaa.T08 Go.Proofs.Ytbggeccaoibleaa.QTail Go.Proofs.Ytbggeccaoibleaa.Itms Go.Proofs.Ytbggeccaoibleaa.WSeq Go.Proofs.Ytbggeccaoibleaa.Ord Go.Proofs.Ytbggeccaoibleaa.Inj Go.Proofs.Ytbggeccaoibleaa.Tree
attribute [local go_sem] Str_size Str_toList Str_append
theorem ti_prs : TI Try.prog 30 75 2 32 := TI.of (by kernel_rfl) (by kernel_rfl) (by decide) (by decide)
theorem its_one (l : List Itm) : ∀ u ∈ its l, u.oneCell' = true := by
  intro u hu
  unfold its at hu
  rw [List.mem_flatMap] at hu
  obtain ⟨x, _, hx⟩ := hu
  rcases List.mem_cons.1 hx with e | hx
  · rw [e]; rfl
  · rcases List.mem_cons.1 hx with e | hx
    · rw [e]; rfl
    · cases hx
def leS (a b : List UInt8) : Bool := ltS a b || a == b
def minS (a b : List UInt8) : List UInt8 := if leS a b = true then a else b
def maxS (a b : List UInt8) : List UInt8 := if ltS a b = true then b else a
theorem run_min_str {P : Program} (w : World) (ts : Array TypeId) (t : TypeId) (a b : List UInt8) : (Builtin.min_ ts t #[.string (Str a), .string (Str b)]).run P w = .ok (.string (Str (minS a b))) w := by
  have e : (Op.stringOp .leq (Str a) (Str b)).run P w = .ok (.bool (leS a b)) w := by
    unfold leS ltS
    simp [Op.stringOp, Str_toList, go_sem]
  simp [Builtin.min_, Builtin.min2, e, go_sem]
  unfold minS
  cases leS a b <;> rfl
theorem run_max_str {P : Program} (w : World) (ts : Array TypeId) (t : TypeId) (a b : List UInt8) : (Builtin.max_ ts t #[.string (Str a), .string (Str b)]).run P w = .ok (.string (Str (maxS a b))) w := by
  have e : (Op.stringOp .geq (Str a) (Str b)).run P w = .ok (.bool (!ltS a b)) w := by
    unfold ltS
    simp [Op.stringOp, Str_toList, go_sem]
  simp [Builtin.max_, Builtin.max2, e, go_sem]
  unfold maxS
  cases ltS a b <;> rfl
theorem run_max_nil {P : Program} (w : World) (ts : Array TypeId) (t : TypeId) (b : List UInt8) : (Builtin.max_ ts t #[.string ⟨#[]⟩, .string (Str b)]).run P w = .ok (.string (Str (maxS [] b))) w := by
  rw [← Str_nil]; exact run_max_str w ts t [] b
theorem Str_add0 (a : List UInt8) : Str a ++ ⟨#[0]⟩ = Str (a ++ [0]) := by rw [← Str_append]; congr 1; rw [Str_def]
attribute [local go_sem] run_min_str run_max_str run_max_nil Str_add0
theorem lt_snoc : ∀ a : List UInt8, ltS a (a ++ [0]) = true
  | [] => rfl
  | x :: a => by
    have := lt_snoc a
    unfold ltS at this ⊢
    rw [List.cons_append, less_cons, this]; simp
theorem min_max (a b : List UInt8) : ltS (maxS a b) (minS a b) = false := by
  unfold minS maxS leS
  cases h : ltS a b with
  | true =>
    simp only [Bool.true_or, if_true]
    cases h2 : ltS b a with
    | false => rfl
    | true => have := lt_trans a b a h h2; rw [lt_irrefl] at this; cases this
  | false =>
    by_cases e : a = b
    · subst e; simp [lt_irrefl]
    · have h3 : (a == b) = false := beq_eq_false_iff_ne.2 e
      rw [h3]
      simp [h]
theorem max_ge (a b : List UInt8) : ltS (maxS a b) b = false ∧ ∀ x, ltS x a = true → ltS x (maxS a b) = true := by
  unfold maxS
  cases h : ltS a b with
  | true => exact ⟨by simp [lt_irrefl], fun x hx => by simpa using lt_trans x a b hx h⟩
  | false => exact ⟨by simpa using h, fun x hx => by simpa using hx⟩
theorem ranges_m {f : Src} {rt : List UInt8} {m : List Itm} {ns : List (List UInt8)} (hrun : NoC ns ns → ∀ key, runP f rt key = fromP key m) (hc : NoC ns ns) (hok : okS m = true) {a b t : List UInt8} (hab : ltS b a = false) (hbt : ltS t b = false) (htp : ∀ i, i < m.length → ltS (itm m i).1 t = true) :
    rangeP f rt [] a ++ rangeP f rt a b ++ rangeP f rt b t = m := by
  unfold rangeP
  rw [hrun hc [], hrun hc a, hrun hc b]
  exact segs_all m a b t hok hab hbt htp
set_option maxRecDepth 100000 in
set_option maxHeartbeats 1000000 in
theorem ranges_any (A : Option Addr) (c : Nat) (l : List Itm) (k0 k1 : List UInt8) (hl : l.length ≤ 1000000000000000000) (w : World) (hrd : Rd w A (its l)) (hsh : ∀ i, i < l.length → (itm l i).1.length ≤ 140737488355328 ∧ (itm l i).2.length ≤ 140737488355328) (hx0 : k0.length ≤ 140737488355328) (hx1 : k1.length ≤ 140737488355328) :
    Calls Try.prog 3 #[.slice A l.length c, .agg #[.string (Str k0), .string (Str k1)]] w fun e w' => e = .returned (.bool true) ∧ Below w.heap.size w w' := by
  have HA := hid hrd
  have HSA := hid hsh
  clear hrd hsh
  obtain ⟨w0, hw0⟩ : ∃ w0, w0 = w.alloc (Obj.cells #[Value.string (Str k0), Value.string (Str k1)] 23) := ⟨_, rfl⟩
  have hal : Below w.heap.size w w0 := by rw [hw0]; exact below_al (below_rf w) _
  have hkb : w0.heap[w.heap.size]? = some (Obj.cells #[Value.string (Str k0), Value.string (Str k1)] 23 (0, 0)) := by rw [hw0]; exact heap_new w _
  have hz : w.heap.size < w0.heap.size := by rw [hw0]; simp
  have HKB := hid hkb
  clear hkb
  go_enter Try.func3, Try.ntmps3
  go_wp2_with fail
  rw [← hw0]
  clear hw0
  refine (awake_any w0).mono ?_; rintro e w1 ⟨rfl, hb1⟩
  have hB1 := below_tr hal hb1
  go_wp2_with fail
  refine (few_any A c l hl w1 (HA.out.below hB1) HSA.out).mono ?_; rintro e w2 ⟨⟨r, rfl, hfa⟩, hb2⟩
  have hb02 := below_tr hb1 hb2
  have hB2 := below_tr hal hb02
  have kb2 := (hb02.block w.heap.size hz).trans HKB.out
  have hk1 : w2.cell? ⟨w.heap.size, 0, none⟩ = some (.string (Str k0)) := by rw [Go.Lib.cell_of_heap kb2]; rfl
  have hk2 : w2.cell? ⟨w.heap.size, 1, none⟩ = some (.string (Str k1)) := by rw [Go.Lib.cell_of_heap kb2]; rfl
  clear kb2
  cases r with
  | false =>
    go_wp2
    go_ret
    exact ⟨rfl, hB2⟩
  | true =>
    have fa : FewS l := hfa rfl
    by_cases h2 : 2000 < k0.length
    · have g2 : decide ((2000 : Int) < (k0.length : Int)) = true := decide_eq_true (by omega)
      clear h2 hx0
      go_wp2
      go_ret
      exact ⟨rfl, hB2⟩
    · have g2 : decide ((2000 : Int) < (k0.length : Int)) = false := decide_eq_false (by omega)
      by_cases h3 : 2000 < k1.length
      · have g3 : decide ((2000 : Int) < (k1.length : Int)) = true := decide_eq_true (by omega)
        clear h3 hx1
        go_wp2
        go_ret
        exact ⟨rfl, hB2⟩
      · have g3 : decide ((2000 : Int) < (k1.length : Int)) = false := decide_eq_false (by omega)
        have hla := fa.1
        have hmq := map_q l fa
        clear hb1 hb2 hfa HSA hl
        go_wp2_with fail
        refine (rising_any A c l (by omega) w2 (HA.out.below hB2)).mono ?_; rintro e w3 ⟨⟨v, rfl, hown3⟩, hb3⟩
        have hb03 := below_tr hb02 hb3
        have hB3 := below_tr hB2 hb3
        obtain ⟨m, hm⟩ : ∃ m, m = risingS l := ⟨_, rfl⟩
        rw [← hm] at hown3 hmq
        clear hm fa HA hla hb02 hB2 hk1 hk2
        have hml := hmq.len
        obtain ⟨Am, cm, rfl, hcm, hrm3, _, _⟩ := Rd.own' hown3
        clear hown3 hb3
        go_wp2_with fail
        refine (pairs_any Am cm m (by omega) w3 hrm3).mono ?_; rintro e w4 ⟨⟨v4, rfl, hown4⟩, hb4⟩
        obtain ⟨Ap, cp, rfl, hcp, hrp, _, _⟩ := Rd.own' hown4
        go_wp2_with fail
        refine (build_any Ap cp m hcp (by omega) w4 (fun b o e => own_low hown4 e) hrp).mono ?_; rintro e w5 ⟨ho5, hb5⟩
        have hb35 := below_tr hb4 hb5
        have hB5 := below_tr hB3 hb35
        have hb05 := below_tr hb03 hb35
        have hrm5 := hrm3.below hb35
        clear hown4 hrp hb4 hb5 hb35 hb03 hrm3 hB3 hcp
        rcases ho5 with ⟨hf, _⟩ | ⟨_, v5, rfl, hown5⟩
        · rw [hmq.right] at hf; cases hf
        obtain ⟨An, cn, rfl, hcn, hrn, _, _⟩ := Rd.own' hown5
        have hnn := hmq.nodes
        have hsh := hmq.short
        have hrun := hmq.run
        have hrl := hmq.run_len
        have hhf := hmq.hf
        have hrt := hmq.root
        have HSHT := hid hmq.shrt
        have hmr := right_ok hmq.right
        obtain ⟨rt, hrtE⟩ : ∃ x, x = (treeS m).1 := ⟨_, rfl⟩
        obtain ⟨ns, hnsE⟩ : ∃ x, x = (treeS m).2 := ⟨_, rfl⟩
        rw [← hrtE] at hrun hrt ⊢
        rw [← hnsE] at hnn hsh hrun hrl hhf hrn ⊢
        have HSH := hid hsh
        have HRUN := hid hrun
        have HRL := hid hrl
        have HHF := hid hhf
        have HMR := hid hmr
        have HRT := hid hrt
        clear hrtE hnsE hown5 hmq hsh hrun hrl hhf hmr hcn hrt
        go_wp2_with fail
        refine (newheap_any ns An cn w5 (by omega) hrn (fun i hi => by have := sat_all HSH.out i hi; omega)).mono ?_; rintro e w6 ⟨⟨hb, mb, n, rfl, hn, hH, _, _⟩, hb6⟩
        have hb06 := below_tr hb05 hb6
        have HB6 := hid (below_tr hB5 hb6)
        have HRM := hid (hrm5.below hb6)
        have HRN := hid (hrn.below hb6)
        have kb6 := (hb06.block w.heap.size hz).trans HKB.out
        have hk1 : w6.cell? ⟨w.heap.size, 0, none⟩ = some (.string (Str k0)) := by rw [Go.Lib.cell_of_heap kb6]; rfl
        have hk2 : w6.cell? ⟨w.heap.size, 1, none⟩ = some (.string (Str k1)) := by rw [Go.Lib.cell_of_heap kb6]; rfl
        have HH := hid hH
        clear kb6 hb06 hb6 hb05 hrm5 hrn hB5 hH
        have hab := min_max k0 k1
        obtain ⟨ka, hka⟩ : ∃ ka, ka = minS k0 k1 := ⟨_, rfl⟩
        obtain ⟨kb, hkb⟩ : ∃ kb, kb = maxS k0 k1 := ⟨_, rfl⟩
        rw [← hka, ← hkb] at hab
        go_wp2
        go_quiet (fail)
        rw [← hka, ← hkb]
        have HRM6 := hid (HRM.out.drewN nq)
        have HH6 := hid (show HeapT (w6.drewN nq) hb mb n (heapF ns) from HH.out)
        have HB6D := hid (below_drewN HB6.out nq)
        have HAB := hid hab
        obtain ⟨w7, hw7⟩ : ∃ w7, w7 = w6.drewN nq := ⟨_, rfl⟩
        have HRN7 := hid (HRN.out.drewN nq)
        rw [← hw7] at HRM6 HH6 HB6D HRN7 ⊢
        clear hka hkb hk1 hk2 hab hw7 g2 g3 h2 h3 hx0 hx1
        by_cases hm0 : 0 < m.length
        · have c2' : decide ((0 : Int) < (m.length : Int)) = true := decide_eq_true (by omega)
          have hnn2 : ((m.length : Int) - 1).toNat = m.length - 1 := by omega
          have hn0 : (0 : Int) ≤ (m.length : Int) - 1 := by omega
          have hn1 : (m.length : Int) - 1 < (m.length : Int) := by omega
          obtain ⟨b, o, rfl, hc1, _⟩ := rd_itm HRM6.out (j := m.length - 1) (by omega)
          have hxl := (HSHT.out (itm m (m.length - 1)) (by rw [itm_eq m _ (by omega)]; exact List.getElem_mem _)).1
          obtain ⟨xk, hxk⟩ : ∃ xk, xk = (itm m (m.length - 1)).1 := ⟨_, rfl⟩
          have htp : ∀ i, i < m.length → ltS (itm m i).1 (maxS (xk ++ [0]) kb) = true := fun i hi => by
            refine (max_ge (xk ++ [0]) kb).2 _ ?_
            rw [hxk]
            have hs := lt_snoc (itm m (m.length - 1)).1
            by_cases e : i = m.length - 1
            · rw [e]; exact hs
            · have := okS_lt m HMR.out i (m.length - 1 - i - 1) (by omega)
              rw [show i + (m.length - 1 - i - 1) + 1 = m.length - 1 by omega] at this
              exact lt_trans _ _ _ this hs
          have hbt := (max_ge (xk ++ [0]) kb).1
          obtain ⟨kt, hkt⟩ : ∃ kt, kt = maxS (xk ++ [0]) kb := ⟨_, rfl⟩
          rw [← hkt] at htp hbt
          rw [← hxk] at hc1 hxl
          have HKT := hid hkt
          have HTP := hid htp
          have HBT := hid hbt
          clear hxk hkt htp hbt
          go_wp2_with fail
          rw [← HKT.out]
          clear hc1 hxl c2' hnn2 hn0 hn1 hm0
          rw [← Str_nil]
          refine (range_q hb mb n (heapF ns) HHF.out rt [] ka (by have := HRT.out; omega) w7 HH6.out).mono ?_; rintro e w8 ⟨⟨lb, rfl, hq⟩, hb8⟩
          have hl1 : (rangeP (heapF ns) rt [] ka).length ≤ 200 := Nat.le_trans (List.length_filter_le _ _) (Nat.le_trans (List.length_take_le _ _) (Nat.le_trans (by have := place_le (runP (heapF ns) rt []) ka; omega) (HRL.out rt [])))
          have HQ := hid hq
          clear hq
          go_wp2_with fail
          refine (listq_any _ lb e_within _ (by omega) w8 HQ.out).mono ?_; rintro e w9 ⟨⟨v9, rfl, hown9⟩, hb9⟩
          have hb79 := below_tr hb8 hb9
          obtain ⟨r1, hr1⟩ : ∃ r, r = rangeP (heapF ns) rt [] ka := ⟨_, rfl⟩
          rw [← hr1] at hown9 hl1
          have HR1 := hid hr1
          have HH9 := hid (HH6.out.below hb79)
          have HO9 := hid (own_base hown9 hb8.size)
          have HB9 := hid (below_tr HB6D.out hb79)
          have HRM9 := hid (HRM6.out.below hb79)
          clear hb8 hb9 hr1 hown9 HQ
          go_wp2_with fail
          refine (range_q hb mb n (heapF ns) HHF.out rt ka kb (by have := HRT.out; omega) w9 HH9.out).mono ?_; rintro e w10 ⟨⟨lb2, rfl, hq⟩, hb10⟩
          have hl2 : (rangeP (heapF ns) rt ka kb).length ≤ 200 := Nat.le_trans (List.length_filter_le _ _) (Nat.le_trans (List.length_take_le _ _) (Nat.le_trans (by have := place_le (runP (heapF ns) rt ka) kb; omega) (HRL.out rt ka)))
          have HQ := hid hq
          clear hq
          go_wp2_with fail
          refine (listq_any _ lb2 e_within _ (by omega) w10 HQ.out).mono ?_; rintro e w11 ⟨⟨v11, rfl, hown11⟩, hb11⟩
          have hb911 := below_tr hb10 hb11
          obtain ⟨r2, hr2⟩ : ∃ r, r = rangeP (heapF ns) rt ka kb := ⟨_, rfl⟩
          rw [← hr2] at hown11 hl2
          have HR2 := hid hr2
          obtain ⟨A11, c11, rfl, hc11, hrd11, hn11, hs11⟩ := Rd.own' hown11
          have HO911 := hid (own_of_below HO9.out hb911)
          have HRD11 := hid hrd11
          have HH11 := hid (HH9.out.below hb911)
          have HRM11 := hid (HRM9.out.below hb911)
          have HB11 := hid (below_tr HB9.out hb911)
          have hz9 : w7.heap.size ≤ w11.heap.size := Nat.le_trans hb79.size hb911.size
          have HB711 := hid (below_tr hb79 hb911)
          clear hb10 hb11 hr2 hown11 hrd11 HQ hb79 hb911 HO9 HH9
          go_wp2_with (at_builtin; refine wpList_appS (w0 := w11) ti_prs (.tmp 71) (.tmp 78) (by rfl) (by rfl) w7.heap.size A11 r2.length c11 (its r2) (by rfl) (by rfl) HO911.out (by rw [its_len, Nat.mul_comm]) HRD11.out hn11 hs11 (its_one r2) ((below_rf w11).mono hz9) hz9 (by omega) ?_; intro v12 w12 ho12 hg12 hv12 hB12 hb12)
          have hb712 := HB711.out.trans hB12
          rw [← its_app, show r1.length + r2.length = (r1 ++ r2).length by rw [List.length_append]] at ho12
          have HO12 := hid ho12
          have HH12 := hid (HH6.out.below hb712)
          have HB712 := hid hb712
          clear ho12 hg12 hv12 hB12 hb712
          refine (range_q hb mb n (heapF ns) HHF.out rt kb kt (by have := HRT.out; omega) w12 HH12.out).mono ?_; rintro e w13 ⟨⟨lb3, rfl, hq⟩, hb13⟩
          have hl3 : (rangeP (heapF ns) rt kb kt).length ≤ 200 := Nat.le_trans (List.length_filter_le _ _) (Nat.le_trans (List.length_take_le _ _) (Nat.le_trans (by have := place_le (runP (heapF ns) rt kb) kt; omega) (HRL.out rt kb)))
          have HQ := hid hq
          clear hq
          go_wp2_with fail
          refine (listq_any _ lb3 e_within _ (by omega) w13 HQ.out).mono ?_; rintro e w14 ⟨⟨v14, rfl, hown14⟩, hb14⟩
          have hb124 := below_tr hb13 hb14
          obtain ⟨r3, hr3⟩ : ∃ r, r = rangeP (heapF ns) rt kb kt := ⟨_, rfl⟩
          rw [← hr3] at hown14 hl3
          have HR3 := hid hr3
          obtain ⟨A14, c14, rfl, hc14, hrd14, hn14, hs14⟩ := Rd.own' hown14
          have HO124 := hid (own_of_below HO12.out hb124)
          have HRD14 := hid hrd14
          have hz14 : w7.heap.size ≤ w14.heap.size := Nat.le_trans hb12 hb124.size
          have HB714 := hid (HB712.out.trans (hb124.mono hb12))
          have hll : (r1 ++ r2).length ≤ 400 := by rw [List.length_append]; omega
          clear hb13 hb14 hr3 hown14 hrd14 HQ hb124 HO12 HH12
          go_wp2_with (at_builtin; refine wpList_appS (w0 := w14) ti_prs (.tmp 79) (.tmp 86) (by rfl) (by rfl) w7.heap.size A14 r3.length c14 (its r3) (by rfl) (by rfl) HO124.out (by rw [its_len, Nat.mul_comm]) HRD14.out hn14 hs14 (its_one r3) ((below_rf w14).mono hz14) hz14 (by omega) ?_; intro v15 w15 ho15 hg15 hv15 hB15 hb15)
          have hb715 := HB714.out.trans hB15
          rw [← its_app, show (r1 ++ r2).length + r3.length = (r1 ++ r2 ++ r3).length from by simp only [List.length_append]] at ho15
          obtain ⟨al, hal'⟩ : ∃ al, al = r1 ++ r2 ++ r3 := ⟨_, rfl⟩
          have hlal : al.length ≤ 600 := by rw [hal', List.length_append]; omega
          rw [← hal'] at ho15
          have HAL := hid hal'
          obtain ⟨A15, c15, rfl, hc15, hrd15, _, _⟩ := Rd.own' ho15
          have HRD15 := hid hrd15
          have HB15 := hid (HB6D.out.trans (hb715.mono HB6D.out.size))
          have HRM15 := hid (HRM6.out.below hb715)
          have HB715 := hid hb715
          have HZ15 := hid hb15
          clear ho15 hg15 hv15 hB15 hb15 hrd15 hal' hb715
          (with_reducible refine (same_any A15 _ c15 cm al m (by omega) (by omega) w15 HRD15.out HRM15.out).mono ?_); rintro e w16 ⟨rfl, hb16⟩
          have HB16 := hid (below_tr HB15.out hb16)
          have HB716 := hid (HB715.out.trans (hb16.mono HZ15.out))
          by_cases hsm : al = m
          · rw [decide_eq_true hsm]
            clear hsm
            go_wp2
            go_ret
            exact ⟨rfl, HB16.out⟩
          · have HSM := hid hsm
            rw [decide_eq_false hsm]
            clear hsm
            go_wp2_with fail
            have HRN16 := hid (HRN7.out.below HB716.out)
            refine (clash_any An cn ns (by omega) (fun i hi => by have := sat_all HSH.out i hi; omega) w16 HRN16.out).mono ?_; rintro e w17 ⟨⟨r, rfl, hr⟩, hb17⟩
            cases r with
            | true =>
              go_wp2
              go_ret
              exact ⟨rfl, below_tr HB16.out hb17⟩
            | false =>
              have hnc := hr rfl
              exact absurd (by rw [HAL.out, HR1.out, HR2.out, HR3.out]; exact ranges_m HRUN.out hnc HMR.out HAB.out HBT.out HTP.out) HSM.out
        · have c2' : decide ((0 : Int) < (m.length : Int)) = false := decide_eq_false (by omega)
          obtain ⟨kt, hkt⟩ : ∃ kt, kt = maxS [] kb := ⟨_, rfl⟩
          have HBT := hid (max_ge [] kb).1
          rw [← hkt] at HBT
          have HKT := hid hkt
          have HTP : Hid (∀ i, i < m.length → ltS (itm m i).1 kt = true) := hid (fun i hi => by omega)
          clear hkt
          go_wp2_with fail
          rw [← HKT.out]
          clear c2' hm0
          rw [← Str_nil]
          refine (range_q hb mb n (heapF ns) HHF.out rt [] ka (by have := HRT.out; omega) w7 HH6.out).mono ?_; rintro e w8 ⟨⟨lb, rfl, hq⟩, hb8⟩
          have hl1 : (rangeP (heapF ns) rt [] ka).length ≤ 200 := Nat.le_trans (List.length_filter_le _ _) (Nat.le_trans (List.length_take_le _ _) (Nat.le_trans (by have := place_le (runP (heapF ns) rt []) ka; omega) (HRL.out rt [])))
          have HQ := hid hq
          clear hq
          go_wp2_with fail
          refine (listq_any _ lb e_within _ (by omega) w8 HQ.out).mono ?_; rintro e w9 ⟨⟨v9, rfl, hown9⟩, hb9⟩
          have hb79 := below_tr hb8 hb9
          obtain ⟨r1, hr1⟩ : ∃ r, r = rangeP (heapF ns) rt [] ka := ⟨_, rfl⟩
          rw [← hr1] at hown9 hl1
          have HR1 := hid hr1
          have HH9 := hid (HH6.out.below hb79)
          have HO9 := hid (own_base hown9 hb8.size)
          have HB9 := hid (below_tr HB6D.out hb79)
          have HRM9 := hid (HRM6.out.below hb79)
          clear hb8 hb9 hr1 hown9 HQ
          go_wp2_with fail
          refine (range_q hb mb n (heapF ns) HHF.out rt ka kb (by have := HRT.out; omega) w9 HH9.out).mono ?_; rintro e w10 ⟨⟨lb2, rfl, hq⟩, hb10⟩
          have hl2 : (rangeP (heapF ns) rt ka kb).length ≤ 200 := Nat.le_trans (List.length_filter_le _ _) (Nat.le_trans (List.length_take_le _ _) (Nat.le_trans (by have := place_le (runP (heapF ns) rt ka) kb; omega) (HRL.out rt ka)))
          have HQ := hid hq
          clear hq
          go_wp2_with fail
          refine (listq_any _ lb2 e_within _ (by omega) w10 HQ.out).mono ?_; rintro e w11 ⟨⟨v11, rfl, hown11⟩, hb11⟩
          have hb911 := below_tr hb10 hb11
          obtain ⟨r2, hr2⟩ : ∃ r, r = rangeP (heapF ns) rt ka kb := ⟨_, rfl⟩
          rw [← hr2] at hown11 hl2
          have HR2 := hid hr2
          obtain ⟨A11, c11, rfl, hc11, hrd11, hn11, hs11⟩ := Rd.own' hown11
          have HO911 := hid (own_of_below HO9.out hb911)
          have HRD11 := hid hrd11
          have HH11 := hid (HH9.out.below hb911)
          have HRM11 := hid (HRM9.out.below hb911)
          have HB11 := hid (below_tr HB9.out hb911)
          have hz9 : w7.heap.size ≤ w11.heap.size := Nat.le_trans hb79.size hb911.size
          have HB711 := hid (below_tr hb79 hb911)
          clear hb10 hb11 hr2 hown11 hrd11 HQ hb79 hb911 HO9 HH9
          go_wp2_with (at_builtin; refine wpList_appS (w0 := w11) ti_prs (.tmp 71) (.tmp 78) (by rfl) (by rfl) w7.heap.size A11 r2.length c11 (its r2) (by rfl) (by rfl) HO911.out (by rw [its_len, Nat.mul_comm]) HRD11.out hn11 hs11 (its_one r2) ((below_rf w11).mono hz9) hz9 (by omega) ?_; intro v12 w12 ho12 hg12 hv12 hB12 hb12)
          have hb712 := HB711.out.trans hB12
          rw [← its_app, show r1.length + r2.length = (r1 ++ r2).length by rw [List.length_append]] at ho12
          have HO12 := hid ho12
          have HH12 := hid (HH6.out.below hb712)
          have HB712 := hid hb712
          clear ho12 hg12 hv12 hB12 hb712
          refine (range_q hb mb n (heapF ns) HHF.out rt kb kt (by have := HRT.out; omega) w12 HH12.out).mono ?_; rintro e w13 ⟨⟨lb3, rfl, hq⟩, hb13⟩
          have hl3 : (rangeP (heapF ns) rt kb kt).length ≤ 200 := Nat.le_trans (List.length_filter_le _ _) (Nat.le_trans (List.length_take_le _ _) (Nat.le_trans (by have := place_le (runP (heapF ns) rt kb) kt; omega) (HRL.out rt kb)))
          have HQ := hid hq
          clear hq
          go_wp2_with fail
          refine (listq_any _ lb3 e_within _ (by omega) w13 HQ.out).mono ?_; rintro e w14 ⟨⟨v14, rfl, hown14⟩, hb14⟩
          have hb124 := below_tr hb13 hb14
          obtain ⟨r3, hr3⟩ : ∃ r, r = rangeP (heapF ns) rt kb kt := ⟨_, rfl⟩
          rw [← hr3] at hown14 hl3
          have HR3 := hid hr3
          obtain ⟨A14, c14, rfl, hc14, hrd14, hn14, hs14⟩ := Rd.own' hown14
          have HO124 := hid (own_of_below HO12.out hb124)
          have HRD14 := hid hrd14
          have hz14 : w7.heap.size ≤ w14.heap.size := Nat.le_trans hb12 hb124.size
          have HB714 := hid (HB712.out.trans (hb124.mono hb12))
          have hll : (r1 ++ r2).length ≤ 400 := by rw [List.length_append]; omega
          clear hb13 hb14 hr3 hown14 hrd14 HQ hb124 HO12 HH12
          go_wp2_with (at_builtin; refine wpList_appS (w0 := w14) ti_prs (.tmp 79) (.tmp 86) (by rfl) (by rfl) w7.heap.size A14 r3.length c14 (its r3) (by rfl) (by rfl) HO124.out (by rw [its_len, Nat.mul_comm]) HRD14.out hn14 hs14 (its_one r3) ((below_rf w14).mono hz14) hz14 (by omega) ?_; intro v15 w15 ho15 hg15 hv15 hB15 hb15)
          have hb715 := HB714.out.trans hB15
          rw [← its_app, show (r1 ++ r2).length + r3.length = (r1 ++ r2 ++ r3).length from by simp only [List.length_append]] at ho15
          obtain ⟨al, hal'⟩ : ∃ al, al = r1 ++ r2 ++ r3 := ⟨_, rfl⟩
          have hlal : al.length ≤ 600 := by rw [hal', List.length_append]; omega
          rw [← hal'] at ho15
          have HAL := hid hal'
          obtain ⟨A15, c15, rfl, hc15, hrd15, _, _⟩ := Rd.own' ho15
          have HRD15 := hid hrd15
          have HB15 := hid (HB6D.out.trans (hb715.mono HB6D.out.size))
          have HRM15 := hid (HRM6.out.below hb715)
          have HB715 := hid hb715
          have HZ15 := hid hb15
          clear ho15 hg15 hv15 hB15 hb15 hrd15 hal' hb715
          (with_reducible refine (same_any A15 _ c15 cm al m (by omega) (by omega) w15 HRD15.out HRM15.out).mono ?_); rintro e w16 ⟨rfl, hb16⟩
          have HB16 := hid (below_tr HB15.out hb16)
          have HB716 := hid (HB715.out.trans (hb16.mono HZ15.out))
          by_cases hsm : al = m
          · rw [decide_eq_true hsm]
            clear hsm
            go_wp2
            go_ret
            exact ⟨rfl, HB16.out⟩
          · have HSM := hid hsm
            rw [decide_eq_false hsm]
            clear hsm
            go_wp2_with fail
            have HRN16 := hid (HRN7.out.below HB716.out)
            refine (clash_any An cn ns (by omega) (fun i hi => by have := sat_all HSH.out i hi; omega) w16 HRN16.out).mono ?_; rintro e w17 ⟨⟨r, rfl, hr⟩, hb17⟩
            cases r with
            | true =>
              go_wp2
              go_ret
              exact ⟨rfl, below_tr HB16.out hb17⟩
            | false =>
              have hnc := hr rfl
              exact absurd (by rw [HAL.out, HR1.out, HR2.out, HR3.out]; exact ranges_m HRUN.out hnc HMR.out HAB.out HBT.out HTP.out) HSM.out
end Go.Proofs.Ytbggeccaoibleaa.W08
