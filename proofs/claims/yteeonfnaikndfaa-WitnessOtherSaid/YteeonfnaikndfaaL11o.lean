/- The law of proofs for other maps and keys, walked (begun). -/
import Derived.Test.YteeonfnaikndfaaL11
import Derived.Test.YteeonfnaikndfaaWitw
import Derived.Test.YteeonfnaikndfaaW09c
import Derived.Test.YteeonfnaikndfaaL11s
set_option linter.unusedVariables false
set_option linter.unusedSimpArgs false
namespace Go.Proofs.Yteeonfnaikndfaa.W11
open Go Go.RowKit Go.Proofs.Yteeonfnaikndfaa.Lib Go.Proofs.Yteeonfnaikndfaa.Sha Go.Proofs.Yteeonfnaikndfaa.T07 Go.Proofs.Yteeonfnaikndfaa.T08 Go.Proofs.Yteeonfnaikndfaa.QTail Go.Proofs.Yteeonfnaikndfaa.Itms Go.Proofs.Yteeonfnaikndfaa.WSeq Go.Proofs.Yteeonfnaikndfaa.Ord Go.Proofs.Yteeonfnaikndfaa.Tree Go.Proofs.Yteeonfnaikndfaa.W08 Go.Proofs.Yteeonfnaikndfaa.Wit Go.Proofs.Yteeonfnaikndfaa.W01 Go.Proofs.Yteeonfnaikndfaa.Bld Go.Proofs.Yteeonfnaikndfaa.Mp Go.Proofs.Yteeonfnaikndfaa.Inj
open Go.Proofs.Yteeonfnaikndfaa.Run hiding round_any yield_any
attribute [local go_sem] Str_size Str_toList Str_extract
/-- prolly.NewHeap over a map's nodes, in one form -/
theorem newheap_gen (l : List (List UInt8)) (A : Option Addr) (c : Nat) (w : World) (hl : l.length ≤ 1000000) (hrd : Rd w A (strs l)) (hs : ∀ s ∈ l, s.length ≤ 3000000) :
    Calls Try.prog 22 #[.slice A l.length c] w fun e w' => (∃ hb mb n, e = .returned (.pointer (some ⟨hb, 0, none⟩)) ∧ HeapT w' hb mb n (heapF l)) ∧ Below w.heap.size w w' :=
  (newheap_any l A c w hl hrd (fun i hi => by have := sat_all hs i hi; omega)).mono fun e w' ⟨⟨hb, mb, n, he, _, hH, _⟩, hB⟩ => ⟨⟨hb, mb, n, he, hH⟩, hB⟩
/-- witness.Prove, in one form -/
theorem prove_gen (hb mb n : Nat) (f : Src) (hf : ∀ k s, f k = some s → s.length ≤ 1000000000) (root key : List UInt8) (hroot : root.length ≤ 1000000000) (w : World) (hH : HeapT w hb mb n f) :
    Calls Try.prog 21 #[.iface 43 (.pointer (some ⟨hb, 0, none⟩)), .string (Str root), .string (Str key)] w fun e w' => (∃ k : Int, e = .returned (.tuple #[.string (Str (proveP f root key)), .int .i64 k])) ∧ Below w.heap.size w w' := by
  refine (prove_any hb mb n f hf root key hroot w hH).mono ?_
  rintro e w' ⟨ho, hB⟩
  refine ⟨?_, hB⟩
  unfold proveP
  rcases hw : wayS (srcNx f) key () root with _ | ⟨ts, n', z⟩
  · rw [hw] at ho; exact ⟨6, ho⟩
  · rw [hw] at ho; exact ⟨0, ho⟩
/-- prolly.Find, in one form -/
theorem find_gen (hb mb n : Nat) (f : Src) (hf : ∀ k s, f k = some s → s.length ≤ 1000000000) (root key : List UInt8) (hroot : root.length ≤ 1000000000) (w : World) (hH : HeapT w hb mb n f) :
    Calls Try.prog 24 #[.iface 43 (.pointer (some ⟨hb, 0, none⟩)), .string (Str root), .string (Str key)] w fun e w' => (∃ (v : List UInt8) (b : Bool) (k : Int), e = .returned (.tuple #[.string (Str v), .bool b, .int .i64 k]) ∧ (((wayS (srcNx f) key () root).map (·.2.1) = none ∧ k = 6) ∨ ∃ n, (wayS (srcNx f) key () root).map (·.2.1) = some n ∧ k = 0 ∧ v = (shownS n key).getD [] ∧ b = (shownS n key).isSome)) ∧ Below w.heap.size w w' :=
  (find_any hb mb n f hf root key hroot w hH).mono fun e w' ⟨ho, hB⟩ => ⟨find_one ho, hB⟩
/-- where no two unlike texts have one fingerprint, the proof shows what is found -/
theorem other_end (ns ms : List (List UInt8)) (h1 : ∀ s ∈ ns, s.length ≤ 3000000) (ta tb k0 k1 : List UInt8) (y : List Itm) (hwy : NoC ms ms → ∃ v X, atS (heapF ms) tb = some (v, X) ∧ treeP (heapF ms) v X = some y) (hu : Up y) (hc : NoC [ns, ms].flatten [ns, ms].flatten) {vv : List UInt8} {vb vok : Bool}
    (hv : (verifyS tb k1 (proveP (heapF ns) ta k0) = none ∧ vok = false) ∨ ∃ s, verifyS tb k1 (proveP (heapF ns) ta k0) = some s ∧ vok = true ∧ vv = s.getD [] ∧ vb = s.isSome) (hok : vok = true) {fv : List UInt8} {fb : Bool} {fk : Int}
    (hf : ((wayS (srcNx (heapF ms)) k1 () tb).map (·.2.1) = none ∧ fk = 6) ∨ ∃ n, (wayS (srcNx (heapF ms)) k1 () tb).map (·.2.1) = some n ∧ fk = 0 ∧ fv = (shownS n k1).getD [] ∧ fb = (shownS n k1).isSome) : vv = fv ∧ vb = fb := by
  rw [show [ns, ms].flatten = ns ++ ms by simp] at hc
  obtain ⟨v, X, hat, hT⟩ := hwy (fun a ha b hb => hc a (List.mem_append_right _ ha) b (List.mem_append_right _ hb))
  obtain ⟨ts, n, z, hw, hs⟩ := way_whole (heapF ms) tb k1 v X y hat hT hu
  rcases hv with ⟨_, h⟩ | ⟨s, hv, _, rfl, rfl⟩
  · rw [h] at hok; cases hok
  have e1 := other_law ns ms (fun s hs => by have := h1 s hs; omega) hc ta tb k0 k1 v X y hat hT hu s hv
  rw [hw] at hf
  rcases hf with ⟨h, _⟩ | ⟨m, h, _, rfl, rfl⟩
  · cases h
  · injection h with h
    have h : n = m := h
    subst h
    rw [hs, e1]; exact ⟨rfl, rfl⟩
set_option maxRecDepth 100000 in
set_option maxHeartbeats 8000000 in
theorem other_any (A B : Option Addr) (c d : Nat) (l m : List Itm) (k0 k1 : List UInt8) (hl : l.length ≤ 1000000000000000000) (hm : m.length ≤ 1000000000000000000) (w : World) (hra : Rd w A (its l)) (hrb : Rd w B (its m)) (hsa : ∀ i, i < l.length → (itm l i).1.length ≤ 140737488355328 ∧ (itm l i).2.length ≤ 140737488355328) (hsb : ∀ i, i < m.length → (itm m i).1.length ≤ 140737488355328 ∧ (itm m i).2.length ≤ 140737488355328) :
    Calls Try.prog 7 #[.slice A l.length c, .slice B m.length d, .agg #[.string (Str k0), .string (Str k1)]] w fun e w' => e = .returned (.bool true) ∧ Below w.heap.size w w' := by
  have HA := hid hra
  have HB := hid hrb
  have HSA := hid hsa
  have HSB := hid hsb
  clear hra hrb hsa hsb
  obtain ⟨w0, hw0⟩ : ∃ w0, w0 = w.alloc (Obj.cells #[Value.string (Str k0), Value.string (Str k1)] 47) := ⟨_, rfl⟩
  have hal : Below w.heap.size w w0 := by rw [hw0]; exact below_al (below_rf w) _
  have hkb : w0.heap[w.heap.size]? = some (Obj.cells #[Value.string (Str k0), Value.string (Str k1)] 47 (0, 0)) := by rw [hw0]; exact heap_new w _
  have hz : w.heap.size < w0.heap.size := by rw [hw0]; simp
  have HKB := hid hkb
  clear hkb
  go_enter Try.func7, Try.ntmps7
  go_wp2_with fail
  rw [← hw0]
  clear hw0
  refine (awake11_any w0).mono ?_; rintro e w1 ⟨rfl, hb1⟩
  have hB1 := below_tr hal hb1
  go_wp2_with fail
  refine (few_any A c l hl w1 (HA.out.below hB1) HSA.out).mono ?_; rintro e w2 ⟨⟨r, rfl, hfa⟩, hb2⟩
  have hB2 := below_tr hB1 hb2
  cases r with
  | false =>
    go_wp2
    go_ret
    exact ⟨rfl, hB2⟩
  | true =>
    go_wp2_with fail
    refine (few_any B d m hm w2 (HB.out.below hB2) HSB.out).mono ?_; rintro e w3 ⟨⟨r, rfl, hfb⟩, hb3⟩
    have hB3 := below_tr hB2 hb3
    cases r with
    | false =>
      go_wp2
      go_ret
      exact ⟨rfl, hB3⟩
    | true =>
      have fa : FewS l := by simpa using hfa
      have fb : FewS m := by simpa using hfb
      have hla := fa.1
      have hlb := fb.1
      have hqa := map_q l fa
      have hqb := map_q m fb
      have hb03 := below_tr (below_tr hb1 hb2) hb3
      clear hb1 hb2 hb3 hB2 hfa hfb HSA HSB hl hm
      go_wp2_with fail
      refine (rising_any A c l (by omega) w3 (HA.out.below hB3)).mono ?_; rintro e w4 ⟨⟨v, rfl, hown4⟩, hb4⟩
      have hB4 := below_tr hB3 hb4
      go_wp2_with fail
      refine (rising_any B d m (by omega) w4 (HB.out.below hB4)).mono ?_; rintro e w5 ⟨⟨v', rfl, hown5⟩, hb5⟩
      have hB5 := below_tr hB4 hb5
      have hb05 := below_tr (below_tr hb03 hb4) hb5
      obtain ⟨x, hx⟩ : ∃ x, x = risingS l := ⟨_, rfl⟩
      obtain ⟨y, hy⟩ : ∃ y, y = risingS m := ⟨_, rfl⟩
      rw [← hx] at hown4 hqa
      rw [← hy] at hown5 hqb
      have hxl := hqa.len
      have hyl := hqb.len
      clear hx hy fa fb hla hlb HA HB hB3 hB4 hB1 hb03
      obtain ⟨Al, cl, rfl, hcl, hrl4, _, _⟩ := Rd.own' hown4
      obtain ⟨Am, cm, rfl, hcm, hrm5, _, _⟩ := Rd.own' hown5
      have hrl5 := hrl4.below hb5
      clear hown4 hown5 hrl4 hb4 hb5
      go_wp2_with fail
      refine (pairs_any Al cl x (by omega) w5 hrl5).mono ?_; rintro e w6 ⟨⟨v6, rfl, hown6⟩, hb6⟩
      obtain ⟨Ap, cp, rfl, hcp, hrp, _, _⟩ := Rd.own' hown6
      go_wp2_with fail
      refine (build_any Ap cp x hcp (by omega) w6 (fun b o e => own_low hown6 e) hrp).mono ?_; rintro e w7 ⟨ho7, hb7⟩
      have hb57 := below_tr hb6 hb7
      have hB7 := below_tr hB5 hb57
      have hb07 := below_tr hb05 hb57
      have hrm7 := hrm5.below hb57
      clear hown6 hrp hb6 hb7 hb57 hrl5 hrm5 hB5 hcp hb05 hcl
      rcases ho7 with ⟨hf, _⟩ | ⟨_, v7, rfl, hown7⟩
      · rw [hqa.right] at hf; cases hf
      obtain ⟨A7, c7, rfl, hc7, hr7, _, _⟩ := Rd.own' hown7
      go_wp2_with fail
      refine (pairs_any Am cm y (by omega) w7 hrm7).mono ?_; rintro e w8 ⟨⟨v8, rfl, hown8⟩, hb8⟩
      obtain ⟨Aq, cq, rfl, hcq, hrq, _, _⟩ := Rd.own' hown8
      go_wp2_with fail
      refine (build_any Aq cq y hcq (by omega) w8 (fun b o e => own_low hown8 e) hrq).mono ?_; rintro e w9 ⟨ho9, hb9⟩
      have hb89 := below_tr hb8 hb9
      have hB9 := below_tr hB7 hb89
      have hb09 := below_tr hb07 hb89
      have hr79 := hr7.below hb89
      clear hown8 hrq hb8 hb9 hb89 hrm7 hB7 hcq hr7 hown7 hb07 hc7 hcm
      rcases ho9 with ⟨hf, _⟩ | ⟨_, v9, rfl, hown9⟩
      · rw [hqb.right] at hf; cases hf
      obtain ⟨A9, c9, rfl, hc9, hr9, _, _⟩ := Rd.own' hown9
      have kb9 := (hb09.block w.heap.size hz).trans HKB.out
      have hk1 : w9.cell? ⟨w.heap.size, 0, none⟩ = some (.string (Str k0)) := by rw [Go.Lib.cell_of_heap kb9]; rfl
      have hk2 : w9.cell? ⟨w.heap.size, 1, none⟩ = some (.string (Str k1)) := by rw [Go.Lib.cell_of_heap kb9]; rfl
      have na := hqa.nodes
      have nb := hqb.nodes
      have ra := hqa.root
      have rb := hqb.root
      have sha1 := hqa.short
      have shb1 := hqb.short
      have fa1 := hqa.hf
      have fb1 := hqb.hf
      have hwy := hqb.whole
      have huy := hqb.up
      obtain ⟨ta, hta⟩ : ∃ t, t = (treeS x).1 := ⟨_, rfl⟩
      obtain ⟨tb, htb⟩ : ∃ t, t = (treeS y).1 := ⟨_, rfl⟩
      obtain ⟨ns, hns⟩ : ∃ t, t = (treeS x).2 := ⟨_, rfl⟩
      obtain ⟨ms, hms⟩ : ∃ t, t = (treeS y).2 := ⟨_, rfl⟩
      rw [← hta] at ra ⊢
      rw [← htb] at rb hwy ⊢
      rw [← hns] at na sha1 fa1 hr79 ⊢
      rw [← hms] at nb shb1 fb1 hwy hr9 ⊢
      have HWY := hid hwy
      have HUY := hid huy
      have HSHA := hid sha1
      have HSHB := hid shb1
      have HFA := hid fa1
      have HFB := hid fb1
      clear hta htb hns hms hqa hqb hown9 hwy huy sha1 shb1 fa1 fb1 hc9 hb09
      have hz9 : w.heap.size < w9.heap.size := (Array.getElem?_eq_some_iff.1 kb9).1
      have HR79 : Hid (Rd w9.drew A7 (strs ns)) := hid (hr79.drewN 1)
      have HR9 := hid hr9
      have HB9 := hid hB9
      clear kb9 hr79 hr9 hB9
      go_wp2
      go_region_with (first
        | (go_at_call 22; refine (newheap_gen ns A7 c7 w9.drew (by omega) HR79.out HSHA.out).mono ?_; rintro e w10 ⟨⟨hb, mb, n, rfl, hH⟩, hb10⟩; have HH10 := hid hH; have HB10 := hid hb10; have p1 : w10.cell? ⟨w.heap.size, 0, none⟩ = some (.string (Str k0)) := (hb10.cell (p := ⟨w.heap.size, 0, none⟩) hz9).trans hk1; have p2 : w10.cell? ⟨w.heap.size, 1, none⟩ = some (.string (Str k1)) := (hb10.cell (p := ⟨w.heap.size, 1, none⟩) hz9).trans hk2; clear hH hb10)
        | (go_at_call 21; refine (prove_gen _ _ _ (heapF ns) HFA.out ta k0 (by omega) _ HH10.out).mono ?_; rintro e w11 ⟨⟨pk, rfl⟩, hb11⟩; have HB11 := hid hb11; clear hb11))
      all_goals
        have hb911 : Below w9.heap.size w9 w11 := (show Below w9.heap.size w9 w9.drew from below_drewN (below_rf w9) 1).trans (HB10.out.trans (HB11.out.mono HB10.out.size))
        have HB11' := hid (below_tr HB9.out hb911)
        have HR11 := hid (HR9.out.below hb911)
        have HN11 := hid ((show Rd w9 A7 (strs ns) from HR79.out).below hb911)
        have k2' : w11.cell? ⟨w.heap.size, 1, none⟩ = some (.string (Str k1)) := (hb911.cell (p := ⟨w.heap.size, 1, none⟩) hz9).trans hk2
        have hz11 : w.heap.size < w11.heap.size := Nat.lt_of_lt_of_le hz9 hb911.size
        obtain ⟨pf, hpf⟩ : ∃ pf, pf = proveP (heapF ns) ta k0 := ⟨_, rfl⟩
        rw [← hpf]
        have HPF := hid hpf
        have HVE := hid (verify_any tb k1 pf (by omega) w11)
        clear hb911 HB10 HB11 HH10 HR79 HR9 HB9 p1 p2 hk1 hk2 hz9 hpf
        simp only [List.getElem_toArray, List.getElem_cons_succ, List.getElem_cons_zero, Act.put, Array.set!_eq_setIfInBounds, List.setIfInBounds_toArray, List.set_cons_succ, List.set_cons_zero]
        go_wp2_with fail
        (with_reducible refine HVE.out.mono ?_); rintro e w12 ⟨ho, hb12⟩
        obtain ⟨vv, vb, vok, rfl, hvi⟩ := verify_one ho
        have HVI := hid hvi
        have HB12 := hid (below_tr HB11'.out hb12)
        have HR12 : Hid (Rd w12.drew A9 (strs ms)) := hid ((HR11.out.below hb12).drewN 1)
        have HN12 := hid (HN11.out.below hb12)
        have hz12 : w.heap.size < w12.heap.size := Nat.lt_of_lt_of_le hz11 hb12.size
        have k3 : w12.cell? ⟨w.heap.size, 1, none⟩ = some (.string (Str k1)) := (hb12.cell (p := ⟨w.heap.size, 1, none⟩) hz11).trans k2'
        clear hvi ho hb12 HVE HR11 HN11 HB11' k2' hz11
        go_wp2
        go_region_with (first
          | (go_at_call 22; (with_reducible refine (newheap_gen ms A9 c9 w12.drew (by omega) HR12.out HSHB.out).mono ?_); rintro e w13 ⟨⟨hb, mb, n, rfl, hH⟩, hb13⟩; have HH13 := hid hH; have HB13 := hid hb13; have p2 : w13.cell? ⟨w.heap.size, 1, none⟩ = some (.string (Str k1)) := (hb13.cell (p := ⟨w.heap.size, 1, none⟩) hz12).trans k3; clear hH hb13)
          | (go_at_call 24; (with_reducible refine (find_gen _ _ _ (heapF ms) HFB.out tb k1 (by omega) _ HH13.out).mono ?_); rintro e w14 ⟨⟨fv, fb, fk, rfl, hfi⟩, hb14⟩; have HFI := hid hfi; have HB14 := hid hb14; clear hb14 hfi))
        all_goals
          have hb1214 : Below w12.heap.size w12 w14 := (show Below w12.heap.size w12 w12.drew from below_drewN (below_rf w12) 1).trans (HB13.out.trans (HB14.out.mono HB13.out.size))
          have HBE := hid (below_tr HB12.out hb1214)
          have HNE := hid (HN12.out.below hb1214)
          have HME := hid ((show Rd w12 A9 (strs ms) from HR12.out).below hb1214)
          clear hb1214 HB13 HB14 HR12 HN12 p2 k3 hz12
          simp only [List.getElem_toArray, List.getElem_cons_succ, List.getElem_cons_zero, Act.put, Array.set!_eq_setIfInBounds, List.setIfInBounds_toArray, List.set_cons_succ, List.set_cons_zero]
          have HEND : Hid (NoC [ns, ms].flatten [ns, ms].flatten → vok = true → vv = fv ∧ vb = fb) := hid (fun hc hok => other_end ns ms HSHA.out ta tb k0 k1 y HWY.out HUY.out hc (by rw [← HPF.out]; exact HVI.out) hok HFI.out)
          clear HVI HFI HPF HWY HUY
          cases vok with
          | false =>
            go_wp2
            go_ret
            exact ⟨rfl, HBE.out⟩
          | true =>
            replace HEND : Hid (NoC [ns, ms].flatten [ns, ms].flatten → vv = fv ∧ vb = fb) := hid (fun hc => HEND.out hc rfl)
            by_cases q1 : vv = fv
            · have t1 : (vv == fv) = true := beq_iff_eq.2 q1
              by_cases q2 : vb = fb
              · have t2 : (vb == fb) = true := beq_iff_eq.2 q2
                clear q1 q2 HEND
                go_wp2
                go_ret
                exact ⟨rfl, HBE.out⟩
              · have t2 : (vb == fb) = false := beq_eq_false_iff_ne.2 q2
                have HQ : Hid (¬ (vv = fv ∧ vb = fb)) := hid (fun h => q2 h.2)
                clear q1 q2
                obtain ⟨w15, hw15⟩ : ∃ w15, w15 = w14.alloc (Obj.cells #[.slice A7 ns.length c7, .slice A9 ms.length c9] 35) := ⟨_, rfl⟩
                have hb15 : Below w14.heap.size w14 w15 := by rw [hw15]; exact below_al (below_rf w14) _
                have hx15 : w15.heap[w14.heap.size]? = some (Obj.cells #[.slice A7 ns.length c7, .slice A9 ms.length c9] 35 (0, 0)) := by rw [hw15]; exact heap_new _ _
                have HCL : Hid (Calls Try.prog 23 #[.slice (some ⟨w14.heap.size, 0, none⟩) 2 2] w15 fun e w' => (∃ r, e = .returned (.bool r) ∧ (r = false → NoC [ns, ms].flatten [ns, ms].flatten)) ∧ Below w15.heap.size w15 w') :=
                  hid (clash9_any w14.heap.size 0 2 [ns, ms] (by simp) (by simp; omega) (fun l hl s hs => by
                    rcases List.mem_cons.1 hl with e | hl
                    · subst e; have := HSHA.out s hs; omega
                    · obtain rfl := List.mem_singleton.1 hl; have := HSHB.out s hs; omega) w15 (fun j hj => by
                    rcases (by simp at hj; omega : j = 0 ∨ j = 1) with rfl | rfl
                    · exact ⟨A7, c7, by rw [Go.Lib.cell_of_heap hx15]; rfl, HNE.out.below hb15⟩
                    · exact ⟨A9, c9, by rw [Go.Lib.cell_of_heap hx15]; rfl, HME.out.below hb15⟩))
                have HBF := hid (below_tr HBE.out hb15)
                clear hb15 hx15
                go_wp2_with fail
                rw [← hw15]
                (with_reducible refine HCL.out.mono ?_); rintro e w16 ⟨⟨r, rfl, hr⟩, hb16⟩
                cases r with
                | true =>
                  go_wp2
                  go_ret
                  exact ⟨rfl, below_tr HBF.out hb16⟩
                | false => exact absurd (HEND.out (hr rfl)) HQ.out
            · have t1 : (vv == fv) = false := beq_eq_false_iff_ne.2 q1
              have HQ : Hid (¬ (vv = fv ∧ vb = fb)) := hid (fun h => q1 h.1)
              clear q1
              obtain ⟨w15, hw15⟩ : ∃ w15, w15 = w14.alloc (Obj.cells #[.slice A7 ns.length c7, .slice A9 ms.length c9] 35) := ⟨_, rfl⟩
              have hb15 : Below w14.heap.size w14 w15 := by rw [hw15]; exact below_al (below_rf w14) _
              have hx15 : w15.heap[w14.heap.size]? = some (Obj.cells #[.slice A7 ns.length c7, .slice A9 ms.length c9] 35 (0, 0)) := by rw [hw15]; exact heap_new _ _
              have HCL : Hid (Calls Try.prog 23 #[.slice (some ⟨w14.heap.size, 0, none⟩) 2 2] w15 fun e w' => (∃ r, e = .returned (.bool r) ∧ (r = false → NoC [ns, ms].flatten [ns, ms].flatten)) ∧ Below w15.heap.size w15 w') :=
                hid (clash9_any w14.heap.size 0 2 [ns, ms] (by simp) (by simp; omega) (fun l hl s hs => by
                  rcases List.mem_cons.1 hl with e | hl
                  · subst e; have := HSHA.out s hs; omega
                  · obtain rfl := List.mem_singleton.1 hl; have := HSHB.out s hs; omega) w15 (fun j hj => by
                  rcases (by simp at hj; omega : j = 0 ∨ j = 1) with rfl | rfl
                  · exact ⟨A7, c7, by rw [Go.Lib.cell_of_heap hx15]; rfl, HNE.out.below hb15⟩
                  · exact ⟨A9, c9, by rw [Go.Lib.cell_of_heap hx15]; rfl, HME.out.below hb15⟩))
              have HBF := hid (below_tr HBE.out hb15)
              clear hb15 hx15
              go_wp2_with fail
              rw [← hw15]
              (with_reducible refine HCL.out.mono ?_); rintro e w16 ⟨⟨r, rfl, hr⟩, hb16⟩
              cases r with
              | true =>
                go_wp2
                go_ret
                exact ⟨rfl, below_tr HBF.out hb16⟩
              | false => exact absurd (HEND.out (hr rfl)) HQ.out
end Go.Proofs.Yteeonfnaikndfaa.W11
