/- The law of proofs, walked. -/
import Derived.Test.YteeonfnaikndfaaL11
import Derived.Test.YteeonfnaikndfaaWitw
import Derived.Test.YteeonfnaikndfaaP11w
set_option linter.unusedVariables false
set_option linter.unusedSimpArgs false
namespace Go.Proofs.Yteeonfnaikndfaa.W11
open Go Go.RowKit Go.Proofs.Yteeonfnaikndfaa.Lib Go.Proofs.Yteeonfnaikndfaa.Sha Go.Proofs.Yteeonfnaikndfaa.T07 Go.Proofs.Yteeonfnaikndfaa.T08 Go.Proofs.Yteeonfnaikndfaa.QTail Go.Proofs.Yteeonfnaikndfaa.Itms Go.Proofs.Yteeonfnaikndfaa.WSeq Go.Proofs.Yteeonfnaikndfaa.Ord Go.Proofs.Yteeonfnaikndfaa.Tree Go.Proofs.Yteeonfnaikndfaa.W08 Go.Proofs.Yteeonfnaikndfaa.Wit Go.Proofs.Yteeonfnaikndfaa.W01 Go.Proofs.Yteeonfnaikndfaa.Bld Go.Proofs.Yteeonfnaikndfaa.Mp Go.Proofs.Yteeonfnaikndfaa.Inj
open Go.Proofs.Yteeonfnaikndfaa.Run hiding round_any yield_any
attribute [local go_sem] Str_size Str_toList Str_extract
theorem heap_getL (ns : List (List UInt8)) : heapF ns = P08.getL ns := funext (P08.get_heap ns)
theorem look_snoc (m : List Itm) (hu : Up m) (key : List UInt8) (k : Nat) (h : k < m.length) : lookS (m.take (k + 1)) key = if (itm m k).1 = key then some (itm m k).2 else lookS (m.take k) key := by
  rw [take_itm m k h, look_app]
  by_cases e : (itm m k).1 = key
  · rw [if_pos e]
    have h1 : lookS (m.take k) key = none := look_none _ _ (fun y hy => by
      have hs : m = m.take k ++ m.drop k := (List.take_append_drop k m).symm
      rw [hs] at hu
      have := (List.pairwise_append.1 hu).2.2 y hy (m[k]'h) (by rw [List.drop_eq_getElem_cons h]; exact List.mem_cons_self ..)
      rw [← itm_eq m k h, e] at this
      exact lt_ne this)
    rw [h1]
    unfold lookS
    rw [List.find?_cons_of_pos (by simpa using e)]; rfl
  · rw [if_neg e]
    have h1 : lookS [itm m k] key = none := look_none _ _ (fun y hy => by rw [List.mem_singleton.1 hy]; exact e)
    rw [h1]; cases lookS (m.take k) key <;> rfl
theorem vT_some (s : Option (List UInt8)) : vT (some s) = (s.getD [], s.isSome, true) := by cases s <;> rfl
/-- the texts of a way, or none -/
def wayT (f : Src) (key root : List UInt8) : List (List UInt8) := ((wayS (srcNx f) key () root).map (·.1)).getD []
theorem wayT_short (ns : List (List UInt8)) (hs : ∀ s ∈ ns, s.length ≤ 3000000) (key root : List UInt8) : (wayT (heapF ns) key root).length ≤ 34 ∧ (∀ t ∈ wayT (heapF ns) key root, t.length ≤ 3000000) ∧ (bytesS (wayT (heapF ns) key root)).length ≤ 1000000000000 := by
  unfold wayT
  rcases hw : wayS (srcNx (heapF ns)) key () root with _ | ⟨ts, n, z⟩
  · refine ⟨by simp, fun t ht => by simp at ht, ?_⟩
    show (bytesS []).length ≤ _
    exact Nat.zero_le _
  · have h1 := (way_parse _ _ _ _ _ _ _ _ _ _ hw).2.2
    have h2 : ∀ t ∈ ts, t.length ≤ 3000000 := way_all (heapF ns) (fun t => t.length ≤ 3000000) (fun k s h => hs s (heap_mem h).1) key _ _ _ _ _ _ _ hw
    refine ⟨h1, h2, ?_⟩
    have h3 := bytes_len ts 3000000 h2
    have h4 : ts.length * (3000000 + 4) ≤ 34 * 3000004 := Nat.mul_le_mul h1 (Nat.le_refl _)
    show (bytesS ts).length ≤ _
    omega
set_option maxRecDepth 100000 in
set_option maxHeartbeats 8000000 in
theorem proves_any (A : Option Addr) (c : Nat) (m : List Itm) (key : List UInt8) (hq : MapQ m) (w : World) (hrd : Rd w A (its m)) :
    Calls Try.prog 15 #[.slice A m.length c, .string (Str key)] w fun e w' => e = .returned (.bool true) ∧ Below w.heap.size w w' := by
  have HA := hid hrd
  have hml := hq.len
  have HQ := hid hq
  clear hrd hq
  go_enter Try.func15, Try.ntmps15
  go_wp2_with fail
  refine (pairs_any A c m (by omega) w HA.out).mono ?_; rintro e w1 ⟨⟨v1, rfl, hown1⟩, hb1⟩
  obtain ⟨Ap, cp, rfl, hcp, hrp, _, _⟩ := Rd.own' hown1
  go_wp2_with fail
  refine (build_any Ap cp m hcp (by omega) w1 (fun b o e => own_low hown1 e) hrp).mono ?_; rintro e w2 ⟨ho2, hb2⟩
  have HB2 := hid (below_tr hb1 hb2)
  clear hown1 hrp hb1 hb2 hcp
  rcases ho2 with ⟨hf, _⟩ | ⟨_, v2, rfl, hown2⟩
  · rw [HQ.out.right] at hf; cases hf
  obtain ⟨A2, c2, rfl, hc2, hr2, _, _⟩ := Rd.own' hown2
  have na := HQ.out.nodes
  have ra := HQ.out.root
  have HSH := hid HQ.out.short
  have HF := hid HQ.out.hf
  have HUP := hid HQ.out.up
  have hlw := proves_law m HQ.out
  obtain ⟨rt, hrt⟩ : ∃ t, t = (treeS m).1 := ⟨_, rfl⟩
  obtain ⟨ns, hns⟩ : ∃ t, t = (treeS m).2 := ⟨_, rfl⟩
  rw [← hrt] at ra hlw ⊢
  rw [← hns] at na HSH HF hlw hr2 ⊢
  have HLW := hid hlw
  have HR2 := hid hr2
  clear hown2 hc2 hr2 hlw hrt hns HQ
  go_wp2_with fail
  (with_reducible refine (newheap_gen ns A2 c2 w2 (by omega) HR2.out HSH.out).mono ?_); rintro e w3 ⟨⟨hb, mb, n, rfl, hH⟩, hb3⟩
  have HH3 := hid hH
  have HB3 := hid (below_tr HB2.out hb3)
  have HR3 := hid (HR2.out.below hb3)
  clear hH hb3 HR2
  go_wp2_with fail
  (with_reducible refine (prove_gen hb mb n (heapF ns) HF.out rt key (by omega) w3 HH3.out).mono ?_); rintro e w4 ⟨⟨kp, rfl, hkp⟩, hb4⟩
  have HKP := hid hkp
  have HB4 := hid (below_tr HB3.out hb4)
  have HR4 := hid (HR3.out.below hb4)
  have HWY := hid (P08.rway_any A2 c2 ns rt key (by omega) (fun s hs => by have := HSH.out s hs; omega) w4 HR4.out)
  obtain ⟨pf, hpf⟩ : ∃ pf, pf = proveP (heapF ns) rt key := ⟨_, rfl⟩
  rw [← hpf]
  have HPF := hid hpf
  have HWT := hid (wayT_short ns HSH.out key rt)
  have HTE := hid (show wayT (heapF ns) key rt = ((wayS (srcNx (P08.getL ns)) key () rt).map (·.1)).getD [] by rw [← heap_getL]; rfl)
  obtain ⟨ts, hts⟩ : ∃ ts, ts = wayT (heapF ns) key rt := ⟨_, rfl⟩
  rw [← hts] at HWT HTE
  have HTS := hid hts
  clear hkp hb4 hpf HR3 HH3 HF hts
  go_wp2_with fail
  (with_reducible refine HWY.out.mono ?_); rintro e w5 ⟨ho, hb5⟩
  have hw5 : ∃ (A' : Option Addr) (c' : Nat) (ok : Bool), e = .returned (.tuple #[.slice A' ts.length c', .bool ok]) ∧ Rd w5 A' (strs ts) := by
    rcases ho with ⟨hr, rfl⟩ | ⟨l, v, hr, rfl, hown⟩
    · have e1 : ts = [] := by rw [HTE.out, hr]; rfl
      subst e1
      exact ⟨none, 0, false, rfl, .inl rfl⟩
    · have e1 : ts = l := by rw [HTE.out, hr]; rfl
      subst e1
      obtain ⟨A', c', rfl, _, hrr, _, _⟩ := Rd.own' hown
      exact ⟨A', c', true, rfl, hrr⟩
  obtain ⟨A5, c5, wok, rfl, hr5⟩ := hw5
  have HT5 := hid hr5
  have HB5 := hid (below_tr HB4.out hb5)
  have HR5 := hid (HR4.out.below hb5)
  have HVE := hid (verify_vt rt key pf (by omega) w5)
  have hend : NoC ns ns → kp = 0 ∧ pf = bytesS ts ∧ (vT (verifyS rt key pf)).2.2 = true ∧ (vT (verifyS rt key pf)).1 = (lookS m key).getD [] ∧ (vT (verifyS rt key pf)).2.1 = (lookS m key).isSome := fun hc => by
    obtain ⟨ts', n', z', h1, h2, _, h4⟩ := HLW.out hc key
    have e1 : ts = ts' := by rw [HTS.out]; unfold wayT; rw [h1]; rfl
    have e2 : pf = bytesS ts := by rw [HPF.out, h2, e1]
    rw [e2, e1, h4, vT_some]
    exact ⟨HKP.out (by rw [h1]; rfl), rfl, rfl, rfl, rfl⟩
  obtain ⟨⟨b1, b2, b3⟩, hb⟩ : ∃ t, t = vT (verifyS rt key pf) := ⟨_, rfl⟩
  rw [← hb] at HVE hend
  dsimp only at hend
  have HEND := hid hend
  clear hr5 hb5 HR4 HWY ho HTE HTS HPF HLW HKP hb hend
  go_wp2_with fail
  (with_reducible refine HVE.out.mono ?_); rintro e w6 ⟨rfl, hb6⟩
  have HB6 := hid (below_tr HB5.out hb6)
  have HR6 := hid (HR5.out.below hb6)
  have HT6 := hid (HT5.out.below hb6)
  have HA6 := hid (HA.out.below HB6.out)
  clear hb6 HR5 HT5 HVE
  go_wp2
  go_loopw [15, 16, 53] (fun wv sv jv wr => ∃ (k : Nat) (r : Option (List UInt8)), k ≤ m.length ∧ jv = .int .i64 (k : Int) ∧ Hid (r = lookS (m.take k) key) ∧ wv = .string (Str (r.getD [])) ∧ sv = .bool r.isSome ∧ Hid (Below w6.heap.size w6 wr)) (fun _ _ jv _ => m.length - (intOf jv).toNat)
  case atStart => exact ⟨0, none, by omega, rfl, hid rfl, by show _ = Value.string (Str []); rw [Str_nil], rfl, hid (below_rf w6)⟩
  case round =>
    obtain ⟨k, r, hk, rfl, HRK, rfl, rfl, HB⟩ := hrel
    by_cases hlt : k < m.length
    · obtain ⟨bm, om, rfl, hc1, hc2⟩ := rd_itm (HA6.out.below HB.out) hlt
      have hsn := look_snoc m HUP.out key k hlt
      obtain ⟨⟨yk, yv⟩, hy⟩ : ∃ y, y = itm m k := ⟨_, rfl⟩
      rw [← hy] at hc1 hc2 hsn
      dsimp only at hc1 hc2 hsn
      obtain ⟨w7, hw7⟩ : ∃ w7, w7 = wr.alloc (Obj.cells #[.string (Str yk), .string (Str yv)] 27) := ⟨_, rfl⟩
      have hb7 : Below wr.heap.size wr w7 := by rw [hw7]; exact below_al (below_rf wr) _
      have HB7 := hid (below_tr HB.out hb7)
      clear hy hb7
      by_cases he : yk = key
      · have g9 : (yk == key) = true := beq_iff_eq.2 he
        have HR9 := hid (show some yv = lookS (m.take (k + 1)) key by rw [hsn, if_pos he])
        clear he hsn
        go_wp2
        rw [← hw7]
        go_roundw
        case rel => exact ⟨k + 1, some yv, by omega, by go_num, HR9, rfl, rfl, HB7⟩
        case measure => simp [intOf]; omega
      · have g9 : (yk == key) = false := beq_eq_false_iff_ne.2 he
        have HR9 := hid (show r = lookS (m.take (k + 1)) key by rw [hsn, if_neg he, HRK.out])
        clear he hsn
        go_wp2
        rw [← hw7]
        go_roundw
        case rel => exact ⟨k + 1, r, by omega, by go_num, HR9, rfl, rfl, HB7⟩
        case measure => simp [intOf]; omega
    · obtain rfl : k = m.length := by omega
      rw [List.take_length] at HRK
      obtain ⟨rv, hrv⟩ : ∃ rv, rv = r.getD [] := ⟨_, rfl⟩
      obtain ⟨rs, hrs⟩ : ∃ rs, rs = r.isSome := ⟨_, rfl⟩
      obtain ⟨bs, hbs⟩ : ∃ bs, bs = bytesS ts := ⟨_, rfl⟩
      have HBY := hid (P08.rbytes_any A5 c5 ts (by have := HWT.out.1; omega) (fun s hs => by have := HWT.out.2.1 s hs; omega) HWT.out.2.2 wr (HT6.out.below HB.out))
      have HEND2 : Hid (NoC ns ns → kp = 0 ∧ pf = bs ∧ b3 = true ∧ b1 = rv ∧ b2 = rs) := hid (fun hc => by rw [hbs, hrv, hrs, HRK.out]; exact HEND.out hc)
      rw [← hbs] at HBY
      rw [← hrv, ← hrs]
      clear hbs hrv hrs HRK HEND hlt hk
      by_cases z1 : kp = 0
      · have q1 : (kp == 0) = true := beq_iff_eq.2 z1
        go_wp2_with fail
        (with_reducible refine HBY.out.mono ?_); rintro e w8 ⟨rfl, hb8⟩
        have HBE := hid (below_tr HB6.out (below_tr HB.out hb8))
        have HNE := hid ((HR6.out.below HB.out).below hb8)
        clear hb8 HBY
        by_cases z2 : pf = bs
        · have q2 : (pf == bs) = true := beq_iff_eq.2 z2
          cases b3 with
          | false =>
            obtain ⟨w15, hw15⟩ : ∃ w15, w15 = w8.alloc (Obj.cells #[.slice A2 ns.length c2] 35) := ⟨_, rfl⟩
            have hb15 : Below w8.heap.size w8 w15 := by rw [hw15]; exact below_al (below_rf w8) _
            have hx15 : w15.heap[w8.heap.size]? = some (Obj.cells #[.slice A2 ns.length c2] 35 (0, 0)) := by rw [hw15]; exact heap_new _ _
            have HCL : Hid (Calls Try.prog 23 #[.slice (some ⟨w8.heap.size, 0, none⟩) 1 1] w15 fun e w' => (∃ r, e = .returned (.bool r) ∧ (r = false → NoC [ns].flatten [ns].flatten)) ∧ Below w15.heap.size w15 w') :=
              hid (clash9_any w8.heap.size 0 1 [ns] (by simp) (by simp; omega) (fun l hl s hs => by
                obtain rfl := List.mem_singleton.1 hl; have := HSH.out s hs; omega) w15 (fun j hj => by
                obtain rfl : j = 0 := by simp at hj; omega
                exact ⟨A2, c2, by rw [Go.Lib.cell_of_heap hx15]; rfl, HNE.out.below hb15⟩))
            have HBF := hid (below_tr HBE.out hb15)
            clear hb15 hx15
            go_wp2_with fail
            rw [← hw15]
            (with_reducible refine HCL.out.mono ?_); rintro e w16 ⟨⟨r9, rfl, hr9⟩, hb16⟩
            cases r9 with
            | true =>
              go_wp2
              go_ret
              exact ⟨rfl, below_tr HBF.out hb16⟩
            | false => exact absurd (HEND2.out (by have := hr9 rfl; rwa [show [ns].flatten = ns by simp] at this)) (by simp [*])
          | true =>
            by_cases z4 : b1 = rv
            · have q4 : (b1 == rv) = true := beq_iff_eq.2 z4
              by_cases z5 : b2 = rs
              · have q5 : (b2 == rs) = true := beq_iff_eq.2 z5
                clear z1 z2 z4 z5 HEND2
                go_wp2
                go_ret
                exact ⟨rfl, HBE.out⟩
              · have q5 : (b2 == rs) = false := beq_eq_false_iff_ne.2 z5
                obtain ⟨w15, hw15⟩ : ∃ w15, w15 = w8.alloc (Obj.cells #[.slice A2 ns.length c2] 35) := ⟨_, rfl⟩
                have hb15 : Below w8.heap.size w8 w15 := by rw [hw15]; exact below_al (below_rf w8) _
                have hx15 : w15.heap[w8.heap.size]? = some (Obj.cells #[.slice A2 ns.length c2] 35 (0, 0)) := by rw [hw15]; exact heap_new _ _
                have HCL : Hid (Calls Try.prog 23 #[.slice (some ⟨w8.heap.size, 0, none⟩) 1 1] w15 fun e w' => (∃ r, e = .returned (.bool r) ∧ (r = false → NoC [ns].flatten [ns].flatten)) ∧ Below w15.heap.size w15 w') :=
                  hid (clash9_any w8.heap.size 0 1 [ns] (by simp) (by simp; omega) (fun l hl s hs => by
                    obtain rfl := List.mem_singleton.1 hl; have := HSH.out s hs; omega) w15 (fun j hj => by
                    obtain rfl : j = 0 := by simp at hj; omega
                    exact ⟨A2, c2, by rw [Go.Lib.cell_of_heap hx15]; rfl, HNE.out.below hb15⟩))
                have HBF := hid (below_tr HBE.out hb15)
                clear hb15 hx15
                go_wp2_with fail
                rw [← hw15]
                (with_reducible refine HCL.out.mono ?_); rintro e w16 ⟨⟨r9, rfl, hr9⟩, hb16⟩
                cases r9 with
                | true =>
                  go_wp2
                  go_ret
                  exact ⟨rfl, below_tr HBF.out hb16⟩
                | false => exact absurd (HEND2.out (by have := hr9 rfl; rwa [show [ns].flatten = ns by simp] at this)) (by simp [*])
            · have q4 : (b1 == rv) = false := beq_eq_false_iff_ne.2 z4
              obtain ⟨w15, hw15⟩ : ∃ w15, w15 = w8.alloc (Obj.cells #[.slice A2 ns.length c2] 35) := ⟨_, rfl⟩
              have hb15 : Below w8.heap.size w8 w15 := by rw [hw15]; exact below_al (below_rf w8) _
              have hx15 : w15.heap[w8.heap.size]? = some (Obj.cells #[.slice A2 ns.length c2] 35 (0, 0)) := by rw [hw15]; exact heap_new _ _
              have HCL : Hid (Calls Try.prog 23 #[.slice (some ⟨w8.heap.size, 0, none⟩) 1 1] w15 fun e w' => (∃ r, e = .returned (.bool r) ∧ (r = false → NoC [ns].flatten [ns].flatten)) ∧ Below w15.heap.size w15 w') :=
                hid (clash9_any w8.heap.size 0 1 [ns] (by simp) (by simp; omega) (fun l hl s hs => by
                  obtain rfl := List.mem_singleton.1 hl; have := HSH.out s hs; omega) w15 (fun j hj => by
                  obtain rfl : j = 0 := by simp at hj; omega
                  exact ⟨A2, c2, by rw [Go.Lib.cell_of_heap hx15]; rfl, HNE.out.below hb15⟩))
              have HBF := hid (below_tr HBE.out hb15)
              clear hb15 hx15
              go_wp2_with fail
              rw [← hw15]
              (with_reducible refine HCL.out.mono ?_); rintro e w16 ⟨⟨r9, rfl, hr9⟩, hb16⟩
              cases r9 with
              | true =>
                go_wp2
                go_ret
                exact ⟨rfl, below_tr HBF.out hb16⟩
              | false => exact absurd (HEND2.out (by have := hr9 rfl; rwa [show [ns].flatten = ns by simp] at this)) (by simp [*])
        · have q2 : (pf == bs) = false := beq_eq_false_iff_ne.2 z2
          obtain ⟨w15, hw15⟩ : ∃ w15, w15 = w8.alloc (Obj.cells #[.slice A2 ns.length c2] 35) := ⟨_, rfl⟩
          have hb15 : Below w8.heap.size w8 w15 := by rw [hw15]; exact below_al (below_rf w8) _
          have hx15 : w15.heap[w8.heap.size]? = some (Obj.cells #[.slice A2 ns.length c2] 35 (0, 0)) := by rw [hw15]; exact heap_new _ _
          have HCL : Hid (Calls Try.prog 23 #[.slice (some ⟨w8.heap.size, 0, none⟩) 1 1] w15 fun e w' => (∃ r, e = .returned (.bool r) ∧ (r = false → NoC [ns].flatten [ns].flatten)) ∧ Below w15.heap.size w15 w') :=
            hid (clash9_any w8.heap.size 0 1 [ns] (by simp) (by simp; omega) (fun l hl s hs => by
              obtain rfl := List.mem_singleton.1 hl; have := HSH.out s hs; omega) w15 (fun j hj => by
              obtain rfl : j = 0 := by simp at hj; omega
              exact ⟨A2, c2, by rw [Go.Lib.cell_of_heap hx15]; rfl, HNE.out.below hb15⟩))
          have HBF := hid (below_tr HBE.out hb15)
          clear hb15 hx15
          go_wp2_with fail
          rw [← hw15]
          (with_reducible refine HCL.out.mono ?_); rintro e w16 ⟨⟨r9, rfl, hr9⟩, hb16⟩
          cases r9 with
          | true =>
            go_wp2
            go_ret
            exact ⟨rfl, below_tr HBF.out hb16⟩
          | false => exact absurd (HEND2.out (by have := hr9 rfl; rwa [show [ns].flatten = ns by simp] at this)) (by simp [*])
      · have q1 : (kp == 0) = false := beq_eq_false_iff_ne.2 z1
        have HBE := hid (below_tr HB6.out HB.out)
        have HNE := hid (HR6.out.below HB.out)
        clear HBY
        obtain ⟨w15, hw15⟩ : ∃ w15, w15 = wr.alloc (Obj.cells #[.slice A2 ns.length c2] 35) := ⟨_, rfl⟩
        have hb15 : Below wr.heap.size wr w15 := by rw [hw15]; exact below_al (below_rf wr) _
        have hx15 : w15.heap[wr.heap.size]? = some (Obj.cells #[.slice A2 ns.length c2] 35 (0, 0)) := by rw [hw15]; exact heap_new _ _
        have HCL : Hid (Calls Try.prog 23 #[.slice (some ⟨wr.heap.size, 0, none⟩) 1 1] w15 fun e w' => (∃ r, e = .returned (.bool r) ∧ (r = false → NoC [ns].flatten [ns].flatten)) ∧ Below w15.heap.size w15 w') :=
          hid (clash9_any wr.heap.size 0 1 [ns] (by simp) (by simp; omega) (fun l hl s hs => by
            obtain rfl := List.mem_singleton.1 hl; have := HSH.out s hs; omega) w15 (fun j hj => by
            obtain rfl : j = 0 := by simp at hj; omega
            exact ⟨A2, c2, by rw [Go.Lib.cell_of_heap hx15]; rfl, HNE.out.below hb15⟩))
        have HBF := hid (below_tr HBE.out hb15)
        clear hb15 hx15
        go_wp2_with fail
        rw [← hw15]
        (with_reducible refine HCL.out.mono ?_); rintro e w16 ⟨⟨r9, rfl, hr9⟩, hb16⟩
        cases r9 with
        | true =>
          go_wp2
          go_ret
          exact ⟨rfl, below_tr HBF.out hb16⟩
        | false => exact absurd (HEND2.out (by have := hr9 rfl; rwa [show [ns].flatten = ns by simp] at this)) (by simp [*])
set_option maxRecDepth 100000 in
set_option maxHeartbeats 3200000 in
theorem provesl_any (A : Option Addr) (c : Nat) (l : List Itm) (key : List UInt8) (hl : l.length ≤ 1000000000000000000) (w : World) (hrd : Rd w A (its l)) (hsh : ∀ i, i < l.length → (itm l i).1.length ≤ 140737488355328 ∧ (itm l i).2.length ≤ 140737488355328) :
    Calls Try.prog 3 #[.slice A l.length c, .string (Str key)] w fun e w' => e = .returned (.bool true) ∧ Below w.heap.size w w' := by
  have HA := hid hrd
  have HSA := hid hsh
  clear hrd hsh
  go_enter Try.func3, Try.ntmps3
  go_wp2_with fail
  refine (awake11_any w).mono ?_; rintro e w1 ⟨rfl, hb1⟩
  go_wp2_with fail
  refine (few_any A c l hl w1 (HA.out.below hb1) HSA.out).mono ?_; rintro e w2 ⟨⟨r, rfl, hfa⟩, hb2⟩
  have HB2 := hid (below_tr hb1 hb2)
  clear hb1 hb2
  cases r with
  | false =>
    go_wp2
    go_ret
    exact ⟨rfl, HB2.out⟩
  | true =>
    have fa : FewS l := hfa rfl
    have hla := fa.1
    have HMQ := hid (map_q l fa)
    have hri := rising_any A c l (by omega) w2 (HA.out.below HB2.out)
    have hml := rising_len l l.length (Nat.le_refl _)
    rw [List.take_length] at hml
    obtain ⟨m, hm⟩ : ∃ m, m = risingS l := ⟨_, rfl⟩
    rw [← hm] at HMQ hri hml
    have HRI := hid hri
    clear hm fa hfa hri HSA hl
    go_wp2_with fail
    (with_reducible refine HRI.out.mono ?_); rintro e w3 ⟨⟨v, rfl, hown3⟩, hb3⟩
    obtain ⟨Am, cm, rfl, hcm, hrm, _, _⟩ := Rd.own' hown3
    have HRM := hid hrm
    have HB3 := hid (below_tr HB2.out hb3)
    have hm2 : m.length ≤ 200 := by omega
    have HPV := hid (fun (W : World) (hW : Below w3.heap.size w3 W) k => proves_any Am cm m k HMQ.out W (HRM.out.below hW))
    clear hown3 hrm hb3 HRI hcm HA hml hla
    go_wp2
    go_loopw [6] (fun iv wr => ∃ i : Nat, i ≤ 1000 ∧ iv = .int .i64 (i : Int) ∧ Hid (Below w3.heap.size w3 wr)) (fun iv _ => m.length + 1 - (intOf iv).toNat)
    case atStart => exact ⟨0, by omega, rfl, hid (below_rf w3)⟩
    case round =>
      obtain ⟨i, hi, rfl, HB⟩ := hrel
      by_cases hle : i ≤ m.length
      · have g1 : decide ((i : Int) ≤ (m.length : Int)) = true := decide_eq_true (by omega)
        have g1n : decide (i ≤ m.length) = true := decide_eq_true hle
        by_cases hlt : i < m.length
        · have g2 : decide ((i : Int) < (m.length : Int)) = true := decide_eq_true (by omega)
          obtain ⟨bm, om, rfl, hc1, hc2⟩ := rd_itm (HRM.out.below HB.out) hlt
          go_wp2_with fail
          (with_reducible refine (HPV.out wr HB.out _).mono ?_); rintro e w5 ⟨rfl, hb5⟩
          have HB5 := hid (below_tr HB.out hb5)
          clear hb5
          go_wp2
          go_roundw
          case rel => exact ⟨i + (1 + m.length / 10), by omega, by congr 1, HB5⟩
          case measure => simp only [intOf]; omega
        · have g2 : decide ((i : Int) < (m.length : Int)) = false := decide_eq_false (by omega)
          go_wp2_with fail
          (with_reducible refine (HPV.out wr HB.out _).mono ?_); rintro e w5 ⟨rfl, hb5⟩
          have HB5 := hid (below_tr HB.out hb5)
          clear hb5
          go_wp2
          go_roundw
          case rel => exact ⟨i + (1 + m.length / 10), by omega, by congr 1, HB5⟩
          case measure => simp only [intOf]; omega
      · have g1 : decide ((i : Int) ≤ (m.length : Int)) = false := decide_eq_false (by omega)
        have g1n : decide (i ≤ m.length) = false := decide_eq_false hle
        go_wp2_with fail
        (with_reducible refine (HPV.out wr HB.out _).mono ?_); rintro e w5 ⟨rfl, hb5⟩
        go_wp2
        go_ret
        exact ⟨rfl, HB3.out.trans ((below_tr HB.out hb5).mono HB3.out.size)⟩
end Go.Proofs.Yteeonfnaikndfaa.W11
