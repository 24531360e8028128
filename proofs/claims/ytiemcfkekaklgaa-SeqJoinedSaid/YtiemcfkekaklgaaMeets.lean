/- SeqMeets: two joined have each key once, rising, with what each side has. -/
import Derived.Test.YtiemcfkekaklgaaAw02
import Derived.Test.YtiemcfkekaklgaaJoindI
import Derived.Test.YtiemcfkekaklgaaR02
set_option linter.unusedVariables false
set_option linter.unusedSimpArgs false
namespace Go.Proofs.Ytiemcfkekaklgaa.W02
open Go.RowKit Go.Shelf Go.Proofs.Ytiemcfkekaklgaa.Lib Go.Proofs.Ytiemcfkekaklgaa.Prs Go.Proofs.Ytiemcfkekaklgaa.Run Go.Proofs.Ytiemcfkekaklgaa.Runs Go.Proofs.Ytiemcfkekaklgaa.Stab Go.Proofs.Ytiemcfkekaklgaa.QTail Go.Proofs.Ytiemcfkekaklgaa.Lt Go.Proofs.Ytiemcfkekaklgaa.Sp Go.Proofs.Ytiemcfkekaklgaa.Join
attribute [local go_sem] Str_toList
theorem ris_asc {r : List Itm} (h : Ris r) : Asc r := by
  intro s t hst ht
  unfold Ris at h
  rw [List.pairwise_iff_getElem] at h
  rw [itm_eq r s (by omega), itm_eq r t ht]
  exact h s t (by omega) ht hst
theorem asc_btd {J : List Bo} (h : J.Pairwise fun x y => ltS x.1 y.1 = true) (k : Nat) (hk : k + 1 < J.length) : ltS (btd J k).1 (btd J (k + 1)).1 = true := by
  rw [List.pairwise_iff_getElem] at h
  rw [btd_eq J k (by omega), btd_eq J (k + 1) hk]
  exact h k (k + 1) (by omega) hk (by omega)
theorem lefts_at {J : List Bo} {k : Nat} (hk : k < J.length) (hl : (btd J k).2.2.2.1 = true) : (lefts (J.take k)).length < (lefts J).length ∧ itm (lefts J) (lefts (J.take k)).length = ((btd J k).1, (btd J k).2.1) ∧ (lefts (J.take (k + 1))).length = (lefts (J.take k)).length + 1 := by
  have e : lefts (J.take (k + 1)) = lefts (J.take k) ++ [((btd J k).1, (btd J k).2.1)] := by rw [take_btd J k hk, lefts_app]; simp [lefts, hl]
  have e2 : lefts J = lefts (J.take k) ++ ([((btd J k).1, (btd J k).2.1)] ++ lefts (J.drop (k + 1))) := by
    rw [← List.append_assoc, ← e, ← lefts_app, List.take_append_drop]
  refine ⟨by rw [e2]; simp, ?_, by rw [e]; simp⟩
  rw [e2]
  simp [itm, List.getD_eq_getElem?_getD]
theorem lefts_no {J : List Bo} {k : Nat} (hk : k < J.length) (hl : (btd J k).2.2.2.1 = false) : (lefts (J.take (k + 1))).length = (lefts (J.take k)).length := by
  rw [take_btd J k hk, lefts_app]; simp [lefts, hl]
theorem rights_at {J : List Bo} {k : Nat} (hk : k < J.length) (hl : (btd J k).2.2.2.2 = true) : (rights (J.take k)).length < (rights J).length ∧ itm (rights J) (rights (J.take k)).length = ((btd J k).1, (btd J k).2.2.1) ∧ (rights (J.take (k + 1))).length = (rights (J.take k)).length + 1 := by
  have e : rights (J.take (k + 1)) = rights (J.take k) ++ [((btd J k).1, (btd J k).2.2.1)] := by rw [take_btd J k hk, rights_app]; simp [rights, hl]
  have e2 : rights J = rights (J.take k) ++ ([((btd J k).1, (btd J k).2.2.1)] ++ rights (J.drop (k + 1))) := by
    rw [← List.append_assoc, ← e, ← rights_app, List.take_append_drop]
  refine ⟨by rw [e2]; simp, ?_, by rw [e]; simp⟩
  rw [e2]
  simp [itm, List.getD_eq_getElem?_getD]
theorem rights_no {J : List Bo} {k : Nat} (hk : k < J.length) (hl : (btd J k).2.2.2.2 = false) : (rights (J.take (k + 1))).length = (rights (J.take k)).length := by
  rw [take_btd J k hk, rights_app]; simp [rights, hl]
set_option maxRecDepth 100000 in
set_option maxHeartbeats 3200000 in
theorem meets_any (A B : Option Addr) (c d : Nat) (l m : List Itm) (hl : l.length ≤ 100000000000000) (hm : m.length ≤ 100000000000000) (w : World) (hrl : Rd w A (its l)) (hrm : Rd w B (its m)) :
    Calls Try.prog 6 #[.slice A l.length c, .slice B m.length d] w fun e w' => e = .returned (.bool true) ∧ Below w.heap.size w w' := by
  have HRL := hid hrl
  have HRM := hid hrm
  clear hrl hrm
  go_enter Try.func6, Try.ntmps6
  go_wp2_with fail
  refine (awake_any w).mono ?_; rintro e w0 ⟨rfl, hb0⟩
  have HB0 := hid hb0
  clear hb0
  by_cases h1 : 100 < l.length
  · have q1 : decide ((100 : Int) < (l.length : Int)) = true := decide_eq_true (by omega)
    go_wp2
    go_ret
    exact ⟨rfl, HB0.out⟩
  have q1 : decide ((100 : Int) < (l.length : Int)) = false := decide_eq_false (by omega)
  by_cases h2 : 100 < m.length
  · have q2 : decide ((100 : Int) < (m.length : Int)) = true := decide_eq_true (by omega)
    go_wp2
    go_ret
    exact ⟨rfl, HB0.out⟩
  have q2 : decide ((100 : Int) < (m.length : Int)) = false := decide_eq_false (by omega)
  have HSL := hid (R02.sorted_any A c l (by omega) w0 (HRL.out.below HB0.out))
  go_wp2_with fail
  refine HSL.out.mono ?_; rintro e w1 ⟨⟨rl, v1, rfl, hown1, hso1, hlen1⟩, hb1⟩
  obtain ⟨A1, c1, rfl, hcc1, hrd1, hA1, hsp1⟩ := Rd.own' hown1
  have HPA := hid (pairs_any A1 c1 rl (by omega) w1 hrd1)
  have HB1 := hid (below_tr HB0.out hb1)
  have HSO1 := hid hso1
  clear hb1 hown1 hrd1 hso1 hA1 hsp1 hcc1
  go_wp2_with fail
  refine HPA.out.mono ?_; rintro e w2 ⟨⟨va, rfl, hown2⟩, hb2⟩
  have HB2 := hid (below_tr HB1.out hb2)
  have HOA := hid hown2
  have HSM := hid (R02.sorted_any B d m (by omega) w2 (HRM.out.below HB2.out))
  clear hb2 hown2
  go_wp2_with fail
  refine HSM.out.mono ?_; rintro e w3 ⟨⟨rm, v3, rfl, hown3, hso3, hlen3⟩, hb3⟩
  obtain ⟨A3, c3, rfl, hcc3, hrd3, hA3, hsp3⟩ := Rd.own' hown3
  have HPB := hid (pairs_any A3 c3 rm (by omega) w3 hrd3)
  have HB3 := hid (below_tr HB2.out hb3)
  have HO3 := hid (own_of_below HOA.out hb3)
  have HSO3 := hid hso3
  clear hb3 hown3 hrd3 hso3 hA3 hsp3 hcc3
  go_wp2_with fail
  refine HPB.out.mono ?_; rintro e w4 ⟨⟨vb, rfl, hown4⟩, hb4⟩
  obtain ⟨Aa, ca, rfl, hca, hrda, hAa, hspa⟩ := Rd.own' (own_of_below HO3.out hb4)
  obtain ⟨Ab, cb, rfl, hcb, hrdb, hAb, hspb⟩ := Rd.own' hown4
  have HB4 := hid (below_tr HB3.out hb4)
  have hlta : ∀ b o, Aa = some ⟨b, o, none⟩ → b < w3.heap.size := by
    rintro b o rfl
    exact own_lt' HO3.out b rfl
  have hgeb : ∀ b o, Ab = some ⟨b, o, none⟩ → w3.heap.size ≤ b ∧ b < w4.heap.size := by
    rintro b o rfl
    exact ⟨own_block_base hown4 b rfl, own_lt' hown4 b rfl⟩
  have hs4 := hb4.size
  have HLA := hid hlta
  have HGB := hid hgeb
  have HRDA := hid hrda
  have HRDB := hid hrdb
  have HAB := hid hAb
  have HSPB := hid hspb
  clear hb4 hown4 hrda hrdb hAa hspa hAb hspb hlta hgeb
  go_wp2_with fail
  refine (of_any Aa rl.length ca w4).mono ?_; rintro e w5 ⟨rfl, hw5⟩
  have hal : Below w4.heap.size w4 w5 := by rw [hw5]; exact below_al (below_rf w4) _
  have hz5 : w5.heap.size = w4.heap.size + 1 := by rw [hw5]; simp
  have hc5 : w5.cell? ⟨w4.heap.size, 0, none⟩ = some (.slice Aa rl.length ca) := by rw [hw5, World.cell?_alloc_at _ _ _ _ rfl]; rfl
  have hRl : ∀ k, ROf w4.heap.size Aa k → k < w5.heap.size := fun k hk => by
    rcases hk with h | ⟨b, o, e, h⟩
    · omega
    · have := HLA.out b o e; omega
  have HJ := hid (joined_any 38 #[.pointer (some ⟨w4.heap.size, 0, none⟩)] (enters_of Try.func38 (by kernel_rfl) rfl) rl rm (by omega) (by omega) _ _ (of_iter w4.heap.size Aa ca rl (by omega) w5 hc5 (HRDA.out.below hal) hRl) w5 hRl (fun k hk => rfl)
    (fun k => ∃ o, Ab = some ⟨k, o, none⟩) (fun k ⟨o, e⟩ hr => by
      have := HGB.out k o e
      rcases hr with h | ⟨b, o', e', h⟩
      · omega
      · have := HLA.out b o' e'; omega) (fun k ⟨o, e⟩ => by have := HGB.out k o e; omega) Ab cb hcb (HRDB.out.below hal) HAB.out HSPB.out (fun bb oo e => ⟨oo, e⟩))
  have HB5 := hid (below_tr HB4.out hal)
  have HRA5 := hid (HRDA.out.below hal)
  have HRB5 := hid (HRDB.out.below hal)
  clear hw5 hal hc5 hRl
  go_wp2_with fail
  refine HJ.out.mono ?_; rintro e w6 ⟨⟨vj, rfl, hown6⟩, hm6, hT6⟩
  have hb6 := hm6.quiet hT6
  obtain ⟨hbl, hbr, hbz⟩ := join_both rl rm
  have hris := join_ris (b := rm) HSO1.out.ris (ris_asc HSO3.out.ris)
  obtain ⟨J, hJ⟩ : ∃ J, J = joinP rl rm := ⟨_, rfl⟩
  rw [← hJ] at hbl hbr hbz hris hown6
  obtain ⟨Aj, cj, rfl, hcj, hrdj, _, _⟩ := Rd.own' hown6
  have hNm : J.length ≤ 1000000000 := by
    have hjl := joinL_len rl rm
    rw [hJ]; unfold joinP
    rw [List.length_append, List.length_map, List.length_drop]; omega
  obtain ⟨N, hN⟩ : ∃ N, N = J.length := ⟨_, rfl⟩
  rw [← hN] at hNm ⊢
  have HNN := hid hN
  have HB6 := hid (below_tr HB5.out hb6)
  have HRA := hid (HRA5.out.below hb6)
  have HRB := hid (HRB5.out.below hb6)
  have HRJ := hid hrdj
  have HBL := hid hbl
  have HBR := hid hbr
  have HBZ := hid hbz
  have HRIS := hid hris
  clear hbl hbr hbz hris hJ hown6 hcj hrdj hb6 hm6 hT6 hN
  go_wp2
  go_loopw [8, 9, 34] (fun a b i wr => ∃ k p q : Nat, k ≤ N ∧ i = .int .i64 (k : Int) ∧ a = .int .i64 (p : Int) ∧ b = .int .i64 (q : Int) ∧ Hid ((lefts (J.take k)).length = p) ∧ Hid ((rights (J.take k)).length = q) ∧ Below w6.heap.size w6 wr) (fun _ _ i _ => N - (intOf i).toNat)
  case atStart => exact ⟨0, 0, 0, Nat.zero_le _, rfl, rfl, rfl, hid rfl, hid rfl, below_rf w6⟩
  case round =>
    obtain ⟨k, p, q, hk, rfl, rfl, rfl, HP, HQ, hB⟩ := hrel
    by_cases hlt : k < N
    · have hkJ : k < J.length := by rw [← HNN.out]; exact hlt
      obtain ⟨gj, oj, e9, j1, j2, j3, j4, j5⟩ := rd_btd (HRJ.out.below hB) hkJ
      subst e9
      have HLS := fun h => lefts_at (J := J) hkJ h
      have HLN := fun h => lefts_no (J := J) hkJ h
      have HRS := fun h => rights_at (J := J) hkJ h
      have HRN := fun h => rights_no (J := J) hkJ h
      have hone := HBZ.out (btd J k) (by rw [btd_eq J k hkJ]; exact List.getElem_mem hkJ)
      obtain ⟨⟨zk, zl, zr, zh, zg⟩, hz⟩ : ∃ z, z = btd J k := ⟨_, rfl⟩
      rw [← hz] at j1 j2 j3 j4 j5 HLS HLN HRS HRN hone
      dsimp only at j1 j2 j3 j4 j5 HLS HLN HRS HRN hone
      have hal : Below wr.heap.size wr (wr.alloc (Obj.cells #[.string (Str zk), .int .i64 zl, .int .i64 zr, .bool zh, .bool zg] 45)) := below_al (below_rf wr) _
      have hB9 := hid (below_tr hB hal)
      have hra := HRA.out.below hB9.out
      have hrb := HRB.out.below hB9.out
      have hwk : IntKind.i64.wrap (p : Int) = (p : Int) := by
        have := HP.out
        have h9 : (lefts (J.take k)).length ≤ k := by unfold lefts; rw [List.length_map]; exact Nat.le_trans (List.length_filter_le _ _) (by rw [List.length_take]; omega)
        rw [IntKind.wrap_i64]; omega
      have hwq : IntKind.i64.wrap (q : Int) = (q : Int) := by
        have := HQ.out
        have h9 : (rights (J.take k)).length ≤ k := by unfold rights; rw [List.length_map]; exact Nat.le_trans (List.length_filter_le _ _) (by rw [List.length_take]; omega)
        rw [IntKind.wrap_i64]; omega
      have HZK : Hid ((btd J k).1 = zk) := hid (by rw [← hz])
      cases zh with
      | true =>
        cases zg with
        | true =>
          obtain ⟨l1, l2, l3⟩ := HLS rfl
          rw [HBL.out, HP.out] at l1
          rw [HBL.out, HP.out] at l2
          obtain ⟨ga, oa, e8, a1, a2⟩ := rd_itm hra l1
          subst e8
          rw [l2] at a1 a2
          dsimp only at a1 a2
          have g1 : ((p : Int) == (rl.length : Int)) = false := beq_eq_false_iff_ne.2 (by omega)
          have HL3 : Hid ((lefts (J.take (k + 1))).length = p + 1) := hid (by rw [l3, HP.out])
          clear l2 l3
          obtain ⟨r1, r2, r3⟩ := HRS rfl
          rw [HBR.out, HQ.out] at r1
          rw [HBR.out, HQ.out] at r2
          obtain ⟨gb, ob, e7, b1, b2⟩ := rd_itm hrb r1
          subst e7
          rw [r2] at b1 b2
          dsimp only at b1 b2
          have g2 : ((q : Int) == (rm.length : Int)) = false := beq_eq_false_iff_ne.2 (by omega)
          have HR3 : Hid ((rights (J.take (k + 1))).length = q + 1) := hid (by rw [r3, HQ.out])
          clear r2 r3
          clear HLS HLN HRS HRN hone hra hrb hz hal
          cases k with
          | zero =>
            rw [show oj + 0 * 5 = oj by omega] at j1 j2 j3 j4 j5
            go_wp2
            go_quiet (fail)
            go_wp2
            go_quiet (fail)
            go_wp2
            go_quiet (fail)
            go_wp2
            go_roundw
            case rel => exact ⟨0 + 1, p + 1, q + 1, by omega, by simp, by simp, by simp, HL3, HR3, (by first | exact below_drewN hB9.out _ | exact hB9.out)⟩
            case measure => simp [intOf]; omega
          | succ k =>
            have hwk1 : IntKind.i64.wrap (k : Int) = (k : Int) := by rw [IntKind.wrap_i64]; omega
            have hlt9 := asc_btd HRIS.out k hkJ
            obtain ⟨g0, o0, e6, y1, _⟩ := rd_btd (HRJ.out.below hB9.out) (j := k) (by omega)
            injection e6 with e6; injection e6 with e61 e62; subst e61; subst e62
            rw [HZK.out] at hlt9
            obtain ⟨y, hy⟩ : ∃ y, y = (btd J k).1 := ⟨_, rfl⟩
            rw [← hy] at y1 hlt9
            have hlt9' : Op.bytesLess y zk = true := hlt9
            have hkn : k < N := by omega
            clear hy hlt9
            go_wp2
            go_quiet (fail)
            go_wp2
            go_quiet (fail)
            go_wp2
            go_quiet (fail)
            go_wp2
            go_roundw
            case rel => exact ⟨k + 1 + 1, p + 1, q + 1, by omega, by simp, by simp, by simp, HL3, HR3, (by first | exact below_drewN hB9.out _ | exact hB9.out)⟩
            case measure => simp [intOf]; omega
        | false =>
          obtain ⟨l1, l2, l3⟩ := HLS rfl
          rw [HBL.out, HP.out] at l1
          rw [HBL.out, HP.out] at l2
          obtain ⟨ga, oa, e8, a1, a2⟩ := rd_itm hra l1
          subst e8
          rw [l2] at a1 a2
          dsimp only at a1 a2
          have g1 : ((p : Int) == (rl.length : Int)) = false := beq_eq_false_iff_ne.2 (by omega)
          have HL3 : Hid ((lefts (J.take (k + 1))).length = p + 1) := hid (by rw [l3, HP.out])
          clear l2 l3
          have HR3 : Hid ((rights (J.take (k + 1))).length = q) := hid (by rw [HRN rfl, HQ.out])
          clear HLS HLN HRS HRN hone hra hrb hz hal
          cases k with
          | zero =>
            rw [show oj + 0 * 5 = oj by omega] at j1 j2 j3 j4 j5
            go_wp2
            go_quiet (fail)
            go_wp2
            go_quiet (fail)
            go_wp2
            go_roundw
            case rel => exact ⟨0 + 1, p + 1, q, by omega, by simp, by simp, rfl, HL3, HR3, (by first | exact below_drewN hB9.out _ | exact hB9.out)⟩
            case measure => simp [intOf]; omega
          | succ k =>
            have hwk1 : IntKind.i64.wrap (k : Int) = (k : Int) := by rw [IntKind.wrap_i64]; omega
            have hlt9 := asc_btd HRIS.out k hkJ
            obtain ⟨g0, o0, e6, y1, _⟩ := rd_btd (HRJ.out.below hB9.out) (j := k) (by omega)
            injection e6 with e6; injection e6 with e61 e62; subst e61; subst e62
            rw [HZK.out] at hlt9
            obtain ⟨y, hy⟩ : ∃ y, y = (btd J k).1 := ⟨_, rfl⟩
            rw [← hy] at y1 hlt9
            have hlt9' : Op.bytesLess y zk = true := hlt9
            have hkn : k < N := by omega
            clear hy hlt9
            go_wp2
            go_quiet (fail)
            go_wp2
            go_quiet (fail)
            go_wp2
            go_roundw
            case rel => exact ⟨k + 1 + 1, p + 1, q, by omega, by simp, by simp, rfl, HL3, HR3, (by first | exact below_drewN hB9.out _ | exact hB9.out)⟩
            case measure => simp [intOf]; omega
      | false =>
        cases zg with
        | true =>
          have HL3 : Hid ((lefts (J.take (k + 1))).length = p) := hid (by rw [HLN rfl, HP.out])
          obtain ⟨r1, r2, r3⟩ := HRS rfl
          rw [HBR.out, HQ.out] at r1
          rw [HBR.out, HQ.out] at r2
          obtain ⟨gb, ob, e7, b1, b2⟩ := rd_itm hrb r1
          subst e7
          rw [r2] at b1 b2
          dsimp only at b1 b2
          have g2 : ((q : Int) == (rm.length : Int)) = false := beq_eq_false_iff_ne.2 (by omega)
          have HR3 : Hid ((rights (J.take (k + 1))).length = q + 1) := hid (by rw [r3, HQ.out])
          clear r2 r3
          clear HLS HLN HRS HRN hone hra hrb hz hal
          cases k with
          | zero =>
            rw [show oj + 0 * 5 = oj by omega] at j1 j2 j3 j4 j5
            go_wp2
            go_quiet (fail)
            go_wp2
            go_quiet (fail)
            go_wp2
            go_roundw
            case rel => exact ⟨0 + 1, p, q + 1, by omega, by simp, rfl, by simp, HL3, HR3, (by first | exact below_drewN hB9.out _ | exact hB9.out)⟩
            case measure => simp [intOf]; omega
          | succ k =>
            have hwk1 : IntKind.i64.wrap (k : Int) = (k : Int) := by rw [IntKind.wrap_i64]; omega
            have hlt9 := asc_btd HRIS.out k hkJ
            obtain ⟨g0, o0, e6, y1, _⟩ := rd_btd (HRJ.out.below hB9.out) (j := k) (by omega)
            injection e6 with e6; injection e6 with e61 e62; subst e61; subst e62
            rw [HZK.out] at hlt9
            obtain ⟨y, hy⟩ : ∃ y, y = (btd J k).1 := ⟨_, rfl⟩
            rw [← hy] at y1 hlt9
            have hlt9' : Op.bytesLess y zk = true := hlt9
            have hkn : k < N := by omega
            clear hy hlt9
            go_wp2
            go_quiet (fail)
            go_wp2
            go_quiet (fail)
            go_wp2
            go_roundw
            case rel => exact ⟨k + 1 + 1, p, q + 1, by omega, by simp, rfl, by simp, HL3, HR3, (by first | exact below_drewN hB9.out _ | exact hB9.out)⟩
            case measure => simp [intOf]; omega
        | false =>
          rcases hone with h | h <;> cases h
    · obtain rfl : k = N := by omega
      have e1 : p = rl.length := by have := HP.out; rw [List.take_of_length_le (by rw [HNN.out]; exact Nat.le_refl _), HBL.out] at this; exact this.symm
      have e2 : q = rm.length := by have := HQ.out; rw [List.take_of_length_le (by rw [HNN.out]; exact Nat.le_refl _), HBR.out] at this; exact this.symm
      have g1 : ((p : Int) == (rl.length : Int)) = true := beq_iff_eq.2 (by omega)
      have g2 : ((q : Int) == (rm.length : Int)) = true := beq_iff_eq.2 (by omega)
      have HB7 := hid (below_tr HB6.out hB)
      clear e1 e2
      go_wp2
      go_ret
      exact ⟨rfl, HB7.out⟩
end Go.Proofs.Ytiemcfkekaklgaa.W02
