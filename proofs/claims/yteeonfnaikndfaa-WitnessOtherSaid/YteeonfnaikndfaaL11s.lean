/- The law of soundness of layer 11, walked. -/
import Derived.Test.YteeonfnaikndfaaL11
import Derived.Test.YteeonfnaikndfaaW11f
import Derived.Test.YteeonfnaikndfaaTreed
set_option linter.unusedVariables false
set_option linter.unusedSimpArgs false
namespace Go.Proofs.Yteeonfnaikndfaa.W11
open Go Go.RowKit Go.Proofs.Yteeonfnaikndfaa.Lib Go.Proofs.Yteeonfnaikndfaa.Sha Go.Proofs.Yteeonfnaikndfaa.T07 Go.Proofs.Yteeonfnaikndfaa.T08 Go.Proofs.Yteeonfnaikndfaa.QTail Go.Proofs.Yteeonfnaikndfaa.Itms Go.Proofs.Yteeonfnaikndfaa.WSeq Go.Proofs.Yteeonfnaikndfaa.Ord Go.Proofs.Yteeonfnaikndfaa.Tree Go.Proofs.Yteeonfnaikndfaa.W08 Go.Proofs.Yteeonfnaikndfaa.Wit Go.Proofs.Yteeonfnaikndfaa.W01 Go.Proofs.Yteeonfnaikndfaa.Bld Go.Proofs.Yteeonfnaikndfaa.Mp Go.Proofs.Yteeonfnaikndfaa.Inj
open Go.Proofs.Yteeonfnaikndfaa.Run hiding round_any yield_any
attribute [local go_sem] Str_size Str_toList Str_extract
theorem find_one {r : Option (Nat × List Itm)} {key : List UInt8} {e : Ending} (h : FindOut r key e) : ∃ (v : List UInt8) (b : Bool) (k : Int), e = .returned (.tuple #[.string (Str v), .bool b, .int .i64 k]) ∧ ((r = none ∧ k = 6) ∨ ∃ n, r = some n ∧ k = 0 ∧ v = (shownS n key).getD [] ∧ b = (shownS n key).isSome) := by
  cases r with
  | none => exact ⟨[], false, 6, h, .inl ⟨rfl, rfl⟩⟩
  | some n =>
    unfold FindOut at h
    dsimp only at h
    cases hs : shownS n key with
    | none => rw [hs] at h; exact ⟨[], false, 0, h, .inr ⟨n, rfl, rfl, by rw [hs]; rfl, by rw [hs]; rfl⟩⟩
    | some v => rw [hs] at h; exact ⟨v, true, 0, h, .inr ⟨n, rfl, rfl, by rw [hs]; rfl, by rw [hs]; rfl⟩⟩
theorem verify_one {r : Option (Option (List UInt8))} {e : Ending} (h : VerifyOut r e) : ∃ (v : List UInt8) (b ok : Bool), e = .returned (.tuple #[.string (Str v), .bool b, .bool ok]) ∧ ((r = none ∧ ok = false) ∨ ∃ s, r = some s ∧ ok = true ∧ v = s.getD [] ∧ b = s.isSome) := by
  cases r with
  | none => exact ⟨[], false, false, h, .inl ⟨rfl, rfl⟩⟩
  | some s =>
    cases s with
    | none => exact ⟨[], false, true, h, .inr ⟨none, rfl, rfl, rfl, rfl⟩⟩
    | some v => exact ⟨v, true, true, h, .inr ⟨some v, rfl, rfl, rfl, rfl⟩⟩
set_option maxRecDepth 100000 in
set_option maxHeartbeats 3000000 in
theorem sound_any (A : Option Addr) (c : Nat) (l : List Itm) (key proof : List UInt8) (hl : l.length ≤ 1000000000000000000) (w : World) (hrd : Rd w A (its l)) (hsh : ∀ i, i < l.length → (itm l i).1.length ≤ 140737488355328 ∧ (itm l i).2.length ≤ 140737488355328) (hpl : proof.length ≤ 140737488351232) :
    Calls Try.prog 8 #[.slice A l.length c, .string (Str key), .string (Str proof)] w fun e w' => e = .returned (.bool true) ∧ Below w.heap.size w w' := by
  have HA := hid hrd
  have HSA := hid hsh
  clear hrd hsh
  go_enter Try.func8, Try.ntmps8
  go_wp2_with fail
  refine (awake11_any w).mono ?_; rintro e w1 ⟨rfl, hb1⟩
  go_wp2_with fail
  refine (few_any A c l hl w1 (HA.out.below hb1) HSA.out).mono ?_; rintro e w2 ⟨⟨r, rfl, hfa⟩, hb2⟩
  have hB2 := below_tr hb1 hb2
  cases r with
  | false =>
    go_wp2
    go_ret
    exact ⟨rfl, hB2⟩
  | true =>
    have fa : FewS l := hfa rfl
    by_cases h2 : 20000 < proof.length
    · have g2 : decide ((20000 : Int) < (proof.length : Int)) = true := decide_eq_true (by omega)
      clear h2 hpl
      go_wp2
      go_ret
      exact ⟨rfl, hB2⟩
    · have g2 : decide ((20000 : Int) < (proof.length : Int)) = false := decide_eq_false (by omega)
      have hla := fa.1
      have hmq := map_q l fa
      have hp2 : proof.length ≤ 20000 := by omega
      clear hb1 hb2 hfa HSA hl h2 hpl
      go_wp2_with fail
      refine (rising_any A c l (by omega) w2 (HA.out.below hB2)).mono ?_; rintro e w3 ⟨⟨v, rfl, hown3⟩, hb3⟩
      have hB3 := below_tr hB2 hb3
      obtain ⟨m, hm⟩ : ∃ m, m = risingS l := ⟨_, rfl⟩
      rw [← hm] at hown3 hmq
      clear hm fa HA hla hB2
      have hml := hmq.len
      obtain ⟨Am, cm, rfl, hcm, hrm3, _, _⟩ := Rd.own' hown3
      clear hown3 hb3
      go_wp2_with fail
      refine (pairs_any Am cm m (by omega) w3 hrm3).mono ?_; rintro e w4 ⟨⟨v4, rfl, hown4⟩, hb4⟩
      obtain ⟨Ap, cp, rfl, hcp, hrp, _, _⟩ := Rd.own' hown4
      go_wp2_with fail
      refine (build_any Ap cp m hcp (by omega) w4 (fun b o e => own_low hown4 e) hrp).mono ?_; rintro e w5 ⟨ho5, hb5⟩
      have hB5 := below_tr hB3 (below_tr hb4 hb5)
      clear hown4 hrp hb4 hb5 hrm3 hB3 hcp hcm
      rcases ho5 with ⟨hf, _⟩ | ⟨_, v5, rfl, hown5⟩
      · rw [hmq.right] at hf; cases hf
      obtain ⟨An, cn, rfl, hcn, hrn, _, _⟩ := Rd.own' hown5
      have hnn := hmq.nodes
      have hsh := hmq.short
      have hhf := hmq.hf
      have hrt := hmq.root
      obtain ⟨rt, hrtE⟩ : ∃ x, x = (treeS m).1 := ⟨_, rfl⟩
      obtain ⟨ns, hnsE⟩ : ∃ x, x = (treeS m).2 := ⟨_, rfl⟩
      rw [← hrtE] at hrt ⊢
      rw [← hnsE] at hnn hsh hhf hrn ⊢
      have HSH := hid hsh
      have HHF := hid hhf
      have hrl : rt.length ≤ 1000000000 := by omega
      clear hrtE hnsE hown5 hmq hsh hhf hcn hrt
      go_wp2_with fail
      refine (newheap_any ns An cn w5 (by omega) hrn (fun i hi => by have := sat_all HSH.out i hi; omega)).mono ?_; rintro e w6 ⟨⟨hb, mb, n, rfl, hn, hH, _, _⟩, hb6⟩
      obtain ⟨s1, s2, s3⟩ := sound_law (heapF ns) ns (fun k s h => heap_mem h) rt key proof
      have HS1 := hid s1
      have HS2 := hid s2
      have HS3 := hid s3
      have HFN := hid (find_any hb mb n (heapF ns) HHF.out rt key hrl w6 hH)
      have HH := hid hH
      have HB6 := hid (below_tr hB5 hb6)
      have HRN6 := hid (hrn.below hb6)
      clear s1 s2 s3 hH hb6 hB5 hrn
      go_wp2_with fail
      (with_reducible refine HFN.out.mono ?_); rintro e w7 ⟨ho, hb7⟩
      obtain ⟨fv, fb, fk, rfl, hfi⟩ := find_one ho
      have HFI := hid hfi
      have HB7 := hid (below_tr HB6.out hb7)
      have HRN7 := hid (HRN6.out.below hb7)
      have HH7 := hid (HH.out.below hb7)
      have HVN := hid (verify_any rt key proof hrl w7)
      clear ho hfi hb7
      go_wp2_with fail
      (with_reducible refine HVN.out.mono ?_); rintro e w8 ⟨ho, hb8⟩
      obtain ⟨vv, vb, vok, rfl, hvi⟩ := verify_one ho
      have HVI := hid hvi
      have HB8 := hid (below_tr HB7.out hb8)
      have HRN8 := hid (HRN7.out.below hb8)
      have HCN := hid (clashw_any hb mb n (heapF ns) HHF.out rt key proof hrl w8 (HH7.out.below hb8))
      clear ho hvi hb8
      go_wp2_with fail
      (with_reducible refine HCN.out.mono ?_); rintro e w9 ⟨ho, hb9⟩
      have HB9 := hid (below_tr HB8.out hb9)
      have HRN9 := hid (HRN8.out.below hb9)
      have HCO := hid ho
      clear ho hb9
      have hdone : clashS (heapF ns) rt key proof = none → e = .returned (.tuple #[.string (Str []), .string (Str []), .bool false]) := fun h => by have := HCO.out; rw [h] at this; exact this
      rcases HVI.out with ⟨v1, rfl⟩ | ⟨s, v1, rfl, v2, v3⟩
      · obtain rfl := hdone (HS1.out v1)
        clear v1 hdone
        go_wp2
        go_ret
        exact ⟨by rw [Str_nil]; rfl, HB9.out⟩
      · rcases HFI.out with ⟨f1, rfl⟩ | ⟨q, f1, rfl, f2, f3⟩
        · obtain rfl := hdone (HS2.out f1)
          clear f1 v1 v2 v3 hdone
          go_wp2
          go_ret
          exact ⟨by rw [Str_nil]; rfl, HB9.out⟩
        · obtain ⟨z1, z2⟩ := HS3.out s q v1 f1
          have hiff : shownS q key = s ↔ vv = fv ∧ vb = fb := by
            rw [v2, v3, f2, f3]
            cases shownS q key <;> cases s <;> simp [eq_comm]
          clear v1 v2 v3 f1 f2 f3
          by_cases q1 : vv = fv
          · have t1 : (vv == fv) = true := beq_iff_eq.2 q1
            by_cases q2 : vb = fb
            · have t2 : (vb == fb) = true := beq_iff_eq.2 q2
              obtain rfl := hdone (z1 (hiff.2 ⟨q1, q2⟩))
              clear z1 z2 hiff hdone q1 q2
              go_wp2
              go_ret
              exact ⟨by rw [Str_nil]; rfl, HB9.out⟩
            · have t2 : (vb == fb) = false := beq_eq_false_iff_ne.2 q2
              obtain ⟨a, b, hc, hne, hsa2, hmem, hbl⟩ := z2 (fun h => q2 (hiff.1 h).2)
              have he := HCO.out
              rw [hc] at he
              obtain rfl : e = _ := he
              have HNE := hid hne
              have HSA2 := hid hsa2
              have HMEM := hid hmem
              have hbl2 : b.length ≤ 20000 := by omega
              clear z1 z2 hiff hdone q1 q2 hc hne hsa2 hmem HCO
              go_wp2
              go_loopw [21, 100] (fun sv ix wr => ∃ (k : Nat) (st : Bool), k ≤ ns.length ∧ sv = .bool st ∧ ix = .int .i64 (k : Int) ∧ Hid (st = true ↔ ∃ i, i < k ∧ sat ns i = a) ∧ wr = w9) (fun _ ix _ => ns.length - (intOf ix).toNat)
              case atStart => exact ⟨0, false, Nat.zero_le _, rfl, rfl, hid ⟨fun h => (by cases h), fun h => (by obtain ⟨i, h, _⟩ := h; omega)⟩, rfl⟩
              case round =>
                obtain ⟨k, st, hk, rfl, rfl, HST, rfl⟩ := hrel
                by_cases hlt : k < ns.length
                · obtain ⟨bn, on, rfl, hcn⟩ := Rd.str HRN9.out hlt
                  obtain ⟨x, hx⟩ : ∃ x, x = sat ns k := ⟨_, rfl⟩
                  rw [← hx] at hcn
                  have HX := hid hx
                  clear hx
                  cases st with
                  | true =>
                    have HN1 : Hid (true = true ↔ ∃ i, i < k + 1 ∧ sat ns i = a) := hid ⟨fun _ => by obtain ⟨i, h1, h2⟩ := HST.out.1 rfl; exact ⟨i, by omega, h2⟩, fun _ => rfl⟩
                    go_wp2
                    go_roundw
                    case rel => exact ⟨k + 1, true, by omega, rfl, by go_num, HN1, trivial⟩
                    case measure => simp [intOf]; omega
                  | false =>
                    by_cases he : x = a
                    · have e1 : (x == a) = true := beq_iff_eq.2 he
                      have HN1 : Hid (true = true ↔ ∃ i, i < k + 1 ∧ sat ns i = a) := hid ⟨fun _ => ⟨k, by omega, by rw [← HX.out, he]⟩, fun _ => rfl⟩
                      clear he
                      go_wp2
                      go_roundw
                      case rel => exact ⟨k + 1, true, by omega, rfl, by go_num, HN1, trivial⟩
                      case measure => simp [intOf]; omega
                    · have e1 : (x == a) = false := beq_eq_false_iff_ne.2 he
                      have HN1 : Hid (false = true ↔ ∃ i, i < k + 1 ∧ sat ns i = a) := hid ⟨fun h => (by cases h), fun h => (by
                        obtain ⟨i, h1, h2⟩ := h
                        by_cases hik : i = k
                        · subst hik; exact absurd (HX.out.trans h2) he
                        · exact HST.out.2 ⟨i, by omega, h2⟩)⟩
                      clear he
                      go_wp2
                      go_roundw
                      case rel => exact ⟨k + 1, false, by omega, rfl, by go_num, HN1, trivial⟩
                      case measure => simp [intOf]; omega
                · obtain rfl : k = ns.length := by omega
                  obtain rfl : st = true := by
                    obtain ⟨i, hi, he⟩ := List.getElem_of_mem HMEM.out
                    exact HST.out.2 ⟨i, hi, by rw [sat_eq ns i hi, he]⟩
                  have n1 : (a == b) = false := beq_eq_false_iff_ne.2 HNE.out
                  go_wp2_with fail
                  (with_reducible refine (print_ref_any a _ (by have := HSH.out a HMEM.out; omega)).mono ?_); rintro e w10 ⟨rfl, hb10⟩
                  have HB10 := hid (below_tr HB9.out hb10)
                  clear hb10
                  go_wp2_with fail
                  (with_reducible refine (print_ref_any b _ (by omega)).mono ?_); rintro e w11 ⟨rfl, hb11⟩
                  have HB11 := hid (below_tr HB10.out hb11)
                  rw [← HSA2.out]
                  obtain ⟨sa, hsa⟩ : ∃ sa, sa = sha a := ⟨_, rfl⟩
                  rw [← hsa]
                  have n2 : (sa == sa) = true := beq_self_eq_true sa
                  clear hb11 hsa
                  go_wp2
                  go_ret
                  exact ⟨rfl, HB11.out⟩
          · have t1 : (vv == fv) = false := beq_eq_false_iff_ne.2 q1
            obtain ⟨a, b, hc, hne, hsa2, hmem, hbl⟩ := z2 (fun h => q1 (hiff.1 h).1)
            have he := HCO.out
            rw [hc] at he
            obtain rfl : e = _ := he
            have HNE := hid hne
            have HSA2 := hid hsa2
            have HMEM := hid hmem
            have hbl2 : b.length ≤ 20000 := by omega
            clear z1 z2 hiff hdone q1 hc hne hsa2 hmem HCO
            go_wp2
            go_loopw [21, 100] (fun sv ix wr => ∃ (k : Nat) (st : Bool), k ≤ ns.length ∧ sv = .bool st ∧ ix = .int .i64 (k : Int) ∧ Hid (st = true ↔ ∃ i, i < k ∧ sat ns i = a) ∧ wr = w9) (fun _ ix _ => ns.length - (intOf ix).toNat)
            case atStart => exact ⟨0, false, Nat.zero_le _, rfl, rfl, hid ⟨fun h => (by cases h), fun h => (by obtain ⟨i, h, _⟩ := h; omega)⟩, rfl⟩
            case round =>
              obtain ⟨k, st, hk, rfl, rfl, HST, rfl⟩ := hrel
              by_cases hlt : k < ns.length
              · obtain ⟨bn, on, rfl, hcn⟩ := Rd.str HRN9.out hlt
                obtain ⟨x, hx⟩ : ∃ x, x = sat ns k := ⟨_, rfl⟩
                rw [← hx] at hcn
                have HX := hid hx
                clear hx
                cases st with
                | true =>
                  have HN1 : Hid (true = true ↔ ∃ i, i < k + 1 ∧ sat ns i = a) := hid ⟨fun _ => by obtain ⟨i, h1, h2⟩ := HST.out.1 rfl; exact ⟨i, by omega, h2⟩, fun _ => rfl⟩
                  go_wp2
                  go_roundw
                  case rel => exact ⟨k + 1, true, by omega, rfl, by go_num, HN1, trivial⟩
                  case measure => simp [intOf]; omega
                | false =>
                  by_cases he : x = a
                  · have e1 : (x == a) = true := beq_iff_eq.2 he
                    have HN1 : Hid (true = true ↔ ∃ i, i < k + 1 ∧ sat ns i = a) := hid ⟨fun _ => ⟨k, by omega, by rw [← HX.out, he]⟩, fun _ => rfl⟩
                    clear he
                    go_wp2
                    go_roundw
                    case rel => exact ⟨k + 1, true, by omega, rfl, by go_num, HN1, trivial⟩
                    case measure => simp [intOf]; omega
                  · have e1 : (x == a) = false := beq_eq_false_iff_ne.2 he
                    have HN1 : Hid (false = true ↔ ∃ i, i < k + 1 ∧ sat ns i = a) := hid ⟨fun h => (by cases h), fun h => (by
                      obtain ⟨i, h1, h2⟩ := h
                      by_cases hik : i = k
                      · subst hik; exact absurd (HX.out.trans h2) he
                      · exact HST.out.2 ⟨i, by omega, h2⟩)⟩
                    clear he
                    go_wp2
                    go_roundw
                    case rel => exact ⟨k + 1, false, by omega, rfl, by go_num, HN1, trivial⟩
                    case measure => simp [intOf]; omega
              · obtain rfl : k = ns.length := by omega
                obtain rfl : st = true := by
                  obtain ⟨i, hi, he⟩ := List.getElem_of_mem HMEM.out
                  exact HST.out.2 ⟨i, hi, by rw [sat_eq ns i hi, he]⟩
                have n1 : (a == b) = false := beq_eq_false_iff_ne.2 HNE.out
                go_wp2_with fail
                (with_reducible refine (print_ref_any a _ (by have := HSH.out a HMEM.out; omega)).mono ?_); rintro e w10 ⟨rfl, hb10⟩
                have HB10 := hid (below_tr HB9.out hb10)
                clear hb10
                go_wp2_with fail
                (with_reducible refine (print_ref_any b _ (by omega)).mono ?_); rintro e w11 ⟨rfl, hb11⟩
                have HB11 := hid (below_tr HB10.out hb11)
                rw [← HSA2.out]
                obtain ⟨sa, hsa⟩ : ∃ sa, sa = sha a := ⟨_, rfl⟩
                rw [← hsa]
                have n2 : (sa == sa) = true := beq_self_eq_true sa
                clear hb11 hsa
                go_wp2
                go_ret
                exact ⟨rfl, HB11.out⟩
end Go.Proofs.Yteeonfnaikndfaa.W11
