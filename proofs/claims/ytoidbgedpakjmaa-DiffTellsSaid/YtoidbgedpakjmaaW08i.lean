/- The walks of layer 8: pairs by rising key. -/
import Derived.Test.YtoidbgedpakjmaaIns
import Derived.Test.YtoidbgedpakjmaaW08u
set_option linter.unusedVariables false
set_option linter.unusedSimpArgs false
namespace Go.Proofs.Ytoidbgedpakjmaa.W08
open Go.RowKit Go.Proofs.Ytoidbgedpakjmaa.Lib Go.Proofs.Ytoidbgedpakjmaa.Sha Go.Proofs.Ytoidbgedpakjmaa.T07 Go.Proofs.Ytoidbgedpakjmaa.T08 Go.Proofs.Ytoidbgedpakjmaa.QTail Go.Proofs.Ytoidbgedpakjmaa.Bld Go.Proofs.Ytoidbgedpakjmaa.Itms Go.Proofs.Ytoidbgedpakjmaa.W07 Go.Proofs.Ytoidbgedpakjmaa.WSeq Go.Proofs.Ytoidbgedpakjmaa.Ord
attribute [local go_sem] Str_size Str_toList Str_extract Str_append Str_get bt_nn bt_lt List.length_append take_rest sha_len two_len
set_option maxRecDepth 100000 in
set_option maxHeartbeats 1600000 in
theorem rising_any (A : Option Addr) (c : Nat) (l : List Itm) (hl : l.length ≤ 1000000000) (w : World) (hrd : Rd w A (its l)) :
    Calls Try.prog 10 #[.slice A l.length c] w fun e w' => (∃ v, e = .returned v ∧ w'.ownsRow w.heap.size 51 2 v (risingS l).length (its (risingS l))) ∧ Below w.heap.size w w' := by
  have H0 := hid hrd
  clear hrd
  go_enter Try.func10, Try.ntmps10
  go_wp2
  go_loopw [3, 9] (fun v i wr => ∃ (k : Nat) (m : List Itm), k ≤ l.length ∧ i = .int .i64 (k : Int) ∧ Hid (m = risingS (l.take k)) ∧ wr.ownsRow w.heap.size 51 2 v m.length (its m) ∧ Below w.heap.size w wr) (fun _ i _ => l.length - (intOf i).toNat)
  case atStart => exact ⟨0, [], by omega, rfl, hid rfl, own_nil _ _ _ _, below_rf w⟩
  case round =>
    obtain ⟨wrA, rfl⟩ : ∃ x, x = wr := ⟨_, rfl⟩
    obtain ⟨k, m, hk, rfl, HM, hown, hB⟩ := hrel
    have hml : m.length ≤ k := by rw [HM.out]; exact rising_len l k hk
    by_cases hlt : k < l.length
    · obtain ⟨b, o, rfl, hc1, hc2⟩ := rd_itm (Rd.below H0.out hB) hlt
      obtain ⟨xk, hxk⟩ : ∃ xk, xk = (itm l k).1 := ⟨_, rfl⟩
      obtain ⟨xv, hxv⟩ : ∃ xv, xv = (itm l k).2 := ⟨_, rfl⟩
      rw [← hxk] at hc1
      rw [← hxv] at hc2
      obtain ⟨w1, hw1⟩ : ∃ w1, w1 = wrA.alloc (Obj.cells #[Value.string (Str xk), Value.string (Str xv)] 51) := ⟨_, rfl⟩
      have hal : Below wrA.heap.size wrA w1 := by rw [hw1]; exact below_al (below_rf wrA) _
      have hown1 := own_of_below hown hal
      have hB1 := below_tr hB hal
      have hx1 : w1.cell? ⟨wrA.heap.size, 0, none⟩ = some (.string (Str xk)) := by rw [hw1, World.cell?_alloc_at _ _ _ _ rfl]; rfl
      have hx2 : w1.cell? ⟨wrA.heap.size, 1, none⟩ = some (.string (Str xv)) := by rw [hw1, World.cell?_alloc_at _ _ _ _ rfl]; rfl
      have hst : risingS (l.take (k + 1)) = insS m (xk, xv) := by rw [rising_take l k hlt, HM.out, hxk, hxv]
      have HST := hid hst
      have hz1 : wrA.heap.size < w1.heap.size := by rw [hw1]; simp
      have HBW := hid hB1
      clear hxk hxv hst hown hB HM
      go_wp2
      rw [← hw1]
      clear hw1
      obtain ⟨A3, c3, rfl, hcc, hrd3, hno3, _⟩ := Rd.own' hown1
      go_loopw [6] (fun i wi => ∃ a : Nat, a ≤ m.length ∧ i = .int .i64 (a : Int) ∧ Hid (∀ t, t < a → ltS (itm m t).1 xk = true) ∧ Below w1.heap.size w1 wi) (fun i _ => m.length - (intOf i).toNat)
      case atStart => exact ⟨0, by omega, rfl, hid (fun t h => by omega), below_rf w1⟩
      case round =>
        obtain ⟨a, ha, rfl, HA, hBi⟩ := hrel
        by_cases hal2 : a < m.length
        · obtain ⟨bm, om, rfl, hm1, hm2⟩ := rd_itm (hrd3.below hBi) hal2
          have hp1 := (hBi.cell (p := ⟨wrA.heap.size, 0, none⟩) hz1).trans hx1
          have hlb : decide ((a : Int) < (m.length : Int)) = true := decide_eq_true (by omega)
          obtain ⟨yk, hyk⟩ : ∃ yk, yk = (itm m a).1 := ⟨_, rfl⟩
          rw [← hyk] at hm1
          have HYK := hid hyk
          clear hyk
          cases hlt2 : ltS yk xk with
          | true =>
            have hlt3 : Op.bytesLess yk xk = true := hlt2
            go_wp2
            go_quiet (fail)
            go_wp2
            go_roundw
            case rel => 
              refine ⟨a + 1, by omega, by go_num, hid (fun t ht => ?_), below_drewN hBi _⟩
              by_cases e : t = a
              · subst e; rw [← HYK.out]; exact hlt2
              · exact HA.out t (by omega)
            case measure => simp [intOf]; omega
          | false =>
            have hlt3 : Op.bytesLess yk xk = false := hlt2
            go_wp2
            go_quiet (fail)
            rename Nat => n1
            go_wp2
            by_cases hkk : yk = xk
            · have hkb : (yk == xk) = true := beq_iff_eq.2 hkk
              have hpl : placeS m xk = a := place_at m xk a ha HA.out (fun _ => by rw [← HYK.out]; exact hlt2)
              have hins : insS m (xk, xv) = m := by
                unfold insS
                rw [if_pos]
                rw [hpl]
                exact ⟨hal2, by rw [← HYK.out]; exact hkk⟩
              have HIN := hid (HST.out.trans hins)
              have hkn : (yk != xk) = false := by rw [bne, hkb]; rfl
              clear hkk hpl hins
              go_quiet (fail)
              go_wp2
              go_roundw
              case rel => exact ⟨k + 1, m, by omega, by go_num, hid HIN.out.symm, own_of_below hown1 (below_drewN hBi _), below_tr HBW.out (below_drewN hBi _)⟩
              case measure => simp [intOf]; omega
            · have hkb : (yk == xk) = false := beq_eq_false_iff_ne.2 hkk
              have hkn : (yk != xk) = true := by rw [bne, hkb]; rfl
              have hpl : placeS m xk = a := place_at m xk a ha HA.out (fun _ => by rw [← HYK.out]; exact hlt2)
              have hins : insS m (xk, xv) = m.take a ++ (xk, xv) :: m.drop a := by
                unfold insS
                rw [if_neg, hpl]
                rw [hpl]
                rintro ⟨_, h⟩
                exact hkk (by rw [HYK.out]; exact h)
              have HIN := hid (HST.out.trans hins)
              clear hkk hpl hins
              go_quiet (fail)
              go_wp2
              have hca : (c3 = a) = False := eq_false (by omega)
              obtain ⟨A5, hA5⟩ : ∃ A5 : Option Addr, A5 = some ⟨bm, om + a * 2, none⟩ := ⟨_, rfl⟩
              have hr5 : Rd w1 A5 (its (m.drop a)) := by rw [hA5, its_drop, Nat.mul_comm 2 a]; exact rd_dropN hrd3 (a * 2)
              rename Nat => n2
              have hac : a ≤ c3 := by omega
              have hBd : Below w1.heap.size w1 (((wr.drewN n1).drewN n2).drewN 1) := below_drewN (below_drewN (below_drewN hBi _) _) _
              refine wp_region_takes [0, 1, 2, 3, 6, 7, 8] [4, 5, 9, 10, 11] (by kernel_rfl) (by kernel_rfl) (by rfl) (by kernel_rfl) ?_
              simp only [opsAt, opAt, List.map_cons, List.map_nil, List.getD_cons_zero, List.getD_cons_succ]
              iterate 6 (
                refine takes_cons (by rfl) ?_
                apply Exists.intro
                refine ⟨fun W => ?_, fun _ _ _ h => h, ?_⟩
                (go_simp; rfl))
              refine takes_cons (by rfl) ⟨.slice A5 (m.length - a) (c3 - a), fun W => ?_, fun _ _ _ h => h, ?_⟩
              · go_simp; done
              clear hA5
              refine takes_nil ?_
              obtain ⟨wi, hwi⟩ : ∃ wi, wi = ((wr.drewN n1).drewN n2).drewN 1 := ⟨_, rfl⟩
              rw [← hwi] at hBd ⊢
              clear hwi hBi
              have hown3 := own_of_below hown1 hBd
              have hp1 := (hBd.cell (p := ⟨wrA.heap.size, 0, none⟩) hz1).trans hx1
              have hp2 := (hBd.cell (p := ⟨wrA.heap.size, 1, none⟩) hz1).trans hx2
              have hon := own_new wi 51 2 [.string (Str xk), .string (Str xv)] (by rfl)
              have hal5 : Below wi.heap.size wi (wi.alloc (.cells [Value.string (Str xk), Value.string (Str xv)].toArray 51)) := below_al (below_rf wi) _
              have hr6 := (hr5.below hBd).below hal5
              have HR6 := hid hr6
              have HON := hid hon
              clear hr5 hr6 hon
              go_simp
              have hno5 : ((some ⟨bm, om, none⟩) : Option Addr) = none → a = 0 ∧ a = 0 := fun h => by have := hno3 h; omega
              have hro5 : Rd wi (some ⟨bm, om, none⟩) (its (m.take a)) := by rw [its_take]; exact (hrd3.below hBd).take _
              have HRO := hid hro5
              have HNO := hid hno5
              have HN6 := hid hal5
              have HBW2 := hid (below_tr HBW.out hBd)
              have HSZ := hid hB1.size
              have HSZ2 := hid hBd.size
              clear hro5 hno5 hal5 hown3 hno3 hrd3 hown1 hBd hB1
              go_wp2_with (at_builtin; first
                | (refine wpList_appR ti_ritem (.tmp 48) (.tmp 51) (by rfl) (by rfl) wi.heap.size (its (m.drop a)) A5 (m.length - a) (c3 - a) (by rfl) (by rfl) HR6.out HON.out (by rw [its_len, List.length_drop]; omega) (its_one _) (by simp) (by omega) ?_
                   intro A6 c6 w6 ho6 hg6
                   have hb6 : Below wi.heap.size wi w6 := HN6.out.grown hg6 (by simp) (fun k hk => own_block_base HON.out k hk)
                   have HB6 := hid hb6
                   have HR7 := hid (rd_own ho6)
                   clear ho6 hg6 hb6)
                | (refine wpList_appG ti_ritem (.tmp 46) (.tmp 52) (by rfl) (by rfl) (some ⟨bm, om, none⟩) a a (its (m.take a)) (its ((xk, xv) :: m.drop a)) _ (1 + (m.length - a)) _ (by rfl) (by rfl) (HRO.out.below HB6.out) HNO.out (by rw [its_len, List.length_take]; omega) HR7.out (by rw [its_len, List.length_cons, List.length_drop]; omega) (its_one _) (by omega) (by omega) (by omega) ?_
                   intro A8 c8 w8 ho8 hB8))
              go_wp2
              go_roundw
              case rel =>
                have hlen : a + (1 + (m.length - a)) = (m.take a ++ (xk, xv) :: m.drop a).length := by simp; omega
                refine ⟨k + 1, m.take a ++ (xk, xv) :: m.drop a, by omega, by go_num, hid HIN.out.symm, ?_, below_tr (below_tr HBW2.out HB6.out) hB8⟩
                rw [its_app, ← hlen]
                exact own_mono ho8 (Nat.le_trans HBW2.out.size HB6.out.size)
              case measure => simp [intOf]; omega
        · have hae : a = m.length := by omega
          have hlb : decide ((a : Int) < (m.length : Int)) = false := decide_eq_false (by omega)
          have hp1 := (hBi.cell (p := ⟨wrA.heap.size, 0, none⟩) hz1).trans hx1
          have hpl : placeS m xk = a := place_at m xk a ha HA.out (fun h => absurd h (by omega))
          have hins : insS m (xk, xv) = m.take a ++ (xk, xv) :: m.drop a := by
            unfold insS
            rw [if_neg, hpl]
            rw [hpl]
            rintro ⟨h, _⟩
            omega
          have HIN := hid (HST.out.trans hins)
          have hdr : its (m.drop a) = [] := by rw [hae, List.drop_length]; rfl
          have HDR := hid hdr
          clear hpl hins hdr hae
          go_wp2
          go_quiet (fail)
          rename Nat => n1
          go_wp2
          go_quiet (fail)
          go_wp2
          obtain ⟨A5, hA5⟩ : ∃ A5 : Option Addr, A5 = (if c3 = a then A3 else A3.map fun x => x.add (a * 2)) := ⟨_, rfl⟩
          have hr5 : Rd w1 A5 (its (m.drop a)) := .inl HDR.out
          rename Nat => n2
          have hac : a ≤ c3 := by omega
          have hBd : Below w1.heap.size w1 (((wr.drewN n1).drewN n2).drewN 1) := below_drewN (below_drewN (below_drewN hBi _) _) _
          refine wp_region_takes [0, 1, 2, 3, 6, 7, 8] [4, 5, 9, 10, 11] (by kernel_rfl) (by kernel_rfl) (by rfl) (by kernel_rfl) ?_
          simp only [opsAt, opAt, List.map_cons, List.map_nil, List.getD_cons_zero, List.getD_cons_succ]
          iterate 6 (
            refine takes_cons (by rfl) ?_
            apply Exists.intro
            refine ⟨fun W => ?_, fun _ _ _ h => h, ?_⟩
            (go_simp; rfl))
          refine takes_cons (by rfl) ⟨.slice A5 (m.length - a) (c3 - a), fun W => ?_, fun _ _ _ h => h, ?_⟩
          · go_simp; done
          clear hA5
          refine takes_nil ?_
          obtain ⟨wi, hwi⟩ : ∃ wi, wi = ((wr.drewN n1).drewN n2).drewN 1 := ⟨_, rfl⟩
          rw [← hwi] at hBd ⊢
          clear hwi hBi
          have hown3 := own_of_below hown1 hBd
          have hp1 := (hBd.cell (p := ⟨wrA.heap.size, 0, none⟩) hz1).trans hx1
          have hp2 := (hBd.cell (p := ⟨wrA.heap.size, 1, none⟩) hz1).trans hx2
          have hon := own_new wi 51 2 [.string (Str xk), .string (Str xv)] (by rfl)
          have hal5 : Below wi.heap.size wi (wi.alloc (.cells [Value.string (Str xk), Value.string (Str xv)].toArray 51)) := below_al (below_rf wi) _
          have hr6 := (hr5.below hBd).below hal5
          have HR6 := hid hr6
          have HON := hid hon
          clear hr5 hr6 hon
          go_simp
          have hno5 : (A3 : Option Addr) = none → a = 0 ∧ a = 0 := fun h => by have := hno3 h; omega
          have hro5 : Rd wi A3 (its (m.take a)) := by rw [its_take]; exact (hrd3.below hBd).take _
          have HRO := hid hro5
          have HNO := hid hno5
          have HN6 := hid hal5
          have HBW2 := hid (below_tr HBW.out hBd)
          have HSZ := hid hB1.size
          have HSZ2 := hid hBd.size
          clear hro5 hno5 hal5 hown3 hno3 hrd3 hown1 hBd hB1
          go_wp2_with (at_builtin; first
            | (refine wpList_appR ti_ritem (.tmp 48) (.tmp 51) (by rfl) (by rfl) wi.heap.size (its (m.drop a)) A5 (m.length - a) (c3 - a) (by rfl) (by rfl) HR6.out HON.out (by rw [its_len, List.length_drop]; omega) (its_one _) (by simp) (by omega) ?_
               intro A6 c6 w6 ho6 hg6
               have hb6 : Below wi.heap.size wi w6 := HN6.out.grown hg6 (by simp) (fun k hk => own_block_base HON.out k hk)
               have HB6 := hid hb6
               have HR7 := hid (rd_own ho6)
               clear ho6 hg6 hb6)
            | (refine wpList_appG ti_ritem (.tmp 46) (.tmp 52) (by rfl) (by rfl) A3 a a (its (m.take a)) (its ((xk, xv) :: m.drop a)) _ (1 + (m.length - a)) _ (by rfl) (by rfl) (HRO.out.below HB6.out) HNO.out (by rw [its_len, List.length_take]; omega) HR7.out (by rw [its_len, List.length_cons, List.length_drop]; omega) (its_one _) (by omega) (by omega) (by omega) ?_
               intro A8 c8 w8 ho8 hB8))
          go_wp2
          go_roundw
          case rel =>
            have hlen : a + (1 + (m.length - a)) = (m.take a ++ (xk, xv) :: m.drop a).length := by simp; omega
            refine ⟨k + 1, m.take a ++ (xk, xv) :: m.drop a, by omega, by go_num, hid HIN.out.symm, ?_, below_tr (below_tr HBW2.out HB6.out) hB8⟩
            rw [its_app, ← hlen]
            exact own_mono ho8 (Nat.le_trans HBW2.out.size HB6.out.size)
          case measure => simp [intOf]; omega
    · obtain rfl : k = l.length := by omega
      have hm := HM.out
      rw [List.take_length] at hm
      subst hm
      go_wp2
      go_ret
      exact ⟨⟨_, rfl, hown⟩, hB⟩
end Go.Proofs.Ytoidbgedpakjmaa.W08
