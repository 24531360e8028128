/- The document's joined list of pairs. -/
import Derived.Test.YtiemcfkekaklgaaR02
import Derived.Test.YtiemcfkekaklgaaQTail
import Derived.Test.YtiemcfkekaklgaaMild
import Derived.Test.YtiemcfkekaklgaaJoindI
set_option linter.unusedVariables false
set_option linter.unusedSimpArgs false
namespace Go.Proofs.Ytiemcfkekaklgaa.R02
open Go.RowKit Go.Proofs.Ytiemcfkekaklgaa.Lib Go.Proofs.Ytiemcfkekaklgaa.Prs Go.Proofs.Ytiemcfkekaklgaa.Run Go.Proofs.Ytiemcfkekaklgaa.Lt Go.Proofs.Ytiemcfkekaklgaa.Sp Go.Proofs.Ytiemcfkekaklgaa.Join Go.Proofs.Ytiemcfkekaklgaa.QTail
attribute [local go_sem] Str_toList
/-- what seq.Joined still does behind i pairs of a and k of b -/
def joinC (a b : List Itm) (i k : Nat) (out : List Bo) : List Bo := ((a.drop i).foldl (stepJ b) (out, k)).1 ++ (b.drop ((a.drop i).foldl (stepJ b) (out, k)).2).map rgt
theorem joinC_0 (a b : List Itm) : joinC a b 0 0 [] = joinP a b := rfl
theorem drop_itm (l : List Itm) (k : Nat) (h : k < l.length) : l.drop k = itm l k :: l.drop (k + 1) := by
  rw [itm_eq l k h]; exact (List.getElem_cons_drop h).symm
theorem joinC_end (a b : List Itm) (i k : Nat) (out : List Bo) (hi : a.length ≤ i) (hk : b.length ≤ k) : joinC a b i k out = out := by
  unfold joinC; rw [List.drop_eq_nil_of_le hi, List.foldl_nil, List.drop_eq_nil_of_le hk]; simp
theorem joinC_r0 (a b : List Itm) (i k : Nat) (out : List Bo) (hi : a.length ≤ i) (hk : k < b.length) : joinC a b i k out = joinC a b i (k + 1) (out ++ [rgt (itm b k)]) := by
  unfold joinC; rw [List.drop_eq_nil_of_le hi, List.foldl_nil, List.foldl_nil, drop_itm b k hk]; simp
theorem joinC_r (a b : List Itm) (i k : Nat) (out : List Bo) (hi : i < a.length) (hk : k < b.length) (h : ltS (itm b k).1 (itm a i).1 = true) : joinC a b i k out = joinC a b i (k + 1) (out ++ [rgt (itm b k)]) := by
  have e : stepJ b (out, k) (itm a i) = stepJ b (out ++ [rgt (itm b k)], k + 1) (itm a i) := by
    unfold stepJ; dsimp only; rw [show jlow b (itm a i).1 out k = jlow b (itm a i).1 (out ++ [rgt (itm b k)]) (k + 1) by rw [jlow, if_pos hk, if_pos h]]
  unfold joinC; rw [drop_itm a i hi, List.foldl_cons, List.foldl_cons, e]
theorem joinC_l (a b : List Itm) (i k : Nat) (out : List Bo) (hi : i < a.length) (h : k < b.length → ltS (itm a i).1 (itm b k).1 = true) : joinC a b i k out = joinC a b (i + 1) k (out ++ [((itm a i).1, (itm a i).2, 0, true, false)]) := by
  have e0 : jlow b (itm a i).1 out k = (out, k) := by
    rw [jlow]
    split
    · rename_i hk; rw [if_neg (by rw [lt_asymm _ _ (h hk)]; decide)]
    · rfl
  have e : stepJ b (out, k) (itm a i) = (out ++ [((itm a i).1, (itm a i).2, 0, true, false)], k) := by
    unfold stepJ; dsimp only; rw [e0]; dsimp only
    rw [if_neg (fun hc => by have := h hc.1; rw [hc.2, lt_irrefl] at this; cases this)]
  conv => lhs; unfold joinC
  rw [drop_itm a i hi, List.foldl_cons, e]; rfl
theorem joinC_b (a b : List Itm) (i k : Nat) (out : List Bo) (hi : i < a.length) (hk : k < b.length) (h : (itm b k).1 = (itm a i).1) : joinC a b i k out = joinC a b (i + 1) (k + 1) (out ++ [((itm a i).1, (itm a i).2, (itm b k).2, true, true)]) := by
  have e0 : jlow b (itm a i).1 out k = (out, k) := by
    rw [jlow, if_pos hk, if_neg (by rw [h, lt_irrefl]; decide)]
  have e : stepJ b (out, k) (itm a i) = (out ++ [((itm a i).1, (itm a i).2, (itm b k).2, true, true)], k + 1) := by
    unfold stepJ; dsimp only; rw [e0]; dsimp only
    rw [if_pos ⟨hk, h⟩]
  conv => lhs; unfold joinC
  rw [drop_itm a i hi, List.foldl_cons, e]; rfl
theorem ti_B : TI Try.prog 42 46 5 40 := TI.of (by kernel_rfl) (by kernel_rfl) (by decide) (by decide)
set_option maxRecDepth 100000 in
set_option maxHeartbeats 8000000 in
theorem joinr_any (A B : Option Addr) (c d : Nat) (a b : List Itm) (hl : a.length ≤ 1000000000) (hm : b.length ≤ 1000000000) (w : World) (hrd : Rd w A (its a)) (hrd2 : Rd w B (its b)) :
    Calls Try.prog 22 #[.slice A a.length c, .slice B b.length d] w fun e w' => (∃ v, e = .returned v ∧ w'.ownsRow w.heap.size 46 5 v (joinP a b).length (bts (joinP a b))) ∧ Below w.heap.size w w' := by
  have H0 := hid hrd
  have H1 := hid hrd2
  obtain ⟨n, hn⟩ : ∃ n, n = a.length := ⟨_, rfl⟩
  obtain ⟨m, hmm⟩ : ∃ m, m = b.length := ⟨_, rfl⟩
  rw [← hn] at hl ⊢
  rw [← hmm] at hm ⊢
  have HN := hid hn
  have HM := hid hmm
  clear hrd hrd2 hn hmm
  go_enter Try.func22, Try.ntmps22
  go_wp2
  go_loopw [5, 6, 7] (fun v s t wr => ∃ (out : List Bo) (i k : Nat), i ≤ n ∧ k ≤ m ∧ s = .int .i64 (i : Int) ∧ t = .int .i64 (k : Int) ∧ wr.ownsRow w.heap.size 46 5 v out.length (bts out) ∧ Below w.heap.size w wr ∧ out.length ≤ i + k ∧ Hid (joinC a b i k out = joinP a b)) (fun _ s t _ => (n - (intOf s).toNat) + (m - (intOf t).toNat))
  case atStart => exact ⟨[], 0, 0, Nat.zero_le _, Nat.zero_le _, rfl, rfl, own_nil _ _ _ _, below_rf w, Nat.zero_le _, hid (joinC_0 a b)⟩
  case round =>
    obtain ⟨out, i, k, hi, hk, rfl, rfl, hown, hB, hol, HC⟩ := hrel
    obtain ⟨Av, cv, rfl⟩ := own_succ hown
    by_cases hlt : i < n
    · obtain ⟨ga, oa, rfl, a1, a2⟩ := rd_itm (Rd.below H0.out hB) (j := i) (by rw [← HN.out]; exact hlt)
      obtain ⟨x, hx⟩ : ∃ x, x = itm a i := ⟨_, rfl⟩
      rw [← hx] at a1 a2
      have HX := hid hx
      clear hx
      by_cases hlk : k < m
      · obtain ⟨gb, ob, rfl, b1, b2⟩ := rd_itm (Rd.below H1.out hB) (j := k) (by rw [← HM.out]; exact hlk)
        obtain ⟨y, hy⟩ : ∃ y, y = itm b k := ⟨_, rfl⟩
        rw [← hy] at b1 b2
        have HY := hid hy
        clear hy
        cases r1 : ltS x.1 y.1 with
        | true =>
          have r1' : Op.bytesLess x.1 y.1 = true := r1
          have HS := hid ((joinC_l a b i k out (by rw [← HN.out]; exact hlt) (fun _ => by rw [← HX.out, ← HY.out]; exact r1)).symm.trans HC.out)
          rw [← HX.out] at HS
          clear r1
          go_wp2
          go_quiet (fail)
          go_wp2
          refine wp_region_mqtail 12 (v := (.slice Av out.length cv)) (by decide) (by kernel_rfl) (by kernel_rfl) (by kernel_rfl) (by kernel_rfl) (fun _ _ _ h => h) (Or.inl ⟨by rfl, ?gm⟩) ?_
          case gm => intro w; go_simp
          simp only [List.take_succ_cons, List.take_zero, List.drop_succ_cons, List.drop_zero, List.drop_one, List.tail_cons]
          repeat (quiet_step (fail))
          refine wpQuiet_nil ?_
          intro q2
          have hown2 := own_of_below hown (below_drewN (below_rf wr) (nq + q2))
          have hB2 := below_drewN hB (nq + q2)
          go_wp2_with (at_builtin; (refine wpList_appN ti_B (.tmp 65) (.tmp 77) (by rfl) (by rfl) w.heap.size [.string (Str x.1), .int .i64 x.2, .int .i64 0, .bool true, .bool false] 46 1 1 (by rfl) (by rw [show (wr.drewN (nq + q2)).heap.size = wr.heap.size by simp]; rfl) hown2 (by rfl) (by simp [Value.oneCell']) hB2 hB2.size (by omega) ?_; intro A7 c7 w7 ho7 hg7 hB7 hsz7))
          go_wp2
          go_roundw
          case rel => exact ⟨out ++ [(x.1, x.2, 0, true, false)], i + 1, k, by omega, by omega, by simp, rfl, by rw [bts_app, List.length_append]; exact ho7, hB7, by rw [List.length_append, List.length_singleton]; omega, HS⟩
          case measure => simp [intOf]; omega
        | false =>
          have r1' : Op.bytesLess x.1 y.1 = false := r1
          cases r2 : ltS y.1 x.1 with
          | true =>
            have r2' : Op.bytesLess y.1 x.1 = true := r2
            have HS := hid ((joinC_r a b i k out (by rw [← HN.out]; exact hlt) (by rw [← HM.out]; exact hlk) (by rw [← HX.out, ← HY.out]; exact r2)).symm.trans HC.out)
            rw [← HY.out] at HS
            clear r1 r2
            go_wp2
            go_quiet (fail)
            revert nq; intro nq1
            go_wp2
            go_quiet (fail)
            go_wp2
            refine wp_region_mqtail 12 (v := (.slice Av out.length cv)) (by decide) (by kernel_rfl) (by kernel_rfl) (by kernel_rfl) (by kernel_rfl) (fun _ _ _ h => h) (Or.inl ⟨by rfl, ?gm⟩) ?_
            case gm => intro w; go_simp
            simp only [List.take_succ_cons, List.take_zero, List.drop_succ_cons, List.drop_zero, List.drop_one, List.tail_cons]
            repeat (quiet_step (fail))
            refine wpQuiet_nil ?_
            intro q2
            have hown2 := own_of_below hown (below_drewN (below_rf wr) (nq1 + nq + q2))
            have hB2 := below_drewN hB (nq1 + nq + q2)
            go_wp2_with (at_builtin; (refine wpList_appN ti_B (.tmp 99) (.tmp 111) (by rfl) (by rfl) w.heap.size [.string (Str y.1), .int .i64 0, .int .i64 y.2, .bool false, .bool true] 46 1 1 (by rfl) (by rw [show (wr.drewN (nq1 + nq + q2)).heap.size = wr.heap.size by simp]; rfl) hown2 (by rfl) (by simp [Value.oneCell']) hB2 hB2.size (by omega) ?_; intro A7 c7 w7 ho7 hg7 hB7 hsz7))
            go_wp2
            go_roundw
            case rel => exact ⟨out ++ [rgt y], i, k + 1, by omega, by omega, rfl, by simp, by rw [bts_app, List.length_append]; exact ho7, hB7, by rw [List.length_append, List.length_singleton]; omega, HS⟩
            case measure => simp [intOf]; omega
          | false =>
            have r2' : Op.bytesLess y.1 x.1 = false := r2
            have HS := hid ((joinC_b a b i k out (by rw [← HN.out]; exact hlt) (by rw [← HM.out]; exact hlk) (by rw [← HX.out, ← HY.out]; exact lt_total _ _ r2 r1)).symm.trans HC.out)
            rw [← HX.out, ← HY.out] at HS
            clear r1 r2
            go_wp2
            go_quiet (fail)
            revert nq; intro nq1
            go_wp2
            go_quiet (fail)
            go_wp2
            refine wp_region_mqtail 17 (v := (.slice Av out.length cv)) (by decide) (by kernel_rfl) (by kernel_rfl) (by kernel_rfl) (by kernel_rfl) (fun _ _ _ h => h) (Or.inl ⟨by rfl, ?gm⟩) ?_
            case gm => intro w; go_simp
            simp only [List.take_succ_cons, List.take_zero, List.drop_succ_cons, List.drop_zero, List.drop_one, List.tail_cons]
            repeat (quiet_step (fail))
            refine wpQuiet_nil ?_
            intro q2
            have hown2 := own_of_below hown (below_drewN (below_rf wr) (nq1 + nq + q2))
            have hB2 := below_drewN hB (nq1 + nq + q2)
            go_wp2_with (at_builtin; (refine wpList_appN ti_B (.tmp 18) (.tmp 35) (by rfl) (by rfl) w.heap.size [.string (Str x.1), .int .i64 x.2, .int .i64 y.2, .bool true, .bool true] 46 1 1 (by rfl) (by rw [show (wr.drewN (nq1 + nq + q2)).heap.size = wr.heap.size by simp]; rfl) hown2 (by rfl) (by simp [Value.oneCell']) hB2 hB2.size (by omega) ?_; intro A7 c7 w7 ho7 hg7 hB7 hsz7))
            go_wp2
            go_roundw
            case rel => exact ⟨out ++ [(x.1, x.2, y.2, true, true)], i + 1, k + 1, by omega, by omega, by simp, by simp, by rw [bts_app, List.length_append]; exact ho7, hB7, by rw [List.length_append, List.length_singleton]; omega, HS⟩
            case measure => simp [intOf]; omega
      · obtain rfl : k = m := by omega
        have HS := hid ((joinC_l a b i k out (by rw [← HN.out]; exact hlt) (fun h => absurd h (by rw [← HM.out]; exact hlk))).symm.trans HC.out)
        rw [← HX.out] at HS
        go_wp2
        go_quiet (fail)
        go_wp2
        refine wp_region_mqtail 12 (v := (.slice Av out.length cv)) (by decide) (by kernel_rfl) (by kernel_rfl) (by kernel_rfl) (by kernel_rfl) (fun _ _ _ h => h) (Or.inl ⟨by rfl, ?gm⟩) ?_
        case gm => intro w; go_simp
        simp only [List.take_succ_cons, List.take_zero, List.drop_succ_cons, List.drop_zero, List.drop_one, List.tail_cons]
        repeat (quiet_step (fail))
        refine wpQuiet_nil ?_
        intro q2
        have hown2 := own_of_below hown (below_drewN (below_rf wr) (nq + q2))
        have hB2 := below_drewN hB (nq + q2)
        go_wp2_with (at_builtin; (refine wpList_appN ti_B (.tmp 65) (.tmp 77) (by rfl) (by rfl) w.heap.size [.string (Str x.1), .int .i64 x.2, .int .i64 0, .bool true, .bool false] 46 1 1 (by rfl) (by rw [show (wr.drewN (nq + q2)).heap.size = wr.heap.size by simp]; rfl) hown2 (by rfl) (by simp [Value.oneCell']) hB2 hB2.size (by omega) ?_; intro A7 c7 w7 ho7 hg7 hB7 hsz7))
        go_wp2
        go_roundw
        case rel => exact ⟨out ++ [(x.1, x.2, 0, true, false)], i + 1, k, by omega, by omega, by simp, rfl, by rw [bts_app, List.length_append]; exact ho7, hB7, by rw [List.length_append, List.length_singleton]; omega, HS⟩
        case measure => simp [intOf]; omega
    · obtain rfl : i = n := by omega
      by_cases hlk : k < m
      · obtain ⟨gb, ob, rfl, b1, b2⟩ := rd_itm (Rd.below H1.out hB) (j := k) (by rw [← HM.out]; exact hlk)
        obtain ⟨y, hy⟩ : ∃ y, y = itm b k := ⟨_, rfl⟩
        have HS := hid ((joinC_r0 a b i k out (by rw [← HN.out]; omega) (by rw [← HM.out]; exact hlk)).symm.trans HC.out)
        rw [← hy] at b1 b2 HS
        have gmk : ¬ m ≤ k := by omega
        clear hy
        go_wp2
        go_quiet (fail)
        revert nq; intro nq1
        go_wp2
        go_quiet (fail)
        go_wp2
        refine wp_region_mqtail 12 (v := (.slice Av out.length cv)) (by decide) (by kernel_rfl) (by kernel_rfl) (by kernel_rfl) (by kernel_rfl) (fun _ _ _ h => h) (Or.inl ⟨by rfl, ?gm⟩) ?_
        case gm => intro w; go_simp
        simp only [List.take_succ_cons, List.take_zero, List.drop_succ_cons, List.drop_zero, List.drop_one, List.tail_cons]
        repeat (quiet_step (fail))
        refine wpQuiet_nil ?_
        intro q2
        have hown2 := own_of_below hown (below_drewN (below_rf wr) (nq1 + nq + q2))
        have hB2 := below_drewN hB (nq1 + nq + q2)
        go_wp2_with (at_builtin; (refine wpList_appN ti_B (.tmp 99) (.tmp 111) (by rfl) (by rfl) w.heap.size [.string (Str y.1), .int .i64 0, .int .i64 y.2, .bool false, .bool true] 46 1 1 (by rfl) (by rw [show (wr.drewN (nq1 + nq + q2)).heap.size = wr.heap.size by simp]; rfl) hown2 (by rfl) (by simp [Value.oneCell']) hB2 hB2.size (by omega) ?_; intro A7 c7 w7 ho7 hg7 hB7 hsz7))
        go_wp2
        go_roundw
        case rel => exact ⟨out ++ [rgt y], i, k + 1, by omega, by omega, rfl, by simp, by rw [bts_app, List.length_append]; exact ho7, hB7, by rw [List.length_append, List.length_singleton]; omega, HS⟩
        case measure => simp [intOf]; omega
      · obtain rfl : k = m := by omega
        have HS := hid ((joinC_end a b i k out (by rw [← HN.out]; omega) (by rw [← HM.out]; omega)).symm.trans HC.out)
        go_wp2
        go_ret
        exact ⟨⟨_, rfl, by rw [← HS.out]; exact hown⟩, hB⟩
end Go.Proofs.Ytiemcfkekaklgaa.R02
