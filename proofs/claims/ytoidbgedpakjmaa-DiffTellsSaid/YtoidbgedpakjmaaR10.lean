/- The walks of the document's answers of layer 10: where two lists differ; the same changes. -/
import Derived.Test.YtoidbgedpakjmaaDif2
import Derived.Test.YtoidbgedpakjmaaMild
set_option linter.unusedVariables false
set_option linter.unusedSimpArgs false
namespace Go.Proofs.Ytoidbgedpakjmaa.Dif
open Go Go.RowKit Go.Proofs.Ytoidbgedpakjmaa.Lib Go.Proofs.Ytoidbgedpakjmaa.Itms Go.Proofs.Ytoidbgedpakjmaa.T08 Go.Proofs.Ytoidbgedpakjmaa.QTail Go.Proofs.Ytoidbgedpakjmaa.WSeq Go.Proofs.Ytoidbgedpakjmaa.Ord Go.Proofs.Ytoidbgedpakjmaa.JoinS Go.Proofs.Ytoidbgedpakjmaa.W08
attribute [local go_sem] Str_size Str_toList Str_extract Str_emp
theorem dif_l (a b : List Itm) (i k : Nat) (hi : i < a.length) (h : k < b.length → ltS (itm a i).1 (itm b k).1 = true) : diffS (a.drop i) (b.drop k) = lft (itm a i) :: diffS (a.drop (i + 1)) (b.drop k) := by
  unfold diffS
  rw [drop_at a i hi]
  have hc : chgS (lft (itm a i)) = true := rfl
  by_cases hk : k < b.length
  · have h1 := h hk
    rw [drop_at b k hk, merge_cons, if_neg (by rw [lt_anti h1]; decide), if_neg (ne_of_lt h1), List.filter_cons_of_pos hc]
  · rw [List.drop_of_length_le (by omega : b.length ≤ k), merge_end, merge_end, List.map_cons, List.filter_cons_of_pos hc]
theorem dif_r (a b : List Itm) (i k : Nat) (hk : k < b.length) (h : i < a.length → ltS (itm b k).1 (itm a i).1 = true) : diffS (a.drop i) (b.drop k) = rgt (itm b k) :: diffS (a.drop i) (b.drop (k + 1)) := by
  unfold diffS
  rw [drop_at b k hk]
  have hc : chgS (rgt (itm b k)) = true := rfl
  by_cases hi : i < a.length
  · have h1 := h hi
    rw [drop_at a i hi, merge_cons, if_pos h1, List.filter_cons_of_pos hc]
  · rw [List.drop_of_length_le (by omega : a.length ≤ i), merge_nil, merge_nil, List.map_cons, List.filter_cons_of_pos hc]
theorem dif_b (a b : List Itm) (i k : Nat) (hi : i < a.length) (hk : k < b.length) (h : (itm b k).1 = (itm a i).1) : diffS (a.drop i) (b.drop k) = if (itm a i).2 = (itm b k).2 then diffS (a.drop (i + 1)) (b.drop (k + 1)) else bth (itm a i) (itm b k) :: diffS (a.drop (i + 1)) (b.drop (k + 1)) := by
  unfold diffS
  rw [drop_at a i hi, drop_at b k hk, merge_cons, if_neg (by rw [h, lt_irrefl]; decide), if_pos h]
  by_cases e : (itm a i).2 = (itm b k).2
  · rw [if_pos e, List.filter_cons_of_neg (by unfold chgS bth; rw [e]; simp)]
  · rw [if_neg e, List.filter_cons_of_pos (by unfold chgS bth; simpa using e)]
theorem dif_end (a b : List Itm) (i k : Nat) (hi : a.length ≤ i) (hk : b.length ≤ k) : diffS (a.drop i) (b.drop k) = [] := by
  rw [List.drop_of_length_le hi, List.drop_of_length_le hk]
  unfold diffS
  rw [merge_nil]; rfl
theorem ti_chg : TI Try.prog 33 39 5 56 := TI.of (by kernel_rfl) (by kernel_rfl) (by decide) (by decide)
set_option maxRecDepth 100000 in
set_option maxHeartbeats 8000000 in
theorem rdiff_any (A B : Option Addr) (c d : Nat) (a b : List Itm) (hl : a.length ≤ 1000000000) (hm : b.length ≤ 1000000000) (w : World) (hrd : Rd w A (its a)) (hrd2 : Rd w B (its b)) :
    Calls Try.prog 16 #[.slice A a.length c, .slice B b.length d] w fun e w' => (∃ v, e = .returned v ∧ w'.ownsRow w.heap.size 39 5 v (diffS a b).length (bts (diffS a b))) ∧ Below w.heap.size w w' := by
  have H0 := hid hrd
  have H1 := hid hrd2
  obtain ⟨n, hn⟩ : ∃ n, n = a.length := ⟨_, rfl⟩
  obtain ⟨m, hmm⟩ : ∃ m, m = b.length := ⟨_, rfl⟩
  rw [← hn] at hl ⊢
  rw [← hmm] at hm ⊢
  have HN := hid hn
  have HM := hid hmm
  clear hrd hrd2 hn hmm
  go_enter Try.func16, Try.ntmps16
  go_wp2
  go_loopw [5, 6, 7] (fun v s t wr => ∃ (out : List Bo) (i k : Nat), i ≤ n ∧ k ≤ m ∧ s = .int .i64 (i : Int) ∧ t = .int .i64 (k : Int) ∧ wr.ownsRow w.heap.size 39 5 v out.length (bts out) ∧ Below w.heap.size w wr ∧ out.length ≤ i + k ∧ Hid (out ++ diffS (a.drop i) (b.drop k) = diffS a b)) (fun _ s t _ => (n - (intOf s).toNat) + (m - (intOf t).toNat))
  case atStart => exact ⟨[], 0, 0, Nat.zero_le _, Nat.zero_le _, rfl, rfl, own_nil _ _ _ _, below_rf w, Nat.zero_le _, hid rfl⟩
  case round =>
    obtain ⟨out, i, k, hi, hk, rfl, rfl, hown, hB, hol, HC⟩ := hrel
    obtain ⟨Av, cv, rfl⟩ := own_succ hown
    by_cases hlt : i < n
    · obtain ⟨ga, oa, rfl, a1, a2⟩ := rd_itm (Rd.below H0.out hB) (j := i) (by rw [← HN.out]; exact hlt)
      obtain ⟨x, hx⟩ : ∃ x, x = itm a i := ⟨_, rfl⟩
      rw [← hx] at a1 a2
      have HX := hid hx
      clear hx
      by_cases hlk : k < m
      · obtain ⟨gb, ob, rfl, b1, b2⟩ := rd_itm (Rd.below H1.out hB) (j := k) (by rw [← HM.out]; exact hlk)
        obtain ⟨y, hy⟩ : ∃ y, y = itm b k := ⟨_, rfl⟩
        rw [← hy] at b1 b2
        have HY := hid hy
        clear hy
        cases r1 : ltS x.1 y.1 with
        | true =>
          have r1' : Op.bytesLess x.1 y.1 = true := r1
          have HS := hid (show (out ++ [lft x]) ++ diffS (a.drop (i + 1)) (b.drop k) = diffS a b by rw [← HC.out, dif_l a b i k (by rw [← HN.out]; exact hlt) (fun _ => by rw [← HX.out, ← HY.out]; exact r1), ← HX.out]; simp)
          clear r1
          go_wp2
          go_quiet (fail)
          go_wp2
          refine wp_region_mqtail 12 (v := (.slice Av out.length cv)) (by decide) (by kernel_rfl) (by kernel_rfl) (by kernel_rfl) (by kernel_rfl) (fun _ _ _ h => h) (Or.inl ⟨by rfl, ?gm⟩) ?_
          case gm => intro w; go_simp
          simp only [List.take_succ_cons, List.take_zero, List.drop_succ_cons, List.drop_zero, List.drop_one, List.tail_cons]
          repeat (quiet_step (fail))
          refine wpQuiet_nil ?_
          intro q2
          have hown2 := own_of_below hown (below_drewN (below_rf wr) (nq + q2))
          have hB2 := below_drewN hB (nq + q2)
          go_wp2_with (at_builtin; (refine wpList_appN ti_chg (.tmp 76) (.tmp 88) (by rfl) (by rfl) w.heap.size [.string (Str x.1), .string (Str x.2), .string (Str []), .bool true, .bool false] 39 1 1 (by rfl) (by rw [show (wr.drewN (nq + q2)).heap.size = wr.heap.size by simp]; rfl) hown2 (by rfl) (by simp [Value.oneCell']) hB2 hB2.size (by omega) ?_; intro A7 c7 w7 ho7 hg7 hB7 hsz7))
          go_wp2
          go_roundw
          case rel => exact ⟨out ++ [lft x], i + 1, k, by omega, by omega, by simp, rfl, by rw [bts_app, List.length_append]; exact ho7, hB7, by rw [List.length_append, List.length_singleton]; omega, HS⟩
          case measure => simp [intOf]; omega
        | false =>
          have r1' : Op.bytesLess x.1 y.1 = false := r1
          cases r2 : ltS y.1 x.1 with
          | true =>
            have r2' : Op.bytesLess y.1 x.1 = true := r2
            have HS := hid (show (out ++ [rgt y]) ++ diffS (a.drop i) (b.drop (k + 1)) = diffS a b by rw [← HC.out, dif_r a b i k (by rw [← HM.out]; exact hlk) (fun _ => by rw [← HX.out, ← HY.out]; exact r2), ← HY.out]; simp)
            clear r1 r2
            go_wp2
            go_quiet (fail)
            revert nq; intro nq1
            go_wp2
            go_quiet (fail)
            go_wp2
            refine wp_region_mqtail 12 (v := (.slice Av out.length cv)) (by decide) (by kernel_rfl) (by kernel_rfl) (by kernel_rfl) (by kernel_rfl) (fun _ _ _ h => h) (Or.inl ⟨by rfl, ?gm⟩) ?_
            case gm => intro w; go_simp
            simp only [List.take_succ_cons, List.take_zero, List.drop_succ_cons, List.drop_zero, List.drop_one, List.tail_cons]
            repeat (quiet_step (fail))
            refine wpQuiet_nil ?_
            intro q2
            have hown2 := own_of_below hown (below_drewN (below_rf wr) (nq1 + nq + q2))
            have hB2 := below_drewN hB (nq1 + nq + q2)
            go_wp2_with (at_builtin; (refine wpList_appN ti_chg (.tmp 110) (.tmp 122) (by rfl) (by rfl) w.heap.size [.string (Str y.1), .string (Str []), .string (Str y.2), .bool false, .bool true] 39 1 1 (by rfl) (by rw [show (wr.drewN (nq1 + nq + q2)).heap.size = wr.heap.size by simp]; rfl) hown2 (by rfl) (by simp [Value.oneCell']) hB2 hB2.size (by omega) ?_; intro A7 c7 w7 ho7 hg7 hB7 hsz7))
            go_wp2
            go_roundw
            case rel => exact ⟨out ++ [rgt y], i, k + 1, by omega, by omega, rfl, by simp, by rw [bts_app, List.length_append]; exact ho7, hB7, by rw [List.length_append, List.length_singleton]; omega, HS⟩
            case measure => simp [intOf]; omega
          | false =>
            have r2' : Op.bytesLess y.1 x.1 = false := r2
            have hkey : y.1 = x.1 := by
              by_cases e : y.1 = x.1
              · exact e
              · have := lt_total y.1 x.1 r2 e; rw [r1] at this; cases this
            have hst := dif_b a b i k (by rw [← HN.out]; exact hlt) (by rw [← HM.out]; exact hlk) (by rw [← HX.out, ← HY.out]; exact hkey)
            rw [← HX.out, ← HY.out] at hst
            clear r1 r2 hkey
            by_cases hv : x.2 = y.2
            · have gv : (x.2 == y.2) = true := beq_iff_eq.2 hv
              have gvn : (x.2 != y.2) = false := by rw [bne, gv]; rfl
              have HS := hid (show out ++ diffS (a.drop (i + 1)) (b.drop (k + 1)) = diffS a b by rw [← HC.out, hst, if_pos hv])
              clear hst hv
              go_wp2
              go_quiet (fail)
              revert nq; intro nq1
              go_wp2
              go_quiet (fail)
              revert nq; intro nq2
              go_wp2
              go_quiet (fail)
              go_wp2
              go_roundw
              case rel => exact ⟨out, i + 1, k + 1, by omega, by omega, by simp, by simp, own_of_below hown (below_drewN (below_rf wr) _), below_drewN hB _, by omega, HS⟩
              case measure => simp [intOf]; omega
            · have gv : (x.2 == y.2) = false := beq_eq_false_iff_ne.2 hv
              have gvn : (x.2 != y.2) = true := by rw [bne, gv]; rfl
              have HS := hid (show (out ++ [bth x y]) ++ diffS (a.drop (i + 1)) (b.drop (k + 1)) = diffS a b by rw [← HC.out, hst, if_neg hv]; simp)
              clear hst hv
              go_wp2
              go_quiet (fail)
              revert nq; intro nq1
              go_wp2
              go_quiet (fail)
              revert nq; intro nq2
              go_wp2
              go_quiet (fail)
              go_wp2
              refine wp_region_mqtail 17 (v := (.slice Av out.length cv)) (by decide) (by kernel_rfl) (by kernel_rfl) (by kernel_rfl) (by kernel_rfl) (fun _ _ _ h => h) (Or.inl ⟨by rfl, ?gm⟩) ?_
              case gm => intro w; go_simp
              simp only [List.take_succ_cons, List.take_zero, List.drop_succ_cons, List.drop_zero, List.drop_one, List.tail_cons]
              repeat (quiet_step (fail))
              refine wpQuiet_nil ?_
              intro q2
              have hown2 := own_of_below hown (below_drewN (below_rf wr) (nq1 + nq2 + nq + q2))
              have hB2 := below_drewN hB (nq1 + nq2 + nq + q2)
              go_wp2_with (at_builtin; (refine wpList_appN ti_chg (.tmp 29) (.tmp 46) (by rfl) (by rfl) w.heap.size [.string (Str x.1), .string (Str x.2), .string (Str y.2), .bool true, .bool true] 39 1 1 (by rfl) (by rw [show (wr.drewN (nq1 + nq2 + nq + q2)).heap.size = wr.heap.size by simp]; rfl) hown2 (by rfl) (by simp [Value.oneCell']) hB2 hB2.size (by omega) ?_; intro A7 c7 w7 ho7 hg7 hB7 hsz7))
              go_wp2
              go_roundw
              case rel => exact ⟨out ++ [bth x y], i + 1, k + 1, by omega, by omega, by simp, by simp, by rw [bts_app, List.length_append]; exact ho7, hB7, by rw [List.length_append, List.length_singleton]; omega, HS⟩
              case measure => simp [intOf]; omega
      · obtain rfl : k = m := by omega
        have HS := hid (show (out ++ [lft x]) ++ diffS (a.drop (i + 1)) (b.drop k) = diffS a b by rw [← HC.out, dif_l a b i k (by rw [← HN.out]; exact hlt) (fun h => absurd h (by rw [← HM.out]; exact hlk)), ← HX.out]; simp)
        go_wp2
        go_quiet (fail)
        go_wp2
        refine wp_region_mqtail 12 (v := (.slice Av out.length cv)) (by decide) (by kernel_rfl) (by kernel_rfl) (by kernel_rfl) (by kernel_rfl) (fun _ _ _ h => h) (Or.inl ⟨by rfl, ?gm⟩) ?_
        case gm => intro w; go_simp
        simp only [List.take_succ_cons, List.take_zero, List.drop_succ_cons, List.drop_zero, List.drop_one, List.tail_cons]
        repeat (quiet_step (fail))
        refine wpQuiet_nil ?_
        intro q2
        have hown2 := own_of_below hown (below_drewN (below_rf wr) (nq + q2))
        have hB2 := below_drewN hB (nq + q2)
        go_wp2_with (at_builtin; (refine wpList_appN ti_chg (.tmp 76) (.tmp 88) (by rfl) (by rfl) w.heap.size [.string (Str x.1), .string (Str x.2), .string (Str []), .bool true, .bool false] 39 1 1 (by rfl) (by rw [show (wr.drewN (nq + q2)).heap.size = wr.heap.size by simp]; rfl) hown2 (by rfl) (by simp [Value.oneCell']) hB2 hB2.size (by omega) ?_; intro A7 c7 w7 ho7 hg7 hB7 hsz7))
        go_wp2
        go_roundw
        case rel => exact ⟨out ++ [lft x], i + 1, k, by omega, by omega, by simp, rfl, by rw [bts_app, List.length_append]; exact ho7, hB7, by rw [List.length_append, List.length_singleton]; omega, HS⟩
        case measure => simp [intOf]; omega
    · obtain rfl : i = n := by omega
      by_cases hlk : k < m
      · obtain ⟨gb, ob, rfl, b1, b2⟩ := rd_itm (Rd.below H1.out hB) (j := k) (by rw [← HM.out]; exact hlk)
        obtain ⟨y, hy⟩ : ∃ y, y = itm b k := ⟨_, rfl⟩
        have HS := hid (show (out ++ [rgt y]) ++ diffS (a.drop i) (b.drop (k + 1)) = diffS a b by rw [← HC.out, dif_r a b i k (by rw [← HM.out]; exact hlk) (fun h => absurd h (by rw [← HN.out]; omega)), ← hy]; simp)
        rw [← hy] at b1 b2
        have gmk : ¬ m ≤ k := by omega
        clear hy
        go_wp2
        go_quiet (fail)
        revert nq; intro nq1
        go_wp2
        go_quiet (fail)
        go_wp2
        refine wp_region_mqtail 12 (v := (.slice Av out.length cv)) (by decide) (by kernel_rfl) (by kernel_rfl) (by kernel_rfl) (by kernel_rfl) (fun _ _ _ h => h) (Or.inl ⟨by rfl, ?gm⟩) ?_
        case gm => intro w; go_simp
        simp only [List.take_succ_cons, List.take_zero, List.drop_succ_cons, List.drop_zero, List.drop_one, List.tail_cons]
        repeat (quiet_step (fail))
        refine wpQuiet_nil ?_
        intro q2
        have hown2 := own_of_below hown (below_drewN (below_rf wr) (nq1 + nq + q2))
        have hB2 := below_drewN hB (nq1 + nq + q2)
        go_wp2_with (at_builtin; (refine wpList_appN ti_chg (.tmp 110) (.tmp 122) (by rfl) (by rfl) w.heap.size [.string (Str y.1), .string (Str []), .string (Str y.2), .bool false, .bool true] 39 1 1 (by rfl) (by rw [show (wr.drewN (nq1 + nq + q2)).heap.size = wr.heap.size by simp]; rfl) hown2 (by rfl) (by simp [Value.oneCell']) hB2 hB2.size (by omega) ?_; intro A7 c7 w7 ho7 hg7 hB7 hsz7))
        go_wp2
        go_roundw
        case rel => exact ⟨out ++ [rgt y], i, k + 1, by omega, by omega, rfl, by simp, by rw [bts_app, List.length_append]; exact ho7, hB7, by rw [List.length_append, List.length_singleton]; omega, HS⟩
        case measure => simp [intOf]; omega
      · obtain rfl : k = m := by omega
        have HS := hid (show out = diffS a b by rw [← HC.out, dif_end a b i k (by rw [← HN.out]; omega) (by rw [← HM.out]; omega), List.append_nil])
        go_wp2
        go_ret
        exact ⟨⟨_, rfl, by rw [← HS.out]; exact hown⟩, hB⟩
end Go.Proofs.Ytoidbgedpakjmaa.Dif
