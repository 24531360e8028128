/- The walks of layer 5's statements, second part. -/
import Derived.Test.YtffgkiccobhbjaaL05
set_option linter.unusedVariables false
set_option linter.unusedSimpArgs false
namespace Go.Proofs.Ytffgkiccobhbjaa.W05
open Go.RowKit Go.Proofs.Ytffgkiccobhbjaa.Lib Go.Proofs.Ytffgkiccobhbjaa.Crc Go.Proofs.Ytffgkiccobhbjaa.Fr Go.Proofs.Ytffgkiccobhbjaa.T05
attribute [local go_sem] Str_mk Str_size Str_toList Str_extract Str_append Str_get bt_nn bt_lt V_nn V_lt four_len List.length_append take_rest wrap_len
set_option maxHeartbeats 1600000 in
theorem FrameJoins_any (p q : List UInt8) (w : World) (hp : p.length ≤ 140737488351232) (hq : q.length ≤ 140737488351232) :
    Calls Try.prog 7 #[.string (Str p), .string (Str q)] w fun e w' => e = .returned (.bool true) ∧ Below w.heap.size w w' := by
  by_cases h5 : 2500 < p.length
  · obtain ⟨t1, t2⟩ := tests _ _ h5
    go_enter Try.func7, Try.ntmps7
    go_wp2_with (go_at_call 8; refine (awake_any _).mono ?_; rintro e w1 ⟨rfl, hb1⟩)
    go_ret
    exact ⟨rfl, hb1⟩
  · obtain ⟨t1, t2⟩ := testsN _ _ h5
    by_cases h6 : 2500 < q.length
    · obtain ⟨t3, t4⟩ := tests _ _ h6
      go_enter Try.func7, Try.ntmps7
      go_wp2_with (go_at_call 8; refine (awake_any _).mono ?_; rintro e w1 ⟨rfl, hb1⟩)
      go_ret
      exact ⟨rfl, hb1⟩
    · obtain ⟨t3, t4⟩ := testsN _ _ h6
      have hsl := scan_le p
      have hslq := scan_le q
      have hcp := scan_count p
      have hcq := scan_count q
      by_cases hall : (frScan p).2 = p.length
      · have h7 : ((((frScan p).2 : Nat) : Int) == (p.length : Int)) = true := by rw [hall]; simp
        have h8 : ((frScan p).2 == p.length) = true := by rw [hall]; simp
        have HA := hid hall
        clear hall
        go_enter Try.func7, Try.ntmps7
        go_wp2_with fail
        refine (awake_any _).mono ?_; rintro e w1 ⟨rfl, hb1⟩
        go_wp2_with fail
        refine (scan_any _ _ (by omega)).mono ?_; rintro e w2 ⟨⟨v2, rfl, ho2⟩, hb2⟩
        go_wp2_with fail
        refine (scan_any _ _ (by omega)).mono ?_; rintro e w3 ⟨⟨v3, rfl, ho3⟩, hb3⟩
        go_wp2_with fail
        refine (scan_any _ _ (by simp; omega)).mono ?_; rintro e w4 ⟨⟨v4, rfl, ho4⟩, hb4⟩
        have hj := scan_join p q HA.out
        rw [hj] at ho4 ⊢
        obtain ⟨A2, c2, rfl, _, hr2⟩ := Rd.own' (own_of_below (own_of_below ho2 hb3) hb4)
        obtain ⟨A3, c3, rfl, _, hr3⟩ := Rd.own' (own_of_below ho3 hb4)
        obtain ⟨A4, c4, rfl, _, hr4⟩ := Rd.own' ho4
        have h9 : ((p.length : Int) = ((frScan p).2 : Nat)) = True := eq_true (by rw [HA.out])
        clear ho2 ho3 ho4
        go_wp2_with (at_builtin; (first
          | (refine wpList_appS ti_str (.tmp 53) (.tmp 54) (by simp [Region.wanted, yielded, h9]) (by rfl) w4.heap.size A2 (frScan p).1.length c2 (strs (frScan p).1) (by rfl) (by rfl) (own_empty _ _ _) (by simp [strs]) (hr2.1.alloc _) hr2.2.1 hr2.2.2 (strs_one _) ((Below.refl _ _).alloc (Nat.le_refl _) _) (by simp) (by omega) ?_; intro v5 w5 ho5 hg5 hbl5 hB5 hb5)
          | (refine wpList_appS ti_str (.tmp 55) (.tmp 56) (by simp [Region.wanted, yielded, h9]) (by rfl) w4.heap.size A3 (frScan q).1.length c3 (strs (frScan q).1) (by rfl) (by rfl) ho5 (by simp [strs]) (hr3.1.below hB5) hr3.2.1 hr3.2.2 (strs_one _) hB5 hb5 (by omega) ?_; intro v6 w6 ho6 hg6 hbl6 hB6 hb6)))
        obtain ⟨A6, c6, rfl, _, hr6⟩ := Rd.own' ho6
        have hw : ((frScan p).1 ++ (frScan q).1).length = (frScan p).1.length + (frScan q).1.length := by simp
        rw [Nat.zero_add, ← hw]
        have hr4' : Rd w6 A4 (strs ((frScan p).1 ++ (frScan q).1)) := hr4.1.below hB6
        rw [List.nil_append, strs_app] at hr6
        clear ho5 ho6 hg5 hg6
        with_reducible refine (same_any _ _ _ _ _ _ _ hr4' hr6.1 (by rw [hw]; omega) (by rw [hw]; omega)).mono ?_
        rintro e w7 ⟨rfl, rfl⟩
        go_wp2_with fail
        go_ret
        refine ⟨?_, below_tr (below_tr (below_tr (below_tr hb1 hb2) hb3) hb4) hB6⟩
        simp [h9]
      · have h7 : ((((frScan p).2 : Nat) : Int) == (p.length : Int)) = false := beq_eq_false_iff_ne.2 (by omega)
        have h8 : ((frScan p).2 == p.length) = false := beq_eq_false_iff_ne.2 hall
        have h9 : decide (((frScan p).2 : Nat) < p.length) = true := decide_eq_true (by omega)
        go_enter Try.func7, Try.ntmps7
        go_wp2_with fail
        refine (awake_any _).mono ?_; rintro e w1 ⟨rfl, hb1⟩
        go_wp2_with fail
        refine (scan_any _ _ (by omega)).mono ?_; rintro e w2 ⟨⟨v2, rfl, ho2⟩, hb2⟩
        go_wp2_with fail
        refine (scan_any _ _ (by omega)).mono ?_; rintro e w3 ⟨⟨v3, rfl, ho3⟩, hb3⟩
        go_wp2_with fail
        go_ret
        exact ⟨rfl, below_tr (below_tr hb1 hb2) hb3⟩
end Go.Proofs.Ytffgkiccobhbjaa.W05
