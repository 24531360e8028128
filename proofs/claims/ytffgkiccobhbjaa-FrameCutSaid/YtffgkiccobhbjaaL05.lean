/- The walks of layer 5's statements: what they call of their own. -/
import Derived.Test.YtffgkiccobhbjaaW05c
set_option linter.unusedVariables false
set_option linter.unusedSimpArgs false
namespace Go.Proofs.Ytffgkiccobhbjaa.W05
open Go.RowKit Go.Proofs.Ytffgkiccobhbjaa.Lib Go.Proofs.Ytffgkiccobhbjaa.Crc Go.Proofs.Ytffgkiccobhbjaa.Fr Go.Proofs.Ytffgkiccobhbjaa.T05
attribute [local go_sem] Str_mk Str_size Str_toList Str_extract Str_append Str_get bt_nn bt_lt V_nn V_lt four_len List.length_append take_rest wrap_len
set_option maxHeartbeats 1600000 in
theorem same_any (l m : List (List UInt8)) (A B : Option Addr) (c d : Nat) (w : World) (hl : Rd w A (strs l)) (hm : Rd w B (strs m)) (h1 : l.length ≤ 1000000000) (h2 : m.length ≤ 1000000000) :
    Calls Try.prog 13 #[.slice A l.length c, .slice B m.length d] w fun e w' => e = .returned (.bool (l == m)) ∧ w = w' := by
  have HL := hid hl
  have HM := hid hm
  clear hl hm
  by_cases he : l.length = m.length
  · have he' : ((l.length : Int) == (m.length : Int)) = true := by rw [he]; simp
    have he2 : (l.length == m.length) = true := by rw [he]; simp
    have HE := hid he
    clear he
    go_enter Try.func13, Try.ntmps13
    go_wp2
    go_loop [14] (fun i => ∃ k : Nat, k ≤ l.length ∧ i = .int .i64 k ∧ Hid (l.take k = m.take k)) (fun i => l.length - (intOf i).toNat)
    case atStart => exact ⟨0, by omega, rfl, by show _ = _; simp⟩
    case round =>
      obtain ⟨k, hk, rfl, ht⟩ := hrel
      by_cases hlt : k < l.length
      · have hlm : k < m.length := by have := HE.out; omega
        obtain ⟨b, o, rfl, hc⟩ := Rd.str HL.out hlt
        obtain ⟨b2, o2, rfl, hc2⟩ := Rd.str HM.out hlm
        by_cases hq : sat l k = sat m k
        · have hq' : (sat l k == sat m k) = true := beq_iff_eq.2 hq
          have HQ := hid hq
          clear hq
          go_wp2
          go_round
          case rel => exact ⟨k + 1, by omega, by go_num, by show _ = _; rw [take_sat l k hlt, take_sat m k hlm, ht.out, HQ.out]⟩
          case measure => simp [intOf]; omega
        · have hq' : (sat l k == sat m k) = false := beq_eq_false_iff_ne.2 hq
          have HQ := hid hq
          clear hq
          go_wp2
          go_ret
          refine ⟨?_, rfl⟩
          have : (l == m) = false := beq_eq_false_iff_ne.2 (fun h => HQ.out (by rw [h]))
          rw [this]; rfl
      · obtain rfl : k = l.length := by omega
        go_wp2
        go_ret
        refine ⟨?_, rfl⟩
        have h := ht.out
        rw [List.take_length, HE.out, List.take_length] at h
        have : (l == m) = true := beq_iff_eq.2 h
        rw [this]; rfl
  · have he' : ((l.length : Int) == (m.length : Int)) = false := beq_eq_false_iff_ne.2 (by omega)
    have he2 : (l.length == m.length) = false := beq_eq_false_iff_ne.2 he
    have HE := hid he
    clear he
    go_enter Try.func13, Try.ntmps13
    go_wp2
    go_ret
    refine ⟨?_, rfl⟩
    have : (l == m) = false := beq_eq_false_iff_ne.2 (fun h => HE.out (by rw [h]))
    rw [this]; rfl
theorem ab_scan : frScan (frWrap [97, 98] ++ [120]) = ([[97, 98]], 14) := by
  rw [scan_wrap _ _ (by decide), scan_none (next_short (by decide))]; rfl
set_option maxHeartbeats 1600000 in
theorem awake_any (w : World) : Calls Try.prog 8 #[] w fun e w' => e = .returned (.bool true) ∧ Below w.heap.size w w' := by
  go_enter Try.func8, Try.ntmps8
  go_wp2_with fail
  with_reducible refine (wrap_any _ _ (by decide)).mono ?_
  rintro e w1 ⟨rfl, hb1⟩
  go_wp2_with fail
  with_reducible refine (scan_any _ _ (by decide)).mono ?_
  rintro e w2 ⟨⟨v, rfl, ho⟩, hb2⟩
  rw [ab_scan] at ho ⊢
  obtain ⟨A, c, rfl, _, hr⟩ := Rd.own ho
  obtain ⟨b, o, rfl, hc⟩ := Rd.str0 hr (by decide)
  rw [show sat [[97, 98]] 0 = [97, 98] from rfl] at hc
  clear ho hr
  have hl : (frWrap [97, 98]).length = 14 := rfl
  go_wp2_with fail
  go_ret
  exact ⟨rfl, below_tr hb1 hb2⟩
theorem tests (n m : Nat) (h : n < m) : decide (n < m) = true ∧ decide ((n : Int) < (m : Int)) = true := ⟨decide_eq_true h, decide_eq_true (by omega)⟩
theorem testsN (n m : Nat) (h : ¬ n < m) : decide (n < m) = false ∧ decide ((n : Int) < (m : Int)) = false := ⟨decide_eq_false h, decide_eq_false (by omega)⟩
set_option maxHeartbeats 1600000 in
theorem FrameWraps_any (p : List UInt8) (w : World) (hp : p.length ≤ 140737488351232) :
    Calls Try.prog 3 #[.string (Str p)] w fun e w' => e = .returned (.bool true) ∧ Below w.heap.size w w' := by
  by_cases h5 : 5000 < p.length
  · obtain ⟨t1, t2⟩ := tests _ _ h5
    go_enter Try.func3, Try.ntmps3
    go_wp2_with (go_at_call 8; refine (awake_any _).mono ?_; rintro e w1 ⟨rfl, hb1⟩)
    go_ret
    exact ⟨rfl, hb1⟩
  · obtain ⟨t1, t2⟩ := testsN _ _ h5
    go_enter Try.func3, Try.ntmps3
    go_wp2_with fail
    refine (awake_any _).mono ?_; rintro e w1 ⟨rfl, hb1⟩
    go_wp2_with fail
    refine (wrap_any _ _ (by omega)).mono ?_; rintro e w2 ⟨rfl, hb2⟩
    go_wp2_with fail
    refine (rwrap_any _ _ (by omega)).mono ?_; rintro e w3 ⟨rfl, hb3⟩
    go_wp2_with fail
    go_ret
    exact ⟨rfl, below_tr (below_tr hb1 hb2) hb3⟩
set_option maxHeartbeats 1600000 in
theorem FrameScans_any (p : List UInt8) (w : World) (hp : p.length ≤ 140737488351232) :
    Calls Try.prog 4 #[.string (Str p)] w fun e w' => e = .returned (.bool true) ∧ Below w.heap.size w w' := by
  by_cases h5 : 5000 < p.length
  · obtain ⟨t1, t2⟩ := tests _ _ h5
    go_enter Try.func4, Try.ntmps4
    go_wp2_with (go_at_call 8; refine (awake_any _).mono ?_; rintro e w1 ⟨rfl, hb1⟩)
    go_ret
    exact ⟨rfl, hb1⟩
  · obtain ⟨t1, t2⟩ := testsN _ _ h5
    go_enter Try.func4, Try.ntmps4
    go_wp2_with fail
    refine (awake_any _).mono ?_; rintro e w1 ⟨rfl, hb1⟩
    go_wp2_with fail
    refine (scan_any _ _ (by omega)).mono ?_; rintro e w2 ⟨⟨v, rfl, ho2⟩, hb2⟩
    go_wp2_with fail
    refine (rscan_any _ _ (by omega)).mono ?_; rintro e w3 ⟨⟨v', rfl, ho3⟩, hb3⟩
    obtain ⟨A, c, rfl, _, hr⟩ := Rd.own (own_of_below ho2 hb3)
    obtain ⟨B, d, rfl, _, hs⟩ := Rd.own ho3
    have hle := scan_count p
    have hxx : (frScan p).1.length ≤ 1000000000 := by omega
    clear ho2 ho3 hle
    go_wp2_with fail
    with_reducible refine (same_any _ _ _ _ _ _ _ hr hs hxx hxx).mono ?_
    rintro e w4 ⟨rfl, rfl⟩
    go_wp2_with fail
    go_ret
    exact ⟨by simp, below_tr (below_tr hb1 hb2) hb3⟩

end Go.Proofs.Ytffgkiccobhbjaa.W05
