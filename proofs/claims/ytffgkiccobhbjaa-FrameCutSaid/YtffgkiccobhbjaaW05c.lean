/- The walks of layer 5, third part: the document's frames. -/
import Derived.Test.YtffgkiccobhbjaaW05b
set_option linter.unusedVariables false
set_option linter.unusedSimpArgs false
namespace Go.Proofs.Ytffgkiccobhbjaa.W05
open Go.RowKit Go.Proofs.Ytffgkiccobhbjaa.Lib Go.Proofs.Ytffgkiccobhbjaa.Crc Go.Proofs.Ytffgkiccobhbjaa.Fr Go.Proofs.Ytffgkiccobhbjaa.T05
attribute [local go_sem] Str_mk Str_size Str_toList Str_extract Str_append Str_get bt_nn bt_lt V_nn V_lt four_len List.length_append take_rest wrap_len
set_option maxHeartbeats 1600000 in
theorem rwrap_any (s : List UInt8) (w : World) (hs : s.length ≤ 1048577) :
    Calls Try.prog 10 #[.string (Str s)] w fun e w' => e = .returned (.tuple #[.string (Str (frWrap s)), .bool true]) ∧ Below w.heap.size w w' := by
  have h1 : decide (1048577 < s.length) = false := decide_eq_false (by omega)
  have h1' : decide (1048577 < (s.length : Int)) = false := decide_eq_false (by omega)
  go_enter Try.func10, Try.ntmps10
  go_wp2_with fail
  refine (rfour_any _ _ (by omega) (by omega)).mono ?_; rintro e w1 ⟨rfl, hb1⟩
  go_wp2_with fail
  refine (rcheck_any _ _ (by rw [four_len]; omega)).mono ?_; rintro e w2 ⟨rfl, rfl⟩
  go_wp2_with fail
  refine (rfour_any _ _ (V_nn _) (V_lt _)).mono ?_; rintro e w3 ⟨rfl, hb3⟩
  go_wp2_with fail
  refine (rcheck_any _ _ (by omega)).mono ?_; rintro e w4 ⟨rfl, rfl⟩
  go_wp2_with fail
  refine (rfour_any _ _ (V_nn _) (V_lt _)).mono ?_; rintro e w5 ⟨rfl, hb5⟩
  go_wp2_with fail
  go_ret2
  exact ⟨rfl, below_tr (below_tr hb1 hb3) hb5⟩
theorem bt_drop (s : List UInt8) (a i : Nat) : bt (s.drop a) i = bt s (a + i) := by unfold bt; simp [List.getD_eq_getElem?_getD]
theorem n4_walk_at (s : List UInt8) (a : Nat) : bits .or .i64 (bits .or .i64 (bits .or .i64 (wrap64 (wrap64 (bt s a) * 16777216)) (wrap64 (wrap64 (bt s (a + 1)) * 65536))) (wrap64 (wrap64 (bt s (a + 2)) * 256))) (wrap64 (bt s (a + 3))) = frN4 (s.drop a) := by
  rw [← n4_walk]; simp only [bt_drop, Nat.add_zero]
theorem sub12 (a n : Nat) : a + 12 + n - a = 12 + n := by omega
attribute [local go_sem] n4_walk_at sub12
set_option maxHeartbeats 3200000 in
set_option maxRecDepth 100000 in
theorem rscan_any (s : List UInt8) (w : World) (hs : s.length ≤ 1000000000) :
    Calls Try.prog 12 #[.string (Str s)] w fun e w' => (∃ v, e = .returned (.tuple #[v, .int .i64 ((frScan s).2 : Nat)]) ∧ w'.ownsRow w.heap.size 9 1 v (frScan s).1.length (strs (frScan s).1)) ∧ Below w.heap.size w w' := by
  go_enter Try.func12, Try.ntmps12
  go_wp2
  go_loopw [4, 5] (fun v i wr => ∃ (a : Nat) (pre : List (List UInt8)), a ≤ s.length ∧ pre.length ≤ a ∧ i = .int .i64 a ∧ wr.ownsRow w.heap.size 9 1 v pre.length (strs pre) ∧ Hid (frScan s = (pre ++ (frScan (s.drop a)).1, a + (frScan (s.drop a)).2)) ∧ Below w.heap.size w wr) (fun _ i _ => s.length - (intOf i).toNat)
  case atStart => exact ⟨0, [], by omega, by simp, rfl, own_nil _ _ _ _, by show _ = _; simp, Below.refl _ _⟩
  case round =>
    obtain ⟨a, pre, ha, hpa, rfl, hown, hsc, hB⟩ := hrel
    have hdl : (s.drop a).length = s.length - a := by simp
    have hend : ∀ (W : World) (v : Value), W.ownsRow w.heap.size 9 1 v pre.length (strs pre) → frNext (s.drop a) = none → ∀ x : Int, x = a → (∃ v', Ending.returned (.tuple #[v, .int .i64 x]) = Ending.returned (.tuple #[v', .int .i64 ((frScan s).2 : Nat)]) ∧ W.ownsRow w.heap.size 9 1 v' (frScan s).1.length (strs (frScan s).1)) := by
      intro W v ho hn x hx
      have h := hsc.out
      rw [scan_none hn] at h
      simp only [List.append_nil, Nat.add_zero] at h
      rw [h, hx]
      exact ⟨v, rfl, ho⟩
    have HE := hid hend
    have HD := hid hdl
    clear hend hdl
    by_cases h12 : s.length - a < 12
    · have h12' : decide ((s.length : Int) - a < 12) = true := decide_eq_true (by omega)
      go_wp2
      go_ret2
      exact ⟨HE.out _ _ hown (next_short (by rw [HD.out]; exact h12)) _ rfl, hB⟩
    · have h12' : decide ((s.length : Int) - a < 12) = false := decide_eq_false (by omega)
      have hnn := n4_nn (s.drop a)
      have hlt := n4_lt (s.drop a)
      by_cases h1 : 1048577 < frN4 (s.drop a)
      · have hno : frNext (s.drop a) = none := by unfold frNext; rw [if_neg (by rw [HD.out]; exact h12), if_pos (.inl h1)]
        have h1' : decide (1048577 < frN4 (s.drop a)) = true := decide_eq_true h1
        have HN := hid hno
        clear h1 hno
        go_wp2
        go_quiet (fail)
        go_wp2
        go_ret2
        exact ⟨HE.out _ _ (own_of_below hown (below_drewN (Below.refl _ _) _)) HN.out _ rfl, below_drewN hB _⟩
      · obtain ⟨n, hn⟩ : ∃ n : Nat, frN4 (s.drop a) = n := ⟨(frN4 (s.drop a)).toNat, by omega⟩
        have h1' : decide (1048577 < (n : Int)) = false := decide_eq_false (by omega)
        by_cases h2 : (s.length : Int) - a - 12 < n
        · have hno : frNext (s.drop a) = none := by unfold frNext; rw [if_neg (by rw [HD.out]; exact h12), if_pos (.inr (by rw [HD.out]; omega))]
          have h2' : decide ((s.length : Int) - a - 12 < (n : Int)) = true := decide_eq_true h2
          have HN := hid hno
          clear h1 hno
          go_wp2
          go_quiet (fail)
          go_wp2
          go_ret2
          exact ⟨HE.out _ _ (own_of_below hown (below_drewN (Below.refl _ _) _)) HN.out _ rfl, below_drewN hB _⟩
        · have h2' : decide ((s.length : Int) - a - 12 < (n : Int)) = false := decide_eq_false h2
          have hnx : frNext (s.drop a) = if frAhead ((s.drop (a + 12)).take n) = (s.drop a).take 12 then some ((s.drop (a + 12)).take n) else none := by
            unfold frNext; rw [if_neg (by rw [HD.out]; exact h12), if_neg (by rw [HD.out]; omega), hn, Int.toNat_natCast, List.drop_drop]
          have hcmp : (frAhead ((s.drop (a + 12)).take n) = (s.drop a).take 12) ↔ frWrap ((s.drop (a + 12)).take n) = (s.drop a).take (12 + n) := by
            unfold frWrap
            rw [List.take_add, List.drop_drop]
            constructor
            · intro h; rw [h]
            · intro h; exact (app4 h (by rw [ahead_len]; simp; omega)).1
          have h4 : n ≤ s.length - a - 12 := by omega
          have h5 : n ≤ 1048577 := by omega
          have HN := hid hnx
          have HC := hid hcmp
          clear h1 h2 hnx hcmp hnn hlt
          go_wp2
          go_quiet (fail)
          go_wp2_with fail
          have hpl : ((s.drop (a + 12)).take n).length = n := by simp; omega
          with_reducible refine (rwrap_any ((s.drop (a + 12)).take n) _ (by rw [hpl]; exact h5)).mono ?_
          rintro e w1 ⟨rfl, hb1⟩
          have hB1 := below_tr (below_drewN hB _) hb1
          have hown1 := own_of_below hown (below_tr (below_drewN (Below.refl _ _) _) hb1)
          have HP := hid hpl
          clear hown hpl hB hb1
          obtain ⟨p, hp⟩ : ∃ p, p = (s.drop (a + 12)).take n := ⟨_, rfl⟩
          rw [← hp] at HN HC HP ⊢
          have HQ := hid hp
          clear hp
          by_cases hq : frWrap p = (s.drop a).take (12 + n)
          · have hq' : (frWrap p == (s.drop a).take (12 + n)) = true := beq_iff_eq.2 hq
            have hnx := HN.out
            rw [if_pos (HC.out.2 hq)] at hnx
            have HX := hid hnx
            clear hq hnx
            go_wp2_with (at_builtin; refine wpList_app1 ti_str _ _ (by rfl) (by rfl) w.heap.size [.string (Str ((s.drop (a + 12)).take n))] 9 1 (by rfl) (by rfl) hown1 rfl (by simp [Value.oneCell']) hB1 hB1.size (by omega) ?_; intro A' c' w2 hown2 hg2 hB2 hb2)
            go_roundw
            case rel =>
              have hl := HP.out
              refine ⟨a + 12 + n, pre ++ [p], by omega, by simp; omega, by go_num, ?_, ?_, hB2⟩
              · rw [← HQ.out] at hown2; simpa [strs] using hown2
              · show _ = _
                rw [hsc.out, scan_some HX.out, hl]; simp [Nat.add_assoc]
            case measure => simp [intOf]; omega
          · have hq' : (frWrap p == (s.drop a).take (12 + n)) = false := beq_eq_false_iff_ne.2 hq
            have hnx := HN.out
            rw [if_neg (fun h => hq (HC.out.1 h))] at hnx
            have HX := hid hnx
            clear hq hnx
            go_wp2
            go_ret2
            exact ⟨HE.out _ _ hown1 HX.out _ rfl, hB1⟩
end Go.Proofs.Ytffgkiccobhbjaa.W05
