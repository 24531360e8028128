/- The walks of layer 5, second part: frames and what a text begins with. -/
import Derived.Test.YtffgkiccobhbjaaW05
import Derived.Test.YtffgkiccobhbjaaT05
set_option linter.unusedVariables false
set_option linter.unusedSimpArgs false
namespace Go.Proofs.Ytffgkiccobhbjaa.W05
open Go.RowKit Go.Proofs.Ytffgkiccobhbjaa.Lib Go.Proofs.Ytffgkiccobhbjaa.Crc Go.Proofs.Ytffgkiccobhbjaa.Fr Go.Proofs.Ytffgkiccobhbjaa.T05
attribute [local go_sem] Str_mk Str_size Str_toList Str_extract Str_append Str_get bt_nn bt_lt V_nn V_lt four_len List.length_append take_rest
set_option maxHeartbeats 800000 in
theorem ahead_any (s : List UInt8) (w : World) (hs : s.length ≤ 1048577) :
    Calls Try.prog 14 #[.string (Str s)] w fun e w' => e = .returned (.string (Str (frAhead s))) ∧ Below w.heap.size w w' := by
  go_enter Try.func14, Try.ntmps14
  go_wp2_with fail
  refine (four_any _ _ (by omega) (by omega)).mono ?_; rintro e w1 ⟨rfl, hb1⟩
  go_wp2_with fail
  refine (check_any _ _ (by rw [four_len]; omega)).mono ?_; rintro e w2 ⟨rfl, hb2⟩
  go_wp2_with fail
  refine (four_any _ _ (V_nn _) (V_lt _)).mono ?_; rintro e w3 ⟨rfl, hb3⟩
  go_wp2_with fail
  refine (check_any _ _ (by omega)).mono ?_; rintro e w4 ⟨rfl, hb4⟩
  go_wp2_with fail
  refine (four_any _ _ (V_nn _) (V_lt _)).mono ?_; rintro e w5 ⟨rfl, hb5⟩
  go_wp2_with fail
  go_ret
  exact ⟨rfl, below_tr (below_tr (below_tr (below_tr hb1 hb2) hb3) hb4) hb5⟩
attribute [local go_sem] ahead_len
set_option maxHeartbeats 800000 in
theorem wrap_any (s : List UInt8) (w : World) (hs : s.length ≤ 1048577) :
    Calls Try.prog 9 #[.string (Str s)] w fun e w' => e = .returned (.tuple #[.string (Str (frWrap s)), .bool true]) ∧ Below w.heap.size w w' := by
  have h1 : decide (1048577 < s.length) = false := decide_eq_false (by omega)
  have h1' : decide (1048577 < (s.length : Int)) = false := decide_eq_false (by omega)
  have h0 := hid hs
  clear hs
  go_enter Try.func9, Try.ntmps9
  go_wp2_with fail
  refine (ahead_any _ _ h0.out).mono ?_; rintro e w1 ⟨rfl, hb1⟩
  have h2 := h0.out
  go_wp2_with fail
  go_ret2
  exact ⟨rfl, hb1⟩
theorem j64 (i : Nat) (x y : Int) (hx0 : 0 ≤ x) (hx : x % 2 ^ i = 0) (hx1 : x < 2 ^ 62) (hy0 : 0 ≤ y) (hy : y < 2 ^ i) (hy1 : y < 2 ^ 62) : bits .or .i64 x y = x + y :=
  bits_join .i64 62 (by decide) (fun n h0 h1 => by rw [IntKind.wrap_i64]; omega) i x y hx0 hx hx1 hy0 hy hy1
theorem n4_walk (s : List UInt8) : bits .or .i64 (bits .or .i64 (bits .or .i64 (wrap64 (wrap64 (bt s 0) * 16777216)) (wrap64 (wrap64 (bt s 1) * 65536))) (wrap64 (wrap64 (bt s 2) * 256))) (wrap64 (bt s 3)) = frN4 s := by
  have a0 := bt_nn s 0; have a1 := bt_nn s 1; have a2 := bt_nn s 2; have a3 := bt_nn s 3
  have b0 := bt_lt s 0; have b1 := bt_lt s 1; have b2 := bt_lt s 2; have b3 := bt_lt s 3
  unfold frN4
  have w0 : wrap64 (wrap64 (bt s 0) * 16777216) = bt s 0 * 16777216 := by unfold wrap64; omega
  have w1 : wrap64 (wrap64 (bt s 1) * 65536) = bt s 1 * 65536 := by unfold wrap64; omega
  have w2 : wrap64 (wrap64 (bt s 2) * 256) = bt s 2 * 256 := by unfold wrap64; omega
  have w3 : wrap64 (bt s 3) = bt s 3 := by unfold wrap64; omega
  rw [w0, w1, w2, w3, j64 24 (bt s 0 * 16777216) (bt s 1 * 65536) (by omega) (by omega) (by omega) (by omega) (by omega) (by omega), j64 16 (bt s 0 * 16777216 + bt s 1 * 65536) (bt s 2 * 256) (by omega) (by omega) (by omega) (by omega) (by omega) (by omega), j64 8 (bt s 0 * 16777216 + bt s 1 * 65536 + bt s 2 * 256) (bt s 3) (by omega) (by omega) (by omega) (by omega) (by omega) (by omega)]
attribute [local go_sem] n4_walk
def NextOut (s : List UInt8) (e : Ending) : Prop :=
  (frNext s = none ∧ ∃ q, e = .returned (.tuple #[.string (Str q), .bool false])) ∨ ∃ p, frNext s = some p ∧ e = .returned (.tuple #[.string (Str p), .bool true])
set_option maxHeartbeats 1600000 in
theorem next_any (s : List UInt8) (w : World) (hs : s.length ≤ 1000000000) :
    Calls Try.prog 17 #[.string (Str s)] w fun e w' => NextOut s e ∧ Below w.heap.size w w' := by
  by_cases h12 : s.length < 12
  · have h12' : decide (s.length < 12) = true := decide_eq_true h12
    go_enter Try.func17, Try.ntmps17
    go_wp2
    go_ret2
    exact ⟨.inl ⟨next_short h12, [], by rw [Str_nil]; rfl⟩, Below.refl _ _⟩
  · have h12' : decide (s.length < 12) = false := decide_eq_false h12
    by_cases h1 : 1048577 < frN4 s
    · have hno : frNext s = none := by unfold frNext; rw [if_neg h12, if_pos (.inl h1)]
      have h1' : decide (1048577 < frN4 s) = true := decide_eq_true h1
      have h2 := hid h1
      have h3 := hid hno
      clear h1 hno
      go_enter Try.func17, Try.ntmps17
      go_wp2
      go_quiet (fail)
      go_wp2
      go_ret2
      exact ⟨.inl ⟨h3.out, [], by rw [Str_nil]; rfl⟩, below_drewN (Below.refl _ _) _⟩
    · by_cases h2 : (s.length : Int) - 12 < frN4 s
      · have hno : frNext s = none := by unfold frNext; rw [if_neg h12, if_pos (.inr h2)]
        have h1' : decide (1048577 < frN4 s) = false := decide_eq_false h1
        have h2' : decide ((s.length : Int) - 12 < frN4 s) = true := decide_eq_true h2
        have h3 := hid hno
        clear h1 h2 hno
        go_enter Try.func17, Try.ntmps17
        go_wp2
        go_quiet (fail)
        go_wp2
        go_ret2
        exact ⟨.inl ⟨h3.out, [], by rw [Str_nil]; rfl⟩, below_drewN (Below.refl _ _) _⟩
      · have hnx : frNext s = if frAhead ((s.drop 12).take (frN4 s).toNat) = s.take 12 then some ((s.drop 12).take (frN4 s).toNat) else none := by
          unfold frNext; rw [if_neg h12, if_neg (by omega)]
        have hnn := n4_nn s
        obtain ⟨n, hn⟩ : ∃ n : Nat, frN4 s = n := ⟨(frN4 s).toNat, by omega⟩
        have h1' : decide (1048577 < (n : Int)) = false := decide_eq_false (by omega)
        have h2' : decide ((s.length : Int) - 12 < (n : Int)) = false := decide_eq_false (by omega)
        have h0 : ((s.drop 12).take n).length ≤ 1048577 := by simp; omega
        have h4 : n ≤ s.length - 12 := by omega
        rw [hn, Int.toNat_natCast] at hnx
        have HN := hid hnx
        have H0 := hid h0
        clear h1 h2 hnx h0 hnn
        go_enter Try.func17, Try.ntmps17
        go_wp2
        go_quiet (fail)
        go_wp2
        go_region_with ((go_at_call 14; refine (ahead_any _ _ H0.out).mono ?_; rintro e w5 ⟨rfl, hb5⟩))
        all_goals go_wp2
        all_goals go_ret2
        refine ⟨?_, below_tr (below_drewN (Below.refl _ _) _) hb5⟩
        show NextOut s (.returned (.tuple #[.string (Str ((s.drop 12).take n)), .bool (frAhead ((s.drop 12).take n) == s.take 12)]))
        have hx := HN.out
        by_cases hq : frAhead ((s.drop 12).take n) = s.take 12
        · rw [if_pos hq] at hx
          exact .inr ⟨_, hx, by rw [beq_iff_eq.2 hq]⟩
        · rw [if_neg hq] at hx
          exact .inl ⟨hx, _, by rw [beq_eq_false_iff_ne.2 hq]⟩
set_option maxHeartbeats 1600000 in
theorem scan_any (s : List UInt8) (w : World) (hs : s.length ≤ 1000000000) :
    Calls Try.prog 11 #[.string (Str s)] w fun e w' => (∃ v, e = .returned (.tuple #[v, .int .i64 ((frScan s).2 : Nat)]) ∧ w'.ownsRow w.heap.size 9 1 v (frScan s).1.length (strs (frScan s).1)) ∧ Below w.heap.size w w' := by
  go_enter Try.func11, Try.ntmps11
  go_wp2
  go_loopw [4, 5] (fun v i wr => ∃ (a : Nat) (pre : List (List UInt8)), a ≤ s.length ∧ pre.length ≤ a ∧ i = .int .i64 a ∧ wr.ownsRow w.heap.size 9 1 v pre.length (strs pre) ∧ Hid (frScan s = (pre ++ (frScan (s.drop a)).1, a + (frScan (s.drop a)).2)) ∧ Below w.heap.size w wr) (fun _ i _ => s.length - (intOf i).toNat)
  case atStart => exact ⟨0, [], by omega, by simp, rfl, own_nil _ _ _ _, by show _ = _; simp, Below.refl _ _⟩
  case round =>
    obtain ⟨a, pre, ha, hpa, rfl, hown, hsc, hB⟩ := hrel
    go_wp2_with fail
    with_reducible refine (next_any (s.drop a) _ (by simp; omega)).mono ?_
    rintro e w1 ⟨⟨hn, q, rfl⟩ | ⟨p, hn, rfl⟩, hb1⟩
    · have hown1 := own_of_below hown hb1
      have hB1 := below_tr hB hb1
      have HN := hid hn
      clear hown hn
      go_wp2
      go_ret2
      have hx := hsc.out
      rw [scan_none HN.out] at hx
      simp only [List.append_nil, Nat.add_zero] at hx
      rw [hx]
      exact ⟨⟨_, rfl, hown1⟩, hB1⟩
    · have hown1 := own_of_below hown hb1
      have hB1 := below_tr hB hb1
      have hpl := next_len hn
      simp at hpl
      have HN := hid hn
      clear hown hn
      have hb0 := hB1.size
      go_wp2_with (at_builtin; go_loud (refine wpList_app1 ti_str _ _ (by rfl) (by rfl) w.heap.size [.string (Str p)] 9 1 (by rfl) (by rfl) hown1 rfl (by simp [Value.oneCell']) hB1 hb0 (by omega) ?_; intro A' c' w2 hown2 hg2 hB2 hb2))
      go_roundw
      case rel =>
        refine ⟨a + (12 + p.length), pre ++ [p], by omega, by simp; omega, by go_num, ?_, ?_, hB2⟩
        · simpa [strs] using hown2
        · show _ = _
          rw [hsc.out, scan_some HN.out]; simp [Nat.add_assoc]
      case measure => simp [intOf]; omega
end Go.Proofs.Ytffgkiccobhbjaa.W05
