/- The walks of layer 5's statements, third part. -/
import Derived.Test.YtffgkiccobhbjaaL05b
import Derived.Lib.ConvBytes
set_option linter.unusedVariables false
set_option linter.unusedSimpArgs false
namespace Go.Proofs.Ytffgkiccobhbjaa.W05
open Go.RowKit Go.Proofs.Ytffgkiccobhbjaa.Lib Go.Proofs.Ytffgkiccobhbjaa.Crc Go.Proofs.Ytffgkiccobhbjaa.Fr Go.Proofs.Ytffgkiccobhbjaa.T05
attribute [local go_sem] Str_mk Str_size Str_toList Str_extract Str_append Str_get bt_nn bt_lt V_nn V_lt four_len List.length_append take_rest wrap_len
set_option maxHeartbeats 1600000 in
theorem FrameTurned_any (p q : List UInt8) (i : Int) (b : UInt8) (w : World) (hp : p.length ≤ 3000) (hq : q.length ≤ 3000) (hb : b ≠ 0) (n : Nat) (hn : n < (frWrap p).length) :
    Calls Try.prog 6 #[.string (Str p), .agg #[.int .i64 n, .int .u8 (b.toNat : Int)], .string (Str q)] w fun e w' => e = .returned (.bool true) ∧ Below w.heap.size w w' := by
  obtain ⟨t1, t2⟩ := testsN 3000 p.length (by omega)
  obtain ⟨t3, t4⟩ := testsN 3000 q.length (by omega)
  have hz : ((b.toNat : Int) == 0) = false := beq_eq_false_iff_ne.2 (fun h => hb (UInt8.toNat_inj.1 (by simpa using h)))
  have hwl := wrap_len p
  have HW := hid hwl
  rw [hwl] at hn
  clear hwl
  go_enter Try.func6, Try.ntmps6
  go_wp2_with fail
  refine (awake_any _).mono ?_; rintro e w1 ⟨rfl, hb1⟩
  go_wp2_with fail
  refine (wrap_any _ _ (by omega)).mono ?_; rintro e w2 ⟨rfl, hb2⟩
  have hB2 := below_tr hb1 hb2
  have c0 : w2.cell? ⟨w.heap.size, 0, none⟩ = some (.int .i64 n) := by rw [hB2.cell (p := ⟨w.heap.size, 0, none⟩) (by simp), World.cell?_alloc_at _ _ _ _ rfl]; rfl
  have c1 : w2.cell? ⟨w.heap.size, 1, none⟩ = some (.int .u8 (b.toNat : Int)) := by rw [hB2.cell (p := ⟨w.heap.size, 1, none⟩) (by simp), World.cell?_alloc_at _ _ _ _ rfl]; rfl
  go_wp2_with ((refine wpList_tobytes 9 34 5 (.tmp 43) ?g1 ?g2 Try.underlying9 Try.underlying34 Try.underlying5 (frWrap p) ?g3 ?_; (case g1 => rfl); (case g2 => rfl); (case g3 => rfl); intro c W3 hb3 hs3 hcc hfr hlc))
  have d0 := (hb3.cell (p := ⟨w.heap.size, 0, none⟩) (World.block_lt_of_cell? _ _ c0)).trans c0
  have d1 := (hb3.cell (p := ⟨w.heap.size, 1, none⟩) (World.block_lt_of_cell? _ _ c1)).trans c1
  have hB3 := below_tr hB2 hb3
  have dn := hcc n (by rw [HW.out]; omega)
  have fn := hfr n (by rw [HW.out]; omega)
  have HC := hid hcc
  clear c0 c1 hcc hfr
  go_region
  obtain ⟨W4, hW4⟩ : ∃ W4, W4 = (W3.setCell ⟨w2.heap.size, n, none⟩ (.int .u8 (bits .xor .u8 (bt (frWrap p) n) (b.toNat : Int)))).drew := ⟨_, rfl⟩
  obtain ⟨l, hl⟩ : ∃ l, l = (frWrap p).set n (bat (frWrap p) n ^^^ b) := ⟨_, rfl⟩
  have hll : l.length = (frWrap p).length := by rw [hl]; simp
  have hB4 : Below w2.heap.size w2 W4 := by rw [hW4]; exact (hb3.setCell (p := ⟨w2.heap.size, n, none⟩) (Nat.le_refl _) _).drew
  have hc4 : ∀ j, j < l.length → W4.cell? ⟨w2.heap.size, 0 + j, none⟩ = some (.int .u8 (bt l j)) := by
    intro j hj
    rw [hW4, Nat.zero_add, World.cell?_drew]
    rw [hll] at hj
    by_cases e : j = n
    · subst e
      rw [World.cell?_setCell_same _ _ _ dn, hl]
      have := u8_xor (bt (frWrap p) j) b.toNat (bt_nn _ _) (bt_lt _ _) (by omega) (by have := b.toNat_lt; omega)
      rw [this]
      unfold bt bat
      rw [List.getD_eq_getElem?_getD, List.getD_eq_getElem?_getD, List.getElem?_set_self hj]
      simp
    · rw [World.cell?_setCell_other _ _ _ _ (by intro h; injection h with _ h; omega), HC.out j hj, hl]
      unfold bt
      rw [List.getD_eq_getElem?_getD, List.getD_eq_getElem?_getD, List.getElem?_set_ne (by omega)]
  have hsc : frScan (l ++ q) = ([], 0) := by
    refine scan_none ?_
    rw [hl]
    have hn' : n < (frWrap p).length := by rw [HW.out]; omega
    refine next_turned p q (by omega) n hn' _ ?_
    intro h
    apply hb
    have e : bat (frWrap p) n = (frWrap p)[n] := by unfold bat; rw [List.getD_eq_getElem?_getD, List.getElem?_eq_getElem hn']; rfl
    rw [e] at h
    have : (frWrap p)[n] ^^^ ((frWrap p)[n] ^^^ b) = (frWrap p)[n] ^^^ (frWrap p)[n] := by rw [h]
    rwa [← UInt8.xor_assoc, UInt8.xor_self, UInt8.zero_xor] at this
  have HL := hid hll
  have HS := hid hsc
  have hql : (l ++ q).length ≤ 1000000000 := by simp; have := HW.out; omega
  have HQ := hid hql
  have hll2 : l.length ≤ 3012 := by have := HW.out; omega
  rw [← hW4]
  have E1 : Hid (l.length = 12 + p.length) := hid (by rw [hll]; exact HW.out)
  clear hll hsc hql hl hW4 dn fn d0 d1 hB3
  go_wp2_with ((refine wpList_tostr 34 9 5 (.tmp 55) ?g1 ?g2 Try.underlying34 Try.underlying9 Try.underlying5 l w2.heap.size 0 c ?g3 hc4 ?_; (case g1 => rfl); (case g2 => rfl); (case g3 => rw [E1.out]; rfl)))
  with_reducible refine (scan_any _ _ HQ.out).mono ?_
  rintro e w5 ⟨⟨v, rfl, ho⟩, hb5⟩
  rw [HS.out] at ho ⊢
  obtain ⟨A, c5, rfl, _, _⟩ := Rd.own ho
  clear ho
  go_wp2_with fail
  go_ret
  exact ⟨rfl, below_tr (below_tr ((below_rf w).alloc (Nat.le_refl _) _) (below_tr hB2 hB4)) hb5⟩
set_option maxHeartbeats 1600000 in
theorem FrameTurned_all (p q : List UInt8) (i b : Int) (w : World) (hp : p.length ≤ 140737488351232) (hq : q.length ≤ 140737488351232) (hi0 : -9223372036854775808 ≤ i) (hi1 : i ≤ 9223372036854775807) (hb0 : 0 ≤ b) (hb1 : b ≤ 255) :
    Calls Try.prog 6 #[.string (Str p), .agg #[.int .i64 i, .int .u8 b], .string (Str q)] w fun e w' => e = .returned (.bool true) ∧ Below w.heap.size w w' := by
  have hB0 := (below_rf w).alloc (Nat.le_refl _) (.cells #[.int .i64 i, .int .u8 b] 33)
  by_cases h5 : 3000 < p.length
  · obtain ⟨t1, t2⟩ := tests _ _ h5
    clear hi0 hi1
    go_enter Try.func6, Try.ntmps6
    go_wp2_with (go_at_call 8; refine (awake_any _).mono ?_; rintro e w1 ⟨rfl, hb1⟩)
    go_ret
    exact ⟨rfl, below_tr hB0 hb1⟩
  obtain ⟨t1, t2⟩ := testsN _ _ h5
  by_cases h6 : 3000 < q.length
  · obtain ⟨t3, t4⟩ := tests _ _ h6
    clear hi0 hi1
    go_enter Try.func6, Try.ntmps6
    go_wp2_with (go_at_call 8; refine (awake_any _).mono ?_; rintro e w1 ⟨rfl, hb1⟩)
    go_ret
    exact ⟨rfl, below_tr hB0 hb1⟩
  obtain ⟨t3, t4⟩ := testsN _ _ h6
  by_cases hin : 0 ≤ i ∧ i < 12 + p.length ∧ b ≠ 0
  · obtain ⟨n, rfl⟩ := Int.eq_ofNat_of_zero_le hin.1
    have hbe : (((u8 b).toNat : Nat) : Int) = b := by rw [u8_toNat b hb0]; omega
    rw [← hbe]
    refine FrameTurned_any p q 0 (u8 b) w (by omega) (by omega) ?_ n (by rw [wrap_len]; omega)
    intro h
    rw [h] at hbe
    exact hin.2.2 hbe.symm
  · have hwl := wrap_len p
    have HW := hid hwl
    clear hwl
    have fin : ∀ (h1 : decide (i < 0) = true ∨ (decide (i < 0) = false ∧ decide (12 + (p.length : Int) ≤ i) = true) ∨ (decide (i < 0) = false ∧ decide (12 + (p.length : Int) ≤ i) = false ∧ (b == 0) = true)),
      Calls Try.prog 6 #[.string (Str p), .agg #[.int .i64 i, .int .u8 b], .string (Str q)] w fun e w' => e = .returned (.bool true) ∧ Below w.heap.size w w' := by
      intro h1
      clear hin hi0 hi1 hb0 hb1
      rcases h1 with h1 | ⟨h1, h2⟩ | ⟨h1, h2, h3⟩
      all_goals
        go_enter Try.func6, Try.ntmps6
        go_wp2_with fail
        refine (awake_any _).mono ?_; rintro e w1 ⟨rfl, hb1⟩
        go_wp2_with fail
        refine (wrap_any _ _ (by omega)).mono ?_; rintro e w2 ⟨rfl, hb2⟩
        have hB2 := below_tr hb1 hb2
        have c0 : w2.cell? ⟨w.heap.size, 0, none⟩ = some (.int .i64 i) := by rw [hB2.cell (p := ⟨w.heap.size, 0, none⟩) (by simp), World.cell?_alloc_at _ _ _ _ rfl]; rfl
        have c1 : w2.cell? ⟨w.heap.size, 1, none⟩ = some (.int .u8 b) := by rw [hB2.cell (p := ⟨w.heap.size, 1, none⟩) (by simp), World.cell?_alloc_at _ _ _ _ rfl]; rfl
        go_wp2_with fail
        go_ret
        exact ⟨rfl, below_tr (below_tr hB0 hb1) hb2⟩
    refine fin ?_
    by_cases ha : i < 0
    · exact .inl (decide_eq_true ha)
    · by_cases hc : 12 + (p.length : Int) ≤ i
      · exact .inr (.inl ⟨decide_eq_false ha, decide_eq_true hc⟩)
      · refine .inr (.inr ⟨decide_eq_false ha, decide_eq_false hc, beq_iff_eq.2 ?_⟩)
        omega
end Go.Proofs.Ytffgkiccobhbjaa.W05
