/- The walks of layer 5: what each function of frames answers. -/
import Derived.Test.YtffgkiccobhbjaaProg
import Derived.Test.YtffgkiccobhbjaaFr
import Derived.Outline
set_option linter.unusedVariables false
set_option linter.unusedSimpArgs false
namespace Go.Proofs.Ytffgkiccobhbjaa.W05
open Go.RowKit Go.Proofs.Ytffgkiccobhbjaa.Lib Go.Proofs.Ytffgkiccobhbjaa.Crc Go.Proofs.Ytffgkiccobhbjaa.Fr
attribute [local go_sem] Str_mk Str_size Str_toList Str_extract Str_append Str_get bt_nn bt_lt V_nn V_lt bx ba bshr4 bx_bt ba15 ba15_lt bmax ofNat_V bmod nib_walk
set_option maxHeartbeats 800000 in
theorem check_any (s : List UInt8) (w : World) (hs : s.length ≤ 1000000000) :
    Calls Try.prog 19 #[.string (Str s)] w fun e w' => e = .returned (.int .u32 (V (crc s))) ∧ Below w.heap.size w w' := by
  go_enter Try.func19, Try.ntmps19
  go_wp2
  go_loopw [8] (fun i wr => ∃ k : Nat, k ≤ 16 ∧ i = .int .i64 k ∧ (∀ j, j < 16 → wr.cell? ⟨w.heap.size, j, none⟩ = some (.int .u32 (if j < k then V (csteps 4 (BitVec.ofNat 32 j)) else 0))) ∧ (∀ j, wr.frozen? ⟨w.heap.size, j, none⟩ = false) ∧ Below w.heap.size w wr) (fun i _ => 16 - (intOf i).toNat)
  case atStart =>
    refine ⟨0, by omega, rfl, fun j hj => ?_, fun j => World.frozen?_alloc_at _ _ _ _ rfl, (Below.refl _ _).alloc (Nat.le_refl _) _⟩
    rw [World.cell?_alloc_at _ _ _ _ rfl, if_neg (by omega)]
    simp only [List.getElem?_toArray]
    rcases j with _ | _ | _ | _ | _ | _ | _ | _ | _ | _ | _ | _ | _ | _ | _ | _ | j <;> first | rfl | omega
  case round =>
    obtain ⟨k, hk, rfl, hf, hfr, hB⟩ := hrel
    by_cases hlt : k < 16
    · have hkv : (k : Int) = V (BitVec.ofNat 32 k) := V_of k (by omega)
      have HK := hid hkv
      clear hkv
      go_wp2
      go_loopw [5, 13] (fun x i wr' => ∃ (j : Nat), j ≤ 4 ∧ i = .int .i64 j ∧ x = .int .u32 (V (csteps j (BitVec.ofNat 32 k))) ∧ wr' = wr) (fun _ i _ => 4 - (intOf i).toNat)
      case atStart => exact ⟨0, by omega, rfl, by rw [HK.out]; rfl, rfl⟩
      case round =>
        obtain ⟨j, hj, rfl, rfl, rfl⟩ := hrel
        by_cases hjt : j < 4
        · go_wp2
          go_roundw
          case rel => exact ⟨j + 1, by omega, by go_num, by rw [csteps_succ], trivial⟩
          case measure => simp [intOf]; omega
        · obtain rfl : j = 4 := by omega
          go_wp2
          go_roundw
          case rel =>
            refine ⟨k + 1, by omega, by go_num, fun j hj => ?_, fun j => by simp [hfr], hB.setCell (by simp) _⟩
            by_cases e : j = k
            · subst e
              rw [World.cell?_setCell_same _ _ _ (hf j hj), if_pos (by omega)]
            · rw [World.cell?_setCell_other _ _ _ _ (by intro h; injection h with _ h; omega), hf j hj]
              by_cases h2 : j < k
              · rw [if_pos h2, if_pos (by omega)]
              · rw [if_neg h2, if_neg (by omega)]
          case measure => simp [intOf]; omega
    · have hf' : ∀ j, j < 16 → wr.cell? ⟨w.heap.size, j, none⟩ = some (.int .u32 (V (csteps 4 (BitVec.ofNat 32 j)))) := fun j hj => by rw [hf j hj, if_pos (by omega)]
      clear hf
      go_wp2
      go_loopw [6, 29] (fun x i wr' => ∃ (j : Nat) (v : BitVec 32), j ≤ s.length ∧ i = .int .i64 j ∧ x = .int .u32 (V v) ∧ Hid (v = (s.take j).foldl cbyte 0xFFFFFFFF#32) ∧ wr' = wr) (fun _ i _ => s.length - (intOf i).toNat)
      case atStart => exact ⟨0, _, by omega, rfl, by rw [V_def]; rfl, rfl, rfl⟩
      case round =>
        obtain ⟨j, v, hj, rfl, rfl, hv, rfl⟩ := hrel
        by_cases hjt : j < s.length
        · go_wp2
          go_roundw
          case rel => exact ⟨j + 1, _, by omega, by go_num, rfl, by rw [cbyte_walk, hv.out]; exact (fold_take cbyte _ _ _ hjt).symm, trivial⟩
          case measure => simp [intOf]; omega
        · obtain rfl : j = s.length := by omega
          go_wp2
          go_ret
          exact ⟨by rw [hv.out, List.take_of_length_le (by simp)]; rfl, hB⟩

attribute [local go_sem] V_two V_half bx_poly bx_ones bmod
set_option maxHeartbeats 800000 in
theorem rcheck_any (s : List UInt8) (w : World) (hs : s.length ≤ 1000000000) :
    Calls Try.prog 16 #[.string (Str s)] w fun e w' => e = .returned (.int .u32 (V (crc s))) ∧ w = w' := by
  go_enter Try.func16, Try.ntmps16
  go_wp2
  go_loop [3, 4] (fun x i => ∃ (j : Nat) (v : BitVec 32), j ≤ s.length ∧ i = .int .i64 j ∧ x = .int .u32 (V v) ∧ Hid (v = (s.take j).foldl cbyte 0xFFFFFFFF#32)) (fun _ i => s.length - (intOf i).toNat)
  case atStart => exact ⟨0, _, by omega, rfl, by rw [V_def]; rfl, rfl⟩
  case round =>
    obtain ⟨j, v, hj, rfl, rfl, hv⟩ := hrel
    by_cases hjt : j < s.length
    · go_wp2
      go_loop [3, 5] (fun x i => ∃ (m : Nat) (v' : BitVec 32), m ≤ 8 ∧ i = .int .i64 m ∧ x = .int .u32 (V v') ∧ Hid (v' = csteps m (v ^^^ byte32 (bat s j)))) (fun _ i => 8 - (intOf i).toNat)
      case atStart => exact ⟨0, _, by omega, rfl, rfl, rfl⟩
      case round =>
        obtain ⟨m, v', hm, rfl, rfl, hv'⟩ := hrel
        by_cases hmt : m < 8
        · cases hb : bit0 v'
          all_goals
            have hst : cstep v' = _ := cstep_bit v'
            rw [hb] at hst
            simp only [Bool.false_eq_true, if_false, if_true] at hst
            have HST := hid hst
            clear hst
            go_wp2
            go_round
            case rel => exact ⟨m + 1, _, by omega, by go_num, by first | rfl | rw [bmod], by rw [csteps_succ, ← hv'.out, HST.out]; exact rfl⟩
            case measure => simp [intOf]; omega
        · obtain rfl : m = 8 := by omega
          go_wp2
          go_round
          case rel => exact ⟨j + 1, _, by omega, by go_num, rfl, by rw [hv'.out, hv.out]; exact (fold_take cbyte _ _ _ hjt).symm⟩
          case measure => simp [intOf]; omega
    · obtain rfl : j = s.length := by omega
      go_wp2
      go_ret
      exact ⟨by rw [hv.out, List.take_of_length_le (by simp)]; rfl, rfl⟩

theorem four_eq (n : Int) (h0 : 0 ≤ n) : Str [u8 (n / 16777216), u8 (n / 65536 % 256), u8 (n / 256 % 256), u8 (n % 256)] = Str (frFour n) := by
  unfold frFour
  rw [u8_mod _ h0, u8_mod _ (Int.ediv_nonneg h0 (by decide)), u8_mod _ (Int.ediv_nonneg h0 (by decide))]
set_option maxHeartbeats 800000 in
theorem four_any (n : Int) (w : World) (h0 : 0 ≤ n) (h1 : n < 4294967296) :
    Calls Try.prog 18 #[.int .u32 n] w fun e w' => e = .returned (.string (Str (frFour n))) ∧ Below w.heap.size w w' := by
  have hcv := fun w a b c d => conv4 (P := Try.prog) w 34 5 9 5 Try.underlying34 Try.underlying5 Try.underlying9 a b c d 4
  go_enter Try.func18, Try.ntmps18
  go_wp2
  go_ret
  exact ⟨congrArg (fun x => Ending.returned (.string x)) (four_eq n h0), (Below.refl _ _).alloc (Nat.le_refl _) _⟩
set_option maxHeartbeats 800000 in
theorem rfour_any (n : Int) (w : World) (h0 : 0 ≤ n) (h1 : n < 4294967296) :
    Calls Try.prog 15 #[.int .u32 n] w fun e w' => e = .returned (.string (Str (frFour n))) ∧ Below w.heap.size w w' := by
  have hcv := fun w a b c d => conv4 (P := Try.prog) w 34 5 9 5 Try.underlying34 Try.underlying5 Try.underlying9 a b c d 4
  go_enter Try.func15, Try.ntmps15
  go_wp2
  go_ret
  exact ⟨congrArg (fun x => Ending.returned (.string x)) (four_eq n h0), (Below.refl _ _).alloc (Nat.le_refl _) _⟩
end Go.Proofs.Ytffgkiccobhbjaa.W05
