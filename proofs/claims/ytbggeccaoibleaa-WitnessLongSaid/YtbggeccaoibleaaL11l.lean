/- The law of bytes that are too long, walked. -/
import Derived.Test.YtbggeccaoibleaaL11
import Derived.Laws.MakeOwn
import Derived.Laws.OwnMore
set_option linter.unusedVariables false
set_option linter.unusedSimpArgs false
namespace Go.Proofs.Ytbggeccaoibleaa.W11
open Go Go.RowKit Go.Proofs.Ytbggeccaoibleaa.Lib Go.Proofs.Ytbggeccaoibleaa.Sha Go.Proofs.Ytbggeccaoibleaa.T07 Go.Proofs.Ytbggeccaoibleaa.T08 Go.Proofs.Ytbggeccaoibleaa.QTail Go.Proofs.Ytbggeccaoibleaa.Itms Go.Proofs.Ytbggeccaoibleaa.WSeq Go.Proofs.Ytbggeccaoibleaa.Ord Go.Proofs.Ytbggeccaoibleaa.Tree Go.Proofs.Ytbggeccaoibleaa.W08 Go.Proofs.Ytbggeccaoibleaa.Wit Go.Proofs.Ytbggeccaoibleaa.W01 Go.Proofs.Ytbggeccaoibleaa.Bld Go.Proofs.Ytbggeccaoibleaa.Mp Go.Proofs.Ytbggeccaoibleaa.Inj
open Go.Proofs.Ytbggeccaoibleaa.Run hiding round_any yield_any
attribute [local go_sem] Str_size Str_toList Str_extract Str_get bt_nn bt_lt
/-- how many bytes it makes -/
@[irreducible] def LN : Nat := 1048577
theorem LN_def : LN = 1048577 := by unfold LN; rfl
@[irreducible] def zerL : List UInt8 := List.replicate LN 0
theorem zerL_len : zerL.length = LN := by unfold zerL; rw [List.length_replicate]
theorem makeLong (W : World) : (Instr.makeSlice 48 (.int .i64 1048577) (.int .i64 1048577)).run Try.prog W = .ok (.slice (some ⟨W.heap.size, 0, none⟩) LN LN) (W.alloc (.cells (byts zerL).toArray 5)) := by
  obtain ⟨i, hi, hz, hs, hb⟩ := info8
  have h := run_make (P := Try.prog) W 48 5 i (.int .u8 0) Try.underlying48 hi hz .i64 .i64 1048577 1048577 (by omega) (by omega) (by rw [hb]; omega) (by omega)
  have e : madeCells (Value.int .u8 0).cells ((1048577 : Int).toNat * i.size) = (byts zerL).toArray := by
    rw [hs, Nat.mul_one]
    apply Array.toList_inj.1
    have := toList_madeCells_one (Value.int .u8 0) (1048577 : Int).toNat
    rw [show (Value.int IntKind.u8 0).cells = #[Value.int .u8 0] from rfl, this]
    unfold zerL byts
    rw [List.map_replicate, LN_def]
    rfl
  rw [e, show (1048577 : Int).toNat = LN by rw [LN_def]; rfl] at h
  exact h
attribute [local go_sem] makeLong
theorem byts_set (l : List UInt8) (k : Nat) (n : Int) (h0 : 0 ≤ n) (h1 : n < 256) : (byts l).toArray.setIfInBounds k (.int .u8 n) = (byts (l.set k (u8 n))).toArray := by
  apply Array.toList_inj.1
  simp only [byts, Array.toList_setIfInBounds, List.map_set]
  rw [u8_toNat n h0, show n % 256 = n by omega]
set_option maxRecDepth 100000 in
set_option maxHeartbeats 1600000 in
theorem long_any (s key : List UInt8) (hs : s.length ≤ 140737488351232) (w : World) :
    Calls Try.prog 6 #[.string (Str s), .string (Str key)] w fun e w' => e = .returned (.bool true) ∧ Below w.heap.size w w' := by
  go_enter Try.func6, Try.ntmps6
  go_wp2_with fail
  refine (awake11_any w).mono ?_; rintro e w1 ⟨rfl, hb1⟩
  by_cases h1 : 100 < s.length
  · have g1 : decide ((100 : Int) < (s.length : Int)) = true := decide_eq_true (by omega)
    have g2 : decide (100 < s.length) = true := decide_eq_true h1
    clear h1
    go_wp2
    go_ret
    exact ⟨rfl, hb1⟩
  · have g1 : decide ((100 : Int) < (s.length : Int)) = false := decide_eq_false (by omega)
    have g2 : decide (100 < s.length) = false := decide_eq_false h1
    by_cases h0 : s.length = 0
    · have g3 : ((s.length : Int) == 0) = true := beq_iff_eq.2 (by omega)
      have H0 := hid h0
      clear h0 h1
      go_wp2
      go_ret
      exact ⟨rfl, hb1⟩
    · have g3 : ((s.length : Int) == 0) = false := beq_eq_false_iff_ne.2 (by omega)
      obtain ⟨w2, hw2⟩ : ∃ w2, w2 = w1.alloc (Obj.cells (byts zerL).toArray 5) := ⟨_, rfl⟩
      have hal : Below w1.heap.size w1 w2 := by rw [hw2]; exact below_al (below_rf w1) _
      have hblk : w2.heap[w1.heap.size]? = some (Obj.cells (byts zerL).toArray 5 (0, 0)) := by rw [hw2]; exact heap_new _ _
      have HBLK := hid hblk
      have HAL := hid hal
      have HB1 := hid hb1
      have hln : 0 < LN := by rw [LN_def]; omega
      clear hs hb1 hblk hal
      go_wp2
      rw [← hw2]
      clear hw2
      go_loopw [23] (fun i wr => ∃ (k : Nat) (l : List UInt8), k ≤ LN ∧ i = .int .i64 (k : Int) ∧ l.length = LN ∧ Hid (wr.heap[w1.heap.size]? = some (Obj.cells (byts l).toArray 5 (0, 0))) ∧ Hid (Mv (fun j => j = w1.heap.size) w2 wr)) (fun i _ => LN - (intOf i).toNat)
      case atStart => exact ⟨0, zerL, Nat.zero_le _, rfl, zerL_len, HBLK, hid (Mv.refl _ _)⟩
      case round =>
        obtain ⟨k, l, hk, rfl, hll, HL, HM⟩ := hrel
        have hln2 : LN ≤ 1048577 := by rw [LN_def]; omega
        by_cases hlt : k < LN
        · have hmod : ((k : Int)).tmod (s.length : Int) = ((k % s.length : Nat) : Int) := by rw [Int.ofNat_tmod]
          obtain ⟨j, hj⟩ : ∃ j, j = k % s.length := ⟨_, rfl⟩
          have hjl : j < s.length := by rw [hj]; exact Nat.mod_lt _ (by omega)
          rw [← hj] at hmod
          have hmod2 : (k : Int) % (s.length : Int) = (j : Int) := by rw [hj]; omega
          have hlk : k < l.length := by omega
          have f0 : wr.frozen? ⟨w1.heap.size, k, none⟩ = false := Go.Lib.frozen_of_heap HL.out k
          have c0 : wr.cell? ⟨w1.heap.size, k, none⟩ = some (.int .u8 (bt l k)) := by
            rw [Go.Lib.cell_of_heap HL.out]
            simp [byts, bt, List.getElem?_eq_getElem hlk, List.getD_eq_getElem?_getD]
          have HLL := hid hll
          have HJ := hid hj
          clear hll hj
          go_wp2
          go_roundw
          case rel =>
            refine ⟨k + 1, l.set k (u8 (bt s j)), by omega, by go_num, by rw [List.length_set]; exact HLL.out, hid ?_, hid (HM.out.trans (Mv.setCell (O := fun j => j = w1.heap.size) wr ⟨w1.heap.size, k, none⟩ _ rfl) (fun _ h => h) (fun _ _ h => h))⟩
            have h1 := heap_setCell_same wr w1.heap.size k _ _ (.int .u8 (bt s j)) HL.out
            rw [byts_set l k _ (bt_nn s j) (bt_lt s j)] at h1
            exact h1
          case measure => simp [intOf]; omega
        · obtain rfl : k = LN := by omega
          obtain ⟨rt, hrt⟩ : ∃ rt, rt = sha s := ⟨_, rfl⟩
          have hrl : rt.length ≤ 1000000000 := by rw [hrt, sha_len]; omega
          have hpr : ∀ W, Below wr.heap.size wr W → Calls Try.prog 25 #[.string (Str s)] W fun e w' => e = .returned (.string (Str rt)) ∧ Below wr.heap.size wr w' := fun W hW => by
            rw [hrt]
            exact (print_ref_any s W (by omega)).mono fun e w' h => ⟨h.1, hW.trans (h.2.mono hW.size)⟩
          have hvn : verifyS rt key l = none := by unfold verifyS toldS; rw [if_pos (by rw [hll, LN_def]; omega)]
          have hve : ∀ W, Below wr.heap.size wr W → Calls Try.prog 26 #[.string (Str rt), .string (Str key), .string (Str l)] W fun e w' => e = .returned (.tuple #[.string ⟨#[]⟩, .bool false, .bool false]) ∧ Below wr.heap.size wr w' := fun W hW => by
            refine (verify_any rt key l hrl W).mono fun e w' h => ⟨?_, hW.trans (h.2.mono hW.size)⟩
            have h1 := h.1
            rw [hvn] at h1
            rw [← Str_nil]; exact h1
          have hcv : ∀ W, Below wr.heap.size wr W → (convert 48 9 (.slice (some ⟨w1.heap.size, 0, none⟩) LN LN)).run Try.prog W = .ok (.string (Str l)) W := fun W hW => by
            have hb := (hW.block w1.heap.size (Array.getElem?_eq_some_iff.1 HL.out).1).trans HL.out
            have h := conv_bytes (P := Try.prog) W 48 5 9 Try.underlying48 Try.underlying5 Try.underlying9 w1.heap.size 0 LN LN (l.map fun x => (x.toNat : Int)) (by simp [hll]) (fun i hi => by
              have hlt : i < l.length := by omega
              rw [Go.Lib.cell_of_heap hb]
              simp [byts, List.getElem?_eq_getElem hlt])
            rw [List.map_map, show (u8 ∘ fun x : UInt8 => (x.toNat : Int)) = id from funext u8_of, List.map_id] at h
            exact h
          have HF := hid ((HB1.out.trans ((HAL.out.trans ((HM.out.below (n := w1.heap.size) HAL.out.size (fun k hk e => by omega)))).mono HB1.out.size)))
          clear hrt hll hrl hvn
          go_wp2
          refine wp_region_mild wr.heap.size (by kernel_rfl) (by kernel_rfl) ?_
          repeat (
            refine wpQuiet_step (fun K hK => ?_)
            first
              | (refine mild_skip (by rfl) (hK _ ?_)
                 clear hK K)
              | (refine mild_read (by rfl) ?_
                 apply Exists.intro
                 refine ⟨fun W hW => ?_, hK _ ?_⟩
                 (go_simp; first | rfl | (rw [if_neg (by omega)]) | (rw [if_pos (by omega)]))
                 clear hK K)
              | (refine mild_call (by rfl) ?_
                 apply Exists.intro
                 apply Exists.intro
                 refine ⟨fun W hW => ?_, ?_⟩
                 (go_simp; exact ⟨rfl, rfl⟩)
                 apply Exists.intro
                 refine ⟨fun W hW => ?_, hK _ ?_⟩
                 (first | with_reducible exact (hpr W hW) | with_reducible exact (hve W hW))
                 clear hK K)
            go_simp)
          refine wpQuiet_nil ?_
          intro W hW
          have HW := hid hW
          clear hpr hve hcv hW
          go_wp2
          go_ret
          exact ⟨rfl, HF.out.trans (HW.out.mono (by have := HF.out.size; omega))⟩
end Go.Proofs.Ytbggeccaoibleaa.W11
