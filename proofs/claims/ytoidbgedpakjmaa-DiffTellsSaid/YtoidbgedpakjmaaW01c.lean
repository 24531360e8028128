/- The walks of layer 1: the fingerprint. -/
import Derived.Test.YtoidbgedpakjmaaW01
import Derived.Test.YtoidbgedpakjmaaShelf
set_option linter.unusedVariables false
set_option linter.unusedSimpArgs false
namespace Go.Proofs.Ytoidbgedpakjmaa.W01
open Go.RowKit Go.Proofs.Ytoidbgedpakjmaa.Lib Go.Proofs.Ytoidbgedpakjmaa.Sha
theorem Str_lit_l (a b : List UInt8) : ByteArray.mk a.toArray ++ Str b = Str (a ++ b) := by rw [Str_mk, Str_append]
theorem Str_lit_r (a b : List UInt8) : Str a ++ ByteArray.mk b.toArray = Str (a ++ b) := by rw [Str_mk, Str_append]
attribute [local go_sem] Str_lit_l Str_lit_r Str_size Str_toList Str_extract Str_append Str_get bt_nn bt_lt V_nn V_lt List.length_append take_rest
theorem nth_part (s : St) (k : Nat) (h : k < 8) (w : World) : (part 101 #[Value.int .u32 (V s.a), .int .u32 (V s.b), .int .u32 (V s.c), .int .u32 (V s.d), .int .u32 (V s.e), .int .u32 (V s.f), .int .u32 (V s.g), .int .u32 (V s.h)] k).run Try.prog w = .ok (.int .u32 (V (nth s k))) w := by
  rcases k with _ | _ | _ | _ | _ | _ | _ | _ | k
  all_goals first | (exfalso; omega) | kernel_rfl
theorem nth_at (s : St) (k : Nat) (h : k < 8) (w : World) : (Instr.index 103 (.agg #[Value.int .u32 (V s.a), .int .u32 (V s.b), .int .u32 (V s.c), .int .u32 (V s.d), .int .u32 (V s.e), .int .u32 (V s.f), .int .u32 (V s.g), .int .u32 (V s.h)]) (.int .i64 (k : Int))).run Try.prog w = .ok (.int .u32 (V (nth s k))) w :=
  run_index_arr w _ 101 8 _ .i64 k Try.underlying103 h _ (nth_part s k h) (fun w => by kernel_rfl)
theorem st_take (s : St) (k : Nat) (h : k < 8) : (stBytes s).take (4 * (k + 1)) = (stBytes s).take (4 * k) ++ w32b (nth s k) := by
  rcases k with _ | _ | _ | _ | _ | _ | _ | _ | k
  all_goals first | (exfalso; omega) | rfl
theorem sha_end (s l : List UInt8) (hl : l.length ≤ s.length) (h64 : l.length < 64) (hm : (s.length - l.length) % 64 = 0) (hd : s.drop (s.length - l.length) = l) :
    stBytes (shaFold (shaFold st0 (s.take (s.length - l.length))) (padTail l s.length)) = sha s := by
  have e : s.length / 64 * 64 = s.length - l.length := by omega
  have e2 : shaFold st0 s = shaFold st0 (s.take (s.length - l.length)) := by
    conv => lhs; rw [← List.take_append_drop (s.length - l.length) s]
    rw [shaFold_app _ _ _ (by simp; omega), hd, shaFold_short _ l h64]
  rw [sha, shaRest, e, hd, e2]
theorem byts_w32 (x : W32) : byts (w32b x) = [.int .u8 (V x / 16777216 % 256), .int .u8 (V x / 65536 % 256), .int .u8 (V x / 256 % 256), .int .u8 (V x % 256)] := by
  have h := V_nn x
  simp only [byts, w32b, List.map_cons, List.map_nil]
  rw [u8_toNat _ (by omega), u8_toNat _ (by omega), u8_toNat _ (by omega), u8_toNat _ (by omega)]
theorem alloc_old (w : World) (o : Obj) {r : Nat} (h : r < w.heap.size) : (w.alloc o).heap[r]? = w.heap[r]? := by
  show (w.heap.push o)[r]? = _
  rw [Array.getElem?_push_lt h, Array.getElem?_eq_getElem h]
theorem repeat_zero (n : Nat) : Go.Lib.repeatL [0] n = List.replicate n (0 : UInt8) := by
  induction n with
  | zero => rfl
  | succ n ih => rw [Go.Lib.repeatL, ih]; rfl
theorem ti_bytes : TI Try.prog 92 5 1 1 := TI.of Try.underlying92 (by kernel_rfl) (by decide) (by decide)
theorem st0_cells : stCells st0 = #[Value.int IntKind.u32 1779033703, Value.int IntKind.u32 3144134277, Value.int IntKind.u32 1013904242, Value.int IntKind.u32 2773480762, Value.int IntKind.u32 1359893119, Value.int IntKind.u32 2600822924, Value.int IntKind.u32 528734635, Value.int IntKind.u32 1541459225] := by
  unfold stCells st0; simp only [V_def]; rfl
set_option maxHeartbeats 3200000 in
set_option maxRecDepth 100000 in
theorem print_any (s : List UInt8) (w : World) (hs : s.length ≤ 140737488351232) :
    Calls Try.prog 22 #[.string (Str s)] w fun e w' => e = .returned (.string (Str (sha s))) ∧ Below w.heap.size w w' := by
  go_enter Try.func22, Try.ntmps22
  go_wp2
  go_loopw [0] (fun x wr => ∃ l : List UInt8, x = .string (Str l) ∧ l.length ≤ s.length ∧ wr.heap[w.heap.size]? = some (.cells (stCells (shaFold st0 (s.take (s.length - l.length)))) 103 (0, 0)) ∧ s.drop (s.length - l.length) = l ∧ (s.length - l.length) % 64 = 0 ∧ Below w.heap.size w wr) (fun x _ => slen x)
  case atStart => exact ⟨s, rfl, Nat.le_refl _, by rw [Nat.sub_self, List.take_zero, shaFold_short _ _ (by simp)]; exact (heap_alloc_new w _).trans (by rw [st0_cells]), by simp, by simp, (Below.refl _ _).alloc (Nat.le_refl _) _⟩
  case round =>
    obtain ⟨l, rfl, hl, hg, hd, hm, hB⟩ := hrel
    by_cases hlt : 64 ≤ l.length
    · have HG := hid hg
      have HD := hid hd
      clear hg hd
      go_wp2_with fail
      refine (block_any w.heap.size _ (l.take 64) _ (by simp; omega) HG.out).mono ?_
      rintro e w2 ⟨rfl, hg2, hb2⟩
      have HG2 := hid hg2
      clear hg2
      go_wp2
      go_roundw
      case rel =>
        have e1 : s.length - (l.drop 64).length = (s.length - l.length) + 64 := by simp; omega
        have e2 : s.take ((s.length - l.length) + 64) = s.take (s.length - l.length) ++ l.take 64 := by rw [List.take_add, HD.out]
        refine ⟨l.drop 64, rfl, by simp; omega, ?_, ?_, ?_, ?_⟩
        · rw [e1, e2, shaFold_snoc _ _ _ (by simp; omega) (by simp; omega)]; exact HG2.out
        · rw [e1, ← List.drop_drop, HD.out]
        · rw [e1]; omega
        · exact ⟨hb2.os.trans hB.os, hb2.tape.trans hB.tape, hb2.output.trans hB.output, Nat.le_trans hB.size hb2.size, fun k hk => (hb2.block k (Nat.lt_of_lt_of_le hk hB.size) (by omega)).trans (hB.block k hk)⟩
      case measure => rw [slen_str, slen_str]; simp; omega
    · have hrep : Calls Try.prog 41 #[.string ⟨#[0]⟩, .int .i64 ((119 - (l.length : Int)) % 64)] wr fun e w' => e = .returned (.string (Str (List.replicate ((119 - l.length) % 64) 0))) ∧ Below wr.heap.size wr w' := by
        have hn : (119 - (l.length : Int)) % 64 = (((119 - l.length) % 64 : Nat) : Int) := by omega
        rw [hn]
        refine (Try.strings_Repeat ⟨#[0]⟩ ((119 - l.length) % 64) wr (by omega) (by show 1 * _ ≤ _; omega)).mono ?_
        rintro e w' ⟨rfl, hb⟩
        refine ⟨?_, hb⟩
        rw [Str_def, repeat_zero]
      have HRP := hid hrep
      clear hrep
      go_wp2_with fail
      refine HRP.out.mono ?_
      rintro e w2 ⟨rfl, hb2⟩
      have hB2 := below_tr hB hb2
      have hg2 : w2.heap[w.heap.size]? = _ := (hb2.block _ (Array.getElem?_eq_some_iff.1 hg).1).trans hg
      have HG2 := hid hg2
      have HD := hid hd
      clear hg hg2 hd
      obtain ⟨pre, hpre⟩ : ∃ pre, pre = l ++ ([128] ++ List.replicate ((119 - l.length) % 64) (0 : UInt8)) := ⟨_, rfl⟩
      have hpl : pre.length ≤ 200 := by rw [hpre]; simp; omega
      have HP := hid hpre
      have hcv := fun w a => conv1 (P := Try.prog) w 92 5 9 5 Try.underlying92 Try.underlying5 Try.underlying9 a 1
      clear hpre
      go_wp2_with fail
      go_loopw [0, 5] (fun x i wr => ∃ m : Nat, m ≤ 8 ∧ i = .int .i64 (8 * (m : Int) - 8) ∧ x = .string (Str (pre ++ (be (8 * s.length) 8).take (8 - m))) ∧ wr.heap[w.heap.size]? = w2.heap[w.heap.size]? ∧ Below w.heap.size w wr) (fun _ i _ => (intOf i + 8).toNat)
      case atStart => exact ⟨8, by omega, rfl, by rw [HP.out]; simp, rfl, hB2⟩
      case round =>
        obtain ⟨m, hm8, rfl, rfl, hgg, hB3⟩ := hrel
        have HGG := hid hgg
        clear hgg
        rcases m with _ | j
        · have hpt : pre ++ (be (8 * s.length) 8).take (8 - 0) = padTail l s.length := by
            rw [HP.out, List.take_of_length_le (by rw [be_len]; omega)]; rfl
          rw [hpt]
          have hgw : wr.heap[w.heap.size]? = _ := HGG.out.trans HG2.out
          have hptl : (padTail l s.length).length % 64 = 0 := by unfold padTail; simp [be_len]; omega
          have hptl2 : (padTail l s.length).length ≤ 300 := by unfold padTail; simp [be_len]; omega
          obtain ⟨s1, hs1⟩ : ∃ s1, s1 = shaFold st0 (s.take (s.length - l.length)) := ⟨_, rfl⟩
          rw [← hs1] at hgw
          have HS1 := hid hs1
          obtain ⟨pt, hpt2⟩ : ∃ pt, pt = padTail l s.length := ⟨_, rfl⟩
          rw [← hpt2] at hptl hptl2 ⊢
          have HPT := hid hpt2
          clear hs1 hpt hpt2
          have e0 : 8 * ((0 : Nat) : Int) - 8 = -8 := rfl
          rw [e0]
          clear e0
          go_wp2
          go_loopw [0] (fun x W => ∃ (l2 : List UInt8) (s2 : St), x = .string (Str l2) ∧ l2.length % 64 = 0 ∧ l2.length ≤ 300 ∧ W.heap[w.heap.size]? = some (.cells (stCells s2) 103 (0, 0)) ∧ Hid (shaFold s2 l2 = shaFold s1 pt) ∧ Below w.heap.size w W) (fun x _ => slen x)
          case atStart => exact ⟨pt, s1, rfl, hptl, hptl2, hgw, rfl, hB3⟩
          case round =>
            clear hgw hptl hptl2 hB3
            obtain ⟨l2, s2, rfl, hl2, hl3, hg3, hf3, hB3⟩ := hrel
            have HG3 := hid hg3
            clear hg3
            by_cases hz : l2 = []
            · subst hz
              have hg4 := HG3.out
              obtain ⟨q0, q1, q2, q3, q4, q5, q6, q7⟩ := st_cells hg4
              go_wp2
              go_loopw [50, 6] (fun i v W => ∃ k : Nat, k ≤ 8 ∧ i = .int .i64 k ∧ W.ownsRow w.heap.size 5 1 v (4 * k) (byts ((stBytes s2).take (4 * k))) ∧ Below w.heap.size w W ∧ w.heap.size ≤ W.heap.size) (fun i _ _ => 8 - (intOf i).toNat)
              case atStart => exact ⟨0, by omega, rfl, own_nil _ _ _ _, hB3, hB3.size⟩
              case round =>
                clear q0 q1 q2 q3 q4 q5 q6 q7 hg4
                obtain ⟨k, hk8, rfl, hown, hB4, hsz⟩ := hrel
                by_cases hlt : k < 8
                · have hat := nth_at s2 k hlt
                  obtain ⟨x, hx⟩ : ∃ x, x = nth s2 k := ⟨_, rfl⟩
                  rw [← hx] at hat
                  have HX := hid hx
                  clear hx
                  go_wp2_with (at_builtin; go_loud (refine wpList_appN ti_bytes (.tmp 53) (.tmp 65) (by rfl) (by rfl) w.heap.size [.int .u8 (V x / 16777216 % 256), .int .u8 (V x / 65536 % 256), .int .u8 (V x / 256 % 256), .int .u8 (V x % 256)] 5 4 4 (by rfl) (by rfl) hown (by rfl) (by simp [Value.oneCell']) hB4 hsz (by omega) ?_; intro A' c' w5 ho5 hg5 hB5 hsz5))
                  go_wp2
                  go_roundw
                  case rel =>
                    refine ⟨k + 1, by omega, by go_num, ?_, hB5, hsz5⟩
                    rw [st_take s2 k hlt, ← HX.out, ← byts_app, byts_w32]
                    exact ho5
                  case measure => simp [intOf]; omega
                · obtain rfl : k = 8 := by omega
                  obtain ⟨A, c, rfl, hc, hrd, hA1, hA2⟩ := Rd.own' hown
                  rcases hrd with h0 | ⟨b, o, rfl, hcl⟩
                  · exact absurd (congrArg List.length h0) (by simp [byts, stBytes, w32b])
                  have hcl2 : ∀ j, j < (stBytes s2).length → wr.cell? ⟨b, o + j, none⟩ = some (.int .u8 (bt (stBytes s2) j)) := fun j hj => hcl j _ (by
                    rw [show (stBytes s2).take (4 * 8) = stBytes s2 from rfl]
                    simp [byts, bt, List.getElem?_eq_getElem hj, List.getD_eq_getElem?_getD])
                  clear hcl
                  go_wp2_with ((refine wpList_tostr 92 9 5 (.tmp 68) ?g1 ?g2 Try.underlying92 Try.underlying9 Try.underlying5 (stBytes s2) b o c ?g3 hcl2 ?_; (case g1 => rfl); (case g2 => rfl); (case g3 => rfl)))
                  go_wp2
                  go_ret
                  refine ⟨?_, hB4⟩
                  rw [← sha_end s l hl (by omega) hm HD.out, ← HPT.out, ← HS1.out, ← hf3.out, shaFold_short s2 [] (by simp)]
                  rfl
            · have hne : (l2 == []) = false := beq_eq_false_iff_ne.2 hz
              have h64 : 64 ≤ l2.length := by
                have : l2.length ≠ 0 := fun h => hz (List.eq_nil_of_length_eq_zero h)
                omega
              have HZ := hid hz
              clear hz
              go_wp2_with fail
              refine (block_any w.heap.size _ (l2.take 64) _ (by simp; omega) HG3.out).mono ?_
              rintro e w4 ⟨rfl, hg4, hb4⟩
              have HG4 := hid hg4
              clear hg4
              go_wp2
              go_roundw
              case rel =>
                refine ⟨l2.drop 64, _, rfl, by simp; omega, by simp; omega, HG4.out, ?_, ?_⟩
                · show _ = _
                  rw [← shaFold_next _ _ h64]; exact hf3.out
                · exact ⟨hb4.os.trans hB3.os, hb4.tape.trans hB3.tape, hb4.output.trans hB3.output, Nat.le_trans hB3.size hb4.size, fun k hk => (hb4.block k (Nat.lt_of_lt_of_le hk hB3.size) (by omega)).trans (hB3.block k hk)⟩
              case measure => rw [slen_str, slen_str]; simp; omega
        · have e1 : 8 * ((j + 1 : Nat) : Int) - 8 = ((8 * j : Nat) : Int) := by omega
          rw [e1]
          have e2 : min (8 * j) 64 = 8 * j := by omega
          clear e1
          have hbl : (List.take (8 - (j + 1)) (be (8 * s.length) 8)).length ≤ 8 := by simp; omega
          go_wp2
          go_roundw
          case rel =>
            have hgl : w.heap.size < wr.heap.size := by have := HGG.out.trans HG2.out; exact (Array.getElem?_eq_some_iff.1 this).1
            refine ⟨j, by omega, rfl, ?_, (alloc_old wr _ hgl).trans HGG.out, below_al hB3 _⟩
            have e4 : ((s.length : Int) * 8 / 2 ^ (8 * j)) = (((8 * s.length / 2 ^ (8 * j) : Nat)) : Int) := by
              rw [Int.natCast_ediv, Int.natCast_mul, Int.natCast_pow, Int.mul_comm]; rfl
            rw [e4, be_succ (8 * s.length) j (by omega), u8_mod _ (Int.natCast_nonneg _)]
          case measure => simp only [intOf]; omega
end Go.Proofs.Ytoidbgedpakjmaa.W01
