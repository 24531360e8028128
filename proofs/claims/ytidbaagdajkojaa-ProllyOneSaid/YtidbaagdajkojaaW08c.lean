/- The walks of layer 8: a node's item, levels. -/
import Derived.Test.YtidbaagdajkojaaW08b
import Derived.Test.YtidbaagdajkojaaW01c
import Derived.Laws.ResultCell
set_option linter.unusedVariables false
set_option linter.unusedSimpArgs false
namespace Go.Proofs.Ytidbaagdajkojaa.W08
open Go.RowKit Go.Proofs.Ytidbaagdajkojaa.Lib Go.Proofs.Ytidbaagdajkojaa.Sha Go.Proofs.Ytidbaagdajkojaa.T07 Go.Proofs.Ytidbaagdajkojaa.T08 Go.Proofs.Ytidbaagdajkojaa.QTail Go.Proofs.Ytidbaagdajkojaa.Bld Go.Proofs.Ytidbaagdajkojaa.Itms Go.Proofs.Ytidbaagdajkojaa.W01 Go.Proofs.Ytidbaagdajkojaa.W07
attribute [local go_sem] Str_mk Str_size Str_toList Str_extract Str_append Str_get bt_nn bt_lt List.length_append take_rest sha_len two_len
theorem nodeB_len (level : Nat) (l : List Itm) (h : Fine l) : (nodeB level l).length ≤ 2000004 * l.length + 3 := by
  have := flat_len l h l.length (Nat.le_refl _)
  rw [List.take_length] at this
  simp only [nodeB, nodeHead, List.length_append, List.length_cons, List.length_nil]; omega
theorem countS_lt (level : Nat) (l : List Itm) (h : l.length ≤ 1000000) : countS level l < 18446744073709551616 := by
  unfold countS; split
  · omega
  · exact Nat.mod_lt _ (by decide)
theorem cell_lt {w : World} {p : Addr} {v : Value} (h : w.cell? p = some v) : p.block < w.heap.size := by
  rcases Nat.lt_or_ge p.block w.heap.size with h' | h'
  · exact h'
  · simp [World.cell?, Array.getElem?_eq_none h'] at h
theorem lastKey_itm (l : List Itm) : lastKey l = (itm l (l.length - 1)).1 := rfl
set_option maxHeartbeats 1600000 in
set_option maxRecDepth 100000 in
theorem up_any (level : Nat) (l : List Itm) (A : Option Addr) (c : Nat) (w : World) (hv : level ≤ 1000000000) (hl0 : 0 < l.length) (hl : l.length ≤ 1000000) (hrd : Rd w A (its l)) (hs : Fine l) (hs2 : 0 < level → ∀ i, i < l.length → (itm l i).2.length = 40) :
    Calls Try.prog 52 #[.agg #[.int .i64 (level : Int), .slice A l.length c]] w fun e w' => e = .returned (.tuple #[.agg #[.string (Str (lastKey l)), .string (Str (sha (nodeB level l) ++ be (countS level l) 8))], .string (Str (nodeB level l))]) ∧ Below w.heap.size w w' := by
  have HS := hid hs
  have HS2 := hid hs2
  have H0 := hid hrd
  have hnl := nodeB_len level l hs
  have hct := countS_lt level l hl
  obtain ⟨ct, hctE⟩ : ∃ ct, ct = countS level l := ⟨_, rfl⟩
  obtain ⟨nd, hndE⟩ : ∃ nd, nd = nodeB level l := ⟨_, rfl⟩
  obtain ⟨b, o, rfl, hc1, hc2⟩ := rd_itm hrd (j := l.length - 1) (by omega)
  have HCT := hid hctE
  have HND := hid hndE
  obtain ⟨w2, hw2⟩ : ∃ w2, w2 = (w.alloc (Obj.cells #[Value.int IntKind.i64 level, Value.slice (some ⟨b, o, none⟩) l.length c] 58)).alloc (Obj.cells #[Value.string (Str []), Value.string (Str [])] 42) := ⟨_, rfl⟩
  have hw2b : Below w.heap.size w w2 := by rw [hw2]; exact below_al (below_al (below_rf w) _) _
  have z2 : w2.heap.size = w.heap.size + 2 := by rw [hw2]; simp
  have hbx : ∀ W, Below w2.heap.size w2 W → W.cell? ⟨w.heap.size, 0, none⟩ = some (Value.int IntKind.i64 level) ∧ W.cell? ⟨w.heap.size, 1, none⟩ = some (Value.slice (some ⟨b, o, none⟩) l.length c) := by
    intro W hW
    have hh : w2.heap[w.heap.size]? = some (Obj.cells #[Value.int IntKind.i64 level, Value.slice (some ⟨b, o, none⟩) l.length c] 58 (0, 0)) := by
      rw [hw2, heap_old _ _ (by simp), heap_new]
    constructor
    · rw [hW.cell (p := ⟨w.heap.size, 0, none⟩) (by rw [z2]; simp), Go.Lib.cell_of_heap hh]; rfl
    · rw [hW.cell (p := ⟨w.heap.size, 1, none⟩) (by rw [z2]; simp), Go.Lib.cell_of_heap hh]; rfl
  have hres : ∀ W, Below w2.heap.size w2 W → W.heap[w.heap.size + 1]? = some (Obj.cells #[Value.string (Str []), Value.string (Str [])] 42 (0, 0)) := by
    intro W hW
    rw [hW.block (w.heap.size + 1) (by rw [z2]; omega), hw2]
    exact heap_new' _ _ (by simp)
  have HRES := hid hres
  clear hres
  have HBX := hid hbx
  have HZ := hid z2
  have b20 := hbx w2 (below_rf w2)
  have b20a := b20.1
  have b20b := b20.2
  have HW2 := hid hw2
  clear hs hs2 hrd hbx z2 b20
  rw [← hctE] at hct ⊢
  rw [← hndE] at hnl ⊢
  clear hctE hndE
  go_enter Try.func52, Try.ntmps52
  go_wp2_with fail
  rw [← hw2]
  clear hw2
  refine (bytes_any level l _ c w2 hv hl (Rd.below H0.out hw2b) HS.out).mono ?_; rintro e w3 ⟨rfl, hb3⟩
  rw [← HND.out]
  have a3 := (HBX.out w3 hb3).1
  have b3 := (HBX.out w3 hb3).2
  have hb3' := below_tr hw2b hb3
  clear b20a b20b
  go_wp2_with fail
  refine (count_any level l _ c w3 (by omega) (Rd.below H0.out hb3') HS2.out).mono ?_; rintro e w4 ⟨rfl, hb4⟩
  rw [← HCT.out]
  have hb24 := below_tr hb3 hb4
  go_wp2_with fail
  refine (print_any nd w4 (by omega)).mono ?_; rintro e w5 ⟨rfl, hb5⟩
  have hb25 := below_tr hb24 hb5
  clear a3 b3
  have hcv := fun w a => conv1 (P := Try.prog) w 91 5 9 5 Try.underlying91 Try.underlying5 Try.underlying9 a 1
  go_wp2_with fail
  go_loopw [6, 7] (fun x i wr => ∃ m : Nat, m ≤ 8 ∧ i = .int .i64 (8 * (m : Int) - 8) ∧ x = .string (Str (sha nd ++ (be ct 8).take (8 - m))) ∧ Below w2.heap.size w2 wr) (fun _ i _ => (intOf i + 8).toNat)
  case atStart => exact ⟨8, by omega, rfl, by simp, hb25⟩
  case round =>
    obtain ⟨m, hm8, rfl, rfl, hB⟩ := hrel
    rcases m with _ | j
    · have e0 : 8 * ((0 : Nat) : Int) - 8 = -8 := rfl
      rw [e0]
      clear e0
      have hpt : (be ct 8).take (8 - 0) = be ct 8 := by rw [List.take_of_length_le (by rw [be_len]; omega)]
      rw [hpt]
      clear hpt
      have a5 := (HBX.out wr hB).1
      have b5 := (HBX.out wr hB).2
      have q1 := (Below.cell (p := ⟨b, o + (l.length - 1) * 2, none⟩) (below_tr hw2b hB) (cell_lt hc1)).trans hc1
      have e9 : lastKey l = (itm l (l.length - 1)).1 := rfl
      rw [← e9] at q1
      clear e9 hc1 hc2
      have hr := HRES.out wr hB
      have r0 : wr.cell? ⟨w.heap.size + 1, 0, none⟩ = some (Value.string (Str [])) := by rw [Go.Lib.cell_of_heap hr]; rfl
      have r1 : wr.cell? ⟨w.heap.size + 1, 1, none⟩ = some (Value.string (Str [])) := by rw [Go.Lib.cell_of_heap hr]; rfl
      have r2 : wr.frozen? ⟨w.heap.size + 1, 0, none⟩ = false := Go.Lib.frozen_of_heap hr 0
      have r3 : wr.frozen? ⟨w.heap.size + 1, 1, none⟩ = false := Go.Lib.frozen_of_heap hr 1
      clear hr
      go_wp2
      refine bodyPost_ret (v := .tuple #[.agg #[.string (Str (lastKey l)), .string (Str (sha nd ++ be ct 8))], .string (Str nd)]) ((results_cell_tmp rfl _ _ _).trans ?_) rfl ?_
      · go_simp
      refine ⟨rfl, ((below_tr hw2b hB).setCell (p := ⟨w.heap.size + 1, 0, none⟩) (Nat.le_succ _) _).setCell (p := ⟨w.heap.size + 1, 1, none⟩) (Nat.le_succ _) _⟩
    · have e1 : 8 * ((j + 1 : Nat) : Int) - 8 = ((8 * j : Nat) : Int) := by omega
      rw [e1]
      have e2 : min (8 * j) 64 = 8 * j := by omega
      clear e1
      have hbl : (List.take (8 - (j + 1)) (be ct 8)).length ≤ 8 := by simp; omega
      go_wp2
      go_roundw
      case rel =>
        refine ⟨j, by omega, rfl, ?_, below_al hB _⟩
        have e4 : ((ct : Int) / 2 ^ (8 * j)) = (((ct / 2 ^ (8 * j) : Nat)) : Int) := by
          rw [Int.natCast_ediv, Int.natCast_pow]; rfl
        rw [e4, be_succ ct j (by omega), u8_mod _ (Int.natCast_nonneg _)]
      case measure => simp only [intOf]; omega
end Go.Proofs.Ytidbaagdajkojaa.W08
