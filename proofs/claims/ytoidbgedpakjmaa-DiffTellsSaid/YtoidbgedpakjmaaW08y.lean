/- The walks of layer 8: fields. The walks of layer 8: what bytes are a node. -/
import Derived.Test.YtoidbgedpakjmaaOrd
import Derived.Test.YtoidbgedpakjmaaW08
import Derived.Test.YtoidbgedpakjmaaW08f
import Derived.Laws.ResultCell
set_option linter.unusedVariables false
set_option linter.unusedSimpArgs false
namespace Go.Proofs.Ytoidbgedpakjmaa.W08
open Go.RowKit Go.Proofs.Ytoidbgedpakjmaa.Lib Go.Proofs.Ytoidbgedpakjmaa.Sha Go.Proofs.Ytoidbgedpakjmaa.T08 Go.Proofs.Ytoidbgedpakjmaa.QTail Go.Proofs.Ytoidbgedpakjmaa.Itms
theorem n2_walk (s : List UInt8) : bits .or .i64 (wrap64 (wrap64 (bt s 0) * 256)) (wrap64 (bt s 1)) = ((n2 s : Nat) : Int) := by
  have a0 := bt_nn s 0; have a1 := bt_nn s 1
  have b0 := bt_lt s 0; have b1 := bt_lt s 1
  have w0 : wrap64 (wrap64 (bt s 0) * 256) = bt s 0 * 256 := by unfold wrap64; omega
  have w1 : wrap64 (bt s 1) = bt s 1 := by unfold wrap64; omega
  rw [w0, w1, bits_join .i64 62 (by decide) (fun n h0 h1 => by rw [IntKind.wrap_i64]; omega) 8 _ _ (by omega) (by omega) (by omega) a1 (by omega) (by omega)]
  rw [bt_bat, bt_bat]; unfold n2; omega
attribute [local go_sem] Str_size Str_toList Str_extract Str_append Str_get bt_nn bt_lt List.length_append take_rest n2_walk
def FieldOut (s : List UInt8) (e : Ending) : Prop :=
  (fieldS s = none ∧ e = .returned (.tuple #[.string (Str []), .string (Str []), .bool false])) ∨ ∃ a b, fieldS s = some (a, b) ∧ e = .returned (.tuple #[.string (Str a), .string (Str b), .bool true])
set_option maxRecDepth 100000 in
set_option maxHeartbeats 1600000 in
theorem field_any (s : List UInt8) (w : World) (hs : s.length ≤ 1000000000) :
    Calls Try.prog 76 #[.string (Str s)] w fun e w' => FieldOut s e ∧ Below w.heap.size w w' := by
  go_enter Try.func76, Try.ntmps76
  by_cases h2 : s.length < 2
  · have hf : fieldS s = none := by unfold fieldS; rw [if_pos h2]
    have HF := hid hf
    clear hf
    go_wp2
    go_ret3
    exact ⟨.inl ⟨HF.out, by rw [Str_nil]; rfl⟩, below_rf w⟩
  · obtain ⟨n, hn⟩ : ∃ n, n = n2 s := ⟨_, rfl⟩
    have hn1 : n < 65536 := by
      rw [hn]; unfold n2
      have := (bat s 0).toNat_lt; have := (bat s 1).toNat_lt; omega
    have hw2 : bits .or .i64 (wrap64 (wrap64 (bt s 0) * 256)) (wrap64 (bt s 1)) = (n : Int) := by rw [hn]; exact n2_walk s
    by_cases h3 : s.length - 2 < n
    · have hf : fieldS s = none := by unfold fieldS; rw [if_neg h2, ← hn, if_pos h3]
      have HF := hid hf
      have HN := hid hn
      clear hf hn
      go_wp2
      go_quiet (fail)
      go_wp2
      go_ret3
      exact ⟨.inl ⟨HF.out, by rw [Str_nil]; rfl⟩, below_drewN (below_rf w) _⟩
    · have hf : fieldS s = some ((s.drop 2).take n, (s.drop 2).drop n) := by unfold fieldS; rw [if_neg h2, ← hn, if_neg h3]
      have HF := hid hf
      have HN := hid hn
      clear hf hn
      go_wp2
      go_quiet (fail)
      go_wp2
      go_quiet (fail)
      go_wp2
      go_ret3
      refine ⟨.inr ⟨_, _, HF.out, ?_⟩, below_drewN (below_drewN (below_rf w) _) _⟩
      simp [List.drop_drop, Nat.add_comm]
      rw [List.take_of_length_le (by simp; omega)]
end Go.Proofs.Ytoidbgedpakjmaa.W08
namespace Go.Proofs.Ytoidbgedpakjmaa.W08
open Go.RowKit Go.Proofs.Ytoidbgedpakjmaa.Lib Go.Proofs.Ytoidbgedpakjmaa.Sha Go.Proofs.Ytoidbgedpakjmaa.T08 Go.Proofs.Ytoidbgedpakjmaa.QTail Go.Proofs.Ytoidbgedpakjmaa.Itms Go.Proofs.Ytoidbgedpakjmaa.WSeq Go.Proofs.Ytoidbgedpakjmaa.Bld
attribute [local go_sem] Str_size Str_toList Str_extract Str_append Str_get bt_nn bt_lt List.length_append take_rest
def headOk (s : List UInt8) : Bool := decide (3 ≤ s.length) && decide (bt s 0 = 80) && decide (bt s 1 ≤ 32) && decide (bt s 2 ≤ 16)
def parseS (s : List UInt8) : Option (Nat × List Itm) :=
  if headOk s = true then (match parseGo (bat s 1).toNat (bat s 2).toNat (s.drop 3) with
    | none => none
    | some (l, r) => if r = [] ∧ ¬ (0 < (bat s 1).toNat ∧ l.length = 0) ∧ rightS l = true then some ((bat s 1).toNat, l) else none)
  else none
def ParseOut (B : Nat) (s : List UInt8) (e : Ending) (W : World) : Prop :=
  (parseS s = none ∧ e = .returned (.tuple #[.agg #[.int .i64 0, .slice none 0 0], .bool false])) ∨
  ∃ lv l v, parseS s = some (lv, l) ∧ e = .returned (.tuple #[.agg #[.int .i64 (lv : Int), v], .bool true]) ∧ W.ownsRow B 63 2 v l.length (its l)
/-- what lies there in a round: the result's cell, the node's, the pair's -/
structure PB (w W : World) (lv xb : Nat) (k1 k2 : List UInt8) (v : Value) (acc : List Itm) : Prop where
  res : W.heap[w.heap.size]? = some (.cells #[.int .i64 0, .slice none 0 0] 56 (0, 0))
  nod : W.heap[w.heap.size + 1]? = some (.cells #[.int .i64 (lv : Int), v] 56 (0, 0))
  x : W.heap[xb]? = some (.cells #[.string (Str k1), .string (Str k2)] 63 (0, 0))
  own : W.ownsRow (w.heap.size + 2) 63 2 v acc.length (its acc)
  low : Below w.heap.size w W
  sz : w.heap.size + 2 ≤ xb
  xne : v.ownBlock ≠ some xb
theorem PB.lt {w W : World} {lv xb : Nat} {k1 k2 : List UInt8} {v : Value} {acc : List Itm} (h : PB w W lv xb k1 k2 v acc) : xb < W.heap.size := (Array.getElem?_eq_some_iff.1 h.x).1
theorem PB.below {w W W1 : World} {lv xb : Nat} {k1 k2 : List UInt8} {v : Value} {acc : List Itm} (h : PB w W lv xb k1 k2 v acc) (hB : Below W.heap.size W W1) : PB w W1 lv xb k1 k2 v acc := by
  have hl := h.lt
  have hs := h.sz
  exact ⟨(hB.block _ (by omega)).trans h.res, (hB.block _ (by omega)).trans h.nod, (hB.block _ hl).trans h.x, own_of_below h.own hB, below_tr h.low hB, hs, h.xne⟩
theorem own_setCell {W : World} {base n : Nat} {e : TypeId} {size : Nat} {v : Value} {xs : List Value} (h : W.ownsRow base e size v n xs) (p : Addr) (u : Value) (hne : v.ownBlock ≠ some p.block) : (W.setCell p u).ownsRow base e size v n xs := by
  refine ⟨h.1, ?_⟩
  rcases h.2 with ⟨rfl, h0⟩ | ⟨g, cap, cur, rfl, hb, hh, hr⟩
  · exact .inl ⟨rfl, h0⟩
  · refine .inr ⟨g, cap, cur, rfl, hb, ?_, hr⟩
    rw [heap_setCell_other W p g u (fun e => hne (by simp [Value.ownBlock, e]))]
    exact hh
theorem PB.setK {w W : World} {lv xb : Nat} {k1 k2 : List UInt8} {v : Value} {acc : List Itm} (h : PB w W lv xb k1 k2 v acc) (a : List UInt8) : PB w (W.setCell ⟨xb, 0, none⟩ (.string (Str a))) lv xb a k2 v acc := by
  have hs := h.sz
  refine ⟨?_, ?_, ?_, own_setCell h.own _ _ h.xne, h.low.setCell (p := ⟨xb, 0, none⟩) (by show _ ≤ xb; omega) _, hs, h.xne⟩
  · rw [heap_setCell_other W ⟨xb, 0, none⟩ _ _ (by show _ ≠ xb; omega)]; exact h.res
  · rw [heap_setCell_other W ⟨xb, 0, none⟩ _ _ (by show _ ≠ xb; omega)]; exact h.nod
  · exact heap_setCell_same W xb 0 _ _ _ h.x
theorem PB.setV {w W : World} {lv xb : Nat} {k1 k2 : List UInt8} {v : Value} {acc : List Itm} (h : PB w W lv xb k1 k2 v acc) (a : List UInt8) : PB w (W.setCell ⟨xb, 1, none⟩ (.string (Str a))) lv xb k1 a v acc := by
  have hs := h.sz
  refine ⟨?_, ?_, ?_, own_setCell h.own _ _ h.xne, h.low.setCell (p := ⟨xb, 1, none⟩) (by show _ ≤ xb; omega) _, hs, h.xne⟩
  · rw [heap_setCell_other W ⟨xb, 1, none⟩ _ _ (by show _ ≠ xb; omega)]; exact h.res
  · rw [heap_setCell_other W ⟨xb, 1, none⟩ _ _ (by show _ ≠ xb; omega)]; exact h.nod
  · exact heap_setCell_same W xb 1 _ _ _ h.x
/-- the facts that a walk wants of it -/
structure PC (w W : World) (lv xb : Nat) (k1 k2 : List UInt8) (v : Value) : Prop where
  r0 : W.cell? ⟨w.heap.size, 0, none⟩ = some (.int .i64 0)
  r1 : W.cell? ⟨w.heap.size, 1, none⟩ = some (.slice none 0 0)
  r2 : W.frozen? ⟨w.heap.size, 0, none⟩ = false
  r3 : W.frozen? ⟨w.heap.size, 1, none⟩ = false
  n0 : W.cell? ⟨w.heap.size + 1, 0, none⟩ = some (.int .i64 (lv : Int))
  n1 : W.cell? ⟨w.heap.size + 1, 1, none⟩ = some v
  n3 : W.frozen? ⟨w.heap.size + 1, 1, none⟩ = false
  x0 : W.cell? ⟨xb, 0, none⟩ = some (.string (Str k1))
  x1 : W.cell? ⟨xb, 1, none⟩ = some (.string (Str k2))
  x2 : W.frozen? ⟨xb, 0, none⟩ = false
  x3 : W.frozen? ⟨xb, 1, none⟩ = false
theorem PB.cells {w W : World} {lv xb : Nat} {k1 k2 : List UInt8} {v : Value} {acc : List Itm} (h : PB w W lv xb k1 k2 v acc) : PC w W lv xb k1 k2 v :=
  ⟨by rw [Go.Lib.cell_of_heap h.res]; rfl, by rw [Go.Lib.cell_of_heap h.res]; rfl, Go.Lib.frozen_of_heap h.res 0, Go.Lib.frozen_of_heap h.res 1, by rw [Go.Lib.cell_of_heap h.nod]; rfl, by rw [Go.Lib.cell_of_heap h.nod]; rfl, Go.Lib.frozen_of_heap h.nod 1, by rw [Go.Lib.cell_of_heap h.x]; rfl, by rw [Go.Lib.cell_of_heap h.x]; rfl, Go.Lib.frozen_of_heap h.x 0, Go.Lib.frozen_of_heap h.x 1⟩
theorem PB.nod7 {w W w7 : World} {lv xb : Nat} {k1 k2 : List UInt8} {v : Value} {acc : List Itm} (h : PB w W lv xb k1 k2 v acc) (hB : Below (w.heap.size + 2) W w7) : w7.cell? ⟨w.heap.size + 1, 1, none⟩ = some v ∧ w7.frozen? ⟨w.heap.size + 1, 1, none⟩ = false := by
  have hn : w7.heap[w.heap.size + 1]? = some (.cells #[.int .i64 (lv : Int), v] 56 (0, 0)) := (hB.block _ (Nat.lt_succ_self _)).trans h.nod
  exact ⟨by rw [Go.Lib.cell_of_heap hn]; rfl, Go.Lib.frozen_of_heap hn 1⟩
/-- behind the append and the store of the node's pairs -/
theorem PB.after {w W w7 : World} {lv xb : Nat} {k1 k2 : List UInt8} {v : Value} {acc : List Itm} (h : PB w W lv xb k1 k2 v acc) (hB : Below (w.heap.size + 2) W w7) (v' : Value) (acc' : List Itm) (ho : w7.ownsRow (w.heap.size + 2) 63 2 v' acc'.length (its acc')) :
    (w7.setCell ⟨w.heap.size + 1, 1, none⟩ v').heap[w.heap.size]? = some (.cells #[.int .i64 0, .slice none 0 0] 56 (0, 0)) ∧
    (w7.setCell ⟨w.heap.size + 1, 1, none⟩ v').heap[w.heap.size + 1]? = some (.cells #[.int .i64 (lv : Int), v'] 56 (0, 0)) ∧
    (w7.setCell ⟨w.heap.size + 1, 1, none⟩ v').ownsRow (w.heap.size + 2) 63 2 v' acc'.length (its acc') ∧
    Below w.heap.size w (w7.setCell ⟨w.heap.size + 1, 1, none⟩ v') ∧ w.heap.size + 2 ≤ (w7.setCell ⟨w.heap.size + 1, 1, none⟩ v').heap.size := by
  have hn : w7.heap[w.heap.size + 1]? = some (.cells #[.int .i64 (lv : Int), v] 56 (0, 0)) := (hB.block _ (Nat.lt_succ_self _)).trans h.nod
  have hr : w7.heap[w.heap.size]? = some (.cells #[.int .i64 0, .slice none 0 0] 56 (0, 0)) := (hB.block _ (by omega)).trans h.res
  refine ⟨?_, ?_, own_setCell ho _ _ (fun e => ?_), (h.low.trans (hB.mono (by omega))).setCell (p := ⟨w.heap.size + 1, 1, none⟩) (Nat.le_succ _) _, ?_⟩
  · rw [heap_setCell_other w7 ⟨w.heap.size + 1, 1, none⟩ _ _ (by show _ ≠ w.heap.size + 1; omega)]; exact hr
  · exact heap_setCell_same w7 (w.heap.size + 1) 1 _ _ _ hn
  · have := own_block_base ho _ e
    simp only at this
    omega
  · have h1 := h.lt
    have h2 := h.sz
    have h3 := hB.size
    simp; omega
set_option maxRecDepth 100000 in
set_option maxHeartbeats 3200000 in
theorem parse_any (s : List UInt8) (w : World) (hs : s.length ≤ 1000000000) :
    Calls Try.prog 64 #[.string (Str s)] w fun e w' => ParseOut w.heap.size s e w' ∧ Below w.heap.size w w' := by
  go_enter Try.func64, Try.ntmps64
  cases hh : headOk s with
  | false =>
    have hp : parseS s = none := by unfold parseS; rw [hh]; rfl
    have HP := hid hp
    have hal := below_al (below_rf w) (Obj.cells #[Value.int IntKind.i64 0, Value.slice none 0 0] 56)
    have b0 := bt_nn s 0; have b1 := bt_nn s 1; have b2 := bt_nn s 2
    clear hp
    by_cases h3 : s.length < 3
    · have g3 : decide ((s.length : Int) < 3) = true := decide_eq_true (by omega)
      clear hh h3
      go_wp2
      refine bodyPost_ret (v := .tuple #[.agg #[.int .i64 0, .slice none 0 0], .bool false]) ((results_cell_tmp rfl _ _ _).trans ?_) rfl ?_
      · go_simp
      exact ⟨.inl ⟨HP.out, rfl⟩, hal⟩
    · have g3 : decide ((s.length : Int) < 3) = false := decide_eq_false (by omega)
      by_cases h0 : bt s 0 = 80
      · have g0 : (bt s 0 == 80) = true := beq_iff_eq.2 h0
        have g0' : (bt s 0 != 80) = false := by rw [bne, g0]; rfl
        by_cases h1 : 32 < bt s 1
        · have g1 : decide ((32 : Int) < bt s 1) = true := decide_eq_true h1
          clear hh h0 h1
          go_wp2
          refine bodyPost_ret (v := .tuple #[.agg #[.int .i64 0, .slice none 0 0], .bool false]) ((results_cell_tmp rfl _ _ _).trans ?_) rfl ?_
          · go_simp
          exact ⟨.inl ⟨HP.out, rfl⟩, hal⟩
        · have g1 : decide ((32 : Int) < bt s 1) = false := decide_eq_false h1
          have h2 : 16 < bt s 2 := by
            rcases Int.lt_or_le 16 (bt s 2) with h | h
            · exact h
            · have : headOk s = true := by simp only [headOk, Bool.and_eq_true, decide_eq_true_eq]; exact ⟨⟨⟨by omega, h0⟩, by omega⟩, h⟩
              rw [this] at hh; cases hh
          have g2 : decide ((16 : Int) < bt s 2) = true := decide_eq_true h2
          clear hh h0 h1 h2
          go_wp2
          refine bodyPost_ret (v := .tuple #[.agg #[.int .i64 0, .slice none 0 0], .bool false]) ((results_cell_tmp rfl _ _ _).trans ?_) rfl ?_
          · go_simp
          exact ⟨.inl ⟨HP.out, rfl⟩, hal⟩
      · have g0 : (bt s 0 == 80) = false := beq_eq_false_iff_ne.2 h0
        have g0' : (bt s 0 != 80) = true := by rw [bne, g0]; rfl
        clear hh h0
        go_wp2
        refine bodyPost_ret (v := .tuple #[.agg #[.int .i64 0, .slice none 0 0], .bool false]) ((results_cell_tmp rfl _ _ _).trans ?_) rfl ?_
        · go_simp
        exact ⟨.inl ⟨HP.out, rfl⟩, hal⟩
  | true =>
    simp only [headOk, Bool.and_eq_true, decide_eq_true_eq] at hh
    obtain ⟨⟨⟨h3, h0⟩, h1⟩, h2⟩ := hh
    have g0 : (bt s 0 == 80) = true := beq_iff_eq.2 h0
    have g1 : decide ((32 : Int) < bt s 1) = false := decide_eq_false (by omega)
    have g2 : decide ((16 : Int) < bt s 2) = false := decide_eq_false (by omega)
    have g3 : decide ((s.length : Int) < 3) = false := decide_eq_false (by omega)
    have H0 := hid h0
    obtain ⟨lv, hlv⟩ : ∃ lv, lv = (bat s 1).toNat := ⟨_, rfl⟩
    obtain ⟨N, hN⟩ : ∃ N, N = (bat s 2).toNat := ⟨_, rfl⟩
    have e1 : bt s 1 = (lv : Int) := by rw [hlv]; rfl
    have e2 : bt s 2 = (N : Int) := by rw [hN]; rfl
    have hlv2 : lv ≤ 32 := by omega
    have hN2 : N ≤ 16 := by omega
    have HP := hid (show parseS s = (match parseGo lv N (s.drop 3) with | none => none | some (l, r) => if r = [] ∧ ¬ (0 < lv ∧ l.length = 0) ∧ rightS l = true then some (lv, l) else none) by
      unfold parseS headOk
      rw [if_pos (by simp only [Bool.and_eq_true, decide_eq_true_eq]; exact ⟨⟨⟨h3, h0⟩, h1⟩, h2⟩), ← hlv, ← hN])
    rw [e1] at h1 g1
    rw [e2] at h2 g2
    clear h0 hlv hN
    obtain ⟨w3, hw3⟩ : ∃ w3, w3 = (w.alloc (Obj.cells #[Value.int IntKind.i64 0, Value.slice none 0 0] 56)).alloc (Obj.cells #[Value.int IntKind.i64 (lv : Int), Value.slice none 0 0] 56) := ⟨_, rfl⟩
    have z3 : w3.heap.size = w.heap.size + 2 := by rw [hw3]; simp
    have hb3 : Below w.heap.size w w3 := by rw [hw3]; exact below_al (below_al (below_rf w) _) _
    have hr3 : w3.heap[w.heap.size]? = some (.cells #[.int .i64 0, .slice none 0 0] 56 (0, 0)) := by rw [hw3, heap_old _ _ (by simp), heap_new]
    have hn3 : w3.heap[w.heap.size + 1]? = some (.cells #[.int .i64 (lv : Int), .slice none 0 0] 56 (0, 0)) := by rw [hw3]; exact heap_new' _ _ (by simp)
    have HR3 := hid hr3
    have HN3 := hid hn3
    have HZ3 := hid z3
    clear hr3 hn3 z3
    go_wp2
    rw [← hw3]
    clear hw3
    go_loopw [5, 37] (fun rs i wr => ∃ (k : Nat) (acc : List Itm) (r : List UInt8) (v : Value), k ≤ N ∧ i = .int .i64 (k : Int) ∧ rs = .string (Str r) ∧ r.length ≤ s.length ∧ acc.length = k ∧ Hid (parseGo lv N (s.drop 3) = (match parseGo lv (N - k) r with | none => none | some (l, r') => some (acc ++ l, r'))) ∧ Hid (wr.heap[w.heap.size]? = some (.cells #[.int .i64 0, .slice none 0 0] 56 (0, 0))) ∧ Hid (wr.heap[w.heap.size + 1]? = some (.cells #[.int .i64 (lv : Int), v] 56 (0, 0))) ∧ wr.ownsRow (w.heap.size + 2) 63 2 v acc.length (its acc) ∧ Below w.heap.size w wr ∧ w.heap.size + 2 ≤ wr.heap.size) (fun _ i _ => N - (intOf i).toNat)
    case atStart => exact ⟨0, [], s.drop 3, .slice none 0 0, by omega, rfl, rfl, by simp, rfl, hid (by cases parseGo lv N (s.drop 3) with | none => rfl | some q => rfl), HR3, HN3, own_nil _ _ _ _, hb3, by rw [HZ3.out]; omega⟩
    case round =>
      obtain ⟨k, acc, r, v, hk, rfl, rfl, hrl, hal, HG, HR, HN, hown, hB, hsz⟩ := hrel
      have HAL := hid hal
      have hacc : acc.length ≤ 16 := by omega
      by_cases hlt : k < N
      · have hpb : PB w (wr.alloc (Obj.cells #[Value.string (Str []), Value.string (Str [])] 63)) lv wr.heap.size [] [] v acc := by
          have hal := below_al (below_rf wr) (Obj.cells #[Value.string (Str []), Value.string (Str [])] 63)
          refine ⟨(hal.block _ (by omega)).trans HR.out, (hal.block _ (by omega)).trans HN.out, heap_new wr _, own_of_below hown hal, below_tr hB hal, hsz, fun e => ?_⟩
          have := own_lt hown wr.heap.size e
          omega
        rw [Str_nil] at hpb
        have HPB := hid hpb
        have hstep : parseGo lv (N - k) r = (match fieldS r with
            | none => none
            | some (a, r1) => match fieldS r1 with
              | none => none
              | some (b, r2) => if okVal lv b = true then (match parseGo lv (N - (k + 1)) r2 with | none => none | some (l, r3) => some ((a, b) :: l, r3)) else none) := by
          rw [show N - k = (N - (k + 1)) + 1 by omega]; rfl
        have HST := hid hstep
        clear hpb hal hown hB hstep
        go_wp2_with fail
        refine (field_any r _ (by omega)).mono ?_; rintro e w4 ⟨ho, hb4⟩
        have hp4 := HPB.out.below hb4
        rcases ho with ⟨hf, rfl⟩ | ⟨a, r1, hf, rfl⟩
        · have hnone : parseS s = none := by rw [HP.out, HG.out, HST.out, hf]
          have HNONE := hid hnone
          obtain ⟨p0, p1, p2, p3, p4, p5, p6, p7, p8, p9, p10⟩ := hp4.cells
          have HP4 := hid hp4
          clear hnone hf hp4
          go_wp2_with fail
          refine (field_any [] _ (by simp)).mono ?_; rintro e w5 ⟨ho, hb5⟩
          have hp5 := (HP4.out.setK []).below hb5
          rcases ho with ⟨hf, rfl⟩ | ⟨a', r', hf, rfl⟩
          · obtain ⟨q0, q1, q2, q3, q4, q5, q6, q7, q8, q9, q10⟩ := hp5.cells
            have HP5 := hid hp5
            clear p0 p1 p2 p3 p4 p5 p6 p7 p8 p9 p10 hf hp5
            go_wp2
            refine bodyPost_ret (v := .tuple #[.agg #[.int .i64 0, .slice none 0 0], .bool false]) ((results_cell_tmp rfl _ _ _).trans ?_) rfl ?_
            · go_simp
            exact ⟨.inl ⟨HNONE.out, rfl⟩, (((HP5.out.setV []).low).setCell (p := ⟨w.heap.size, 0, none⟩) (Nat.le_refl _) _).setCell (p := ⟨w.heap.size, 1, none⟩) (Nat.le_refl _) _⟩
          · cases hf
        · obtain ⟨hb1l, hal1⟩ := field_rest hf
          obtain ⟨p0, p1, p2, p3, p4, p5, p6, p7, p8, p9, p10⟩ := hp4.cells
          have HP4 := hid hp4
          have HF1 := hid hf
          have hr1l : r1.length ≤ 1000000000 := by omega
          clear hf hp4
          go_wp2_with fail
          refine (field_any r1 _ hr1l).mono ?_; rintro e w5 ⟨ho, hb5⟩
          have hp5 := (HP4.out.setK a).below hb5
          rcases ho with ⟨hf, rfl⟩ | ⟨b, r2, hf, rfl⟩
          · have hnone : parseS s = none := by rw [HP.out, HG.out, HST.out, HF1.out]; dsimp only; rw [hf]
            have HNONE := hid hnone
            obtain ⟨q0, q1, q2, q3, q4, q5, q6, q7, q8, q9, q10⟩ := hp5.cells
            have HP5 := hid hp5
            clear p0 p1 p2 p3 p4 p5 p6 p7 p8 p9 p10 hf hp5 hnone
            go_wp2
            refine bodyPost_ret (v := .tuple #[.agg #[.int .i64 0, .slice none 0 0], .bool false]) ((results_cell_tmp rfl _ _ _).trans ?_) rfl ?_
            · go_simp
            exact ⟨.inl ⟨HNONE.out, rfl⟩, (((HP5.out.setV []).low).setCell (p := ⟨w.heap.size, 0, none⟩) (Nat.le_refl _) _).setCell (p := ⟨w.heap.size, 1, none⟩) (Nat.le_refl _) _⟩
          · obtain ⟨hr2l, hbl⟩ := field_rest hf
            have hr2' : r2.length ≤ s.length := by omega
            have hb' : b.length ≤ 1000000000 := by omega
            have ha' : a.length ≤ 1000000000 := by omega
            have hok : parseGo lv (N - k) r = (if okVal lv b = true then (match parseGo lv (N - (k + 1)) r2 with | none => none | some (l, r3) => some ((a, b) :: l, r3)) else none) := by
              rw [HST.out, HF1.out]; dsimp only; rw [hf]
            have HOK := hid hok
            obtain ⟨q0, q1, q2, q3, q4, q5, q6, q7, q8, q9, q10⟩ := hp5.cells
            have HP5 := hid hp5
            clear p0 p1 p2 p3 p4 p5 p6 p7 p8 p9 p10 hf hp5 hok hr2l hbl hb1l hal1
            have hgo : okVal lv b = true → parseGo lv N (s.drop 3) = (match parseGo lv (N - (k + 1)) r2 with | none => none | some (l, r') => some (acc ++ [(a, b)] ++ l, r')) := by
              intro h
              rw [HG.out, HOK.out, if_pos h]
              cases parseGo lv (N - (k + 1)) r2 with
              | none => rfl
              | some q => obtain ⟨l, r3⟩ := q; simp
            have hno : okVal lv b = false → parseS s = none := by
              intro h
              rw [HP.out, HG.out, HOK.out, if_neg (by rw [h]; decide)]
            have HGO := hid hgo
            have HNO := hid hno
            clear hgo hno
            have hl0n : (0 : Int) ≤ lv := by omega
            by_cases hl0 : lv = 0
            · have hz : decide ((0 : Int) < (lv : Int)) = false := decide_eq_false (by omega)
              have hz2 : decide (0 < lv) = false := decide_eq_false (by omega)
              have hov : okVal lv b = true := by unfold okVal; rw [decide_eq_true hl0]; rfl
              have HGG := hid (HGO.out hov)
              have HL0 := hid hl0
              clear hov hl0
              have hzs : (w5.setCell ⟨wr.heap.size, 1, none⟩ (.string (Str b))).heap.size = w5.heap.size := by simp
              have HZS := hid hzs
              clear hzs
              go_wp2_with (at_builtin; (refine wpList_appN ti_pair (.tmp 79) (.tmp 81) (by rfl) (by rfl) (w.heap.size + 2) [.string (Str a), .string (Str b)] 63 1 1 (by rfl) (by rw [HZS.out]; rfl) (HP5.out.setV b).own (by rfl) (by simp [Value.oneCell']) (Below.refl _ _) (by have h1 := (HP5.out.setV b).lt; have := hsz; omega) (by omega) ?_; intro A7 c7 w7 ho7 hg7 hB7 hs7; obtain ⟨m1, m2⟩ := (HP5.out.setV b).nod7 hB7))
              go_wp2
              go_roundw
              case rel =>
                obtain ⟨t1, t2, t3, t4, t5⟩ := (HP5.out.setV b).after hB7 (.slice A7 (acc.length + 1) c7) (acc ++ [(a, b)]) (by rw [its_app, List.length_append]; exact ho7)
                exact ⟨k + 1, acc ++ [(a, b)], r2, _, by omega, by go_num, rfl, hr2', by have := HAL.out; simp; omega, HGG, hid t1, hid t2, t3, t4, t5⟩
              case measure => simp [intOf]; omega
            · have hz : decide ((0 : Int) < (lv : Int)) = true := decide_eq_true (by omega)
              have hz2 : decide (0 < lv) = true := decide_eq_true (by omega)
              have hov : okVal lv b = (decide (b.length = 40) && decide (1 ≤ told b) && decide (told b ≤ 1099511627776)) := by unfold okVal; rw [decide_eq_false hl0]; rfl
              by_cases h40 : b.length = 40
              · rw [decide_eq_true h40] at hov
                have h40b : ((b.length : Int) == 40) = true := beq_iff_eq.2 (by omega)
                have h40c : ((b.length : Int) != 40) = false := by rw [bne, h40b]; rfl
                have htl := told_lt b
                have htd := told_any b (w5.setCell ⟨wr.heap.size, 1, none⟩ (.string (Str b))) h40
                obtain ⟨t, ht⟩ : ∃ t, t = told b := ⟨_, rfl⟩
                rw [← ht] at hov htl htd
                have HTD := hid htd
                have H40 := hid h40
                have HL0 := hid hl0
                clear htd h40 ht hl0
                go_wp2_with fail
                refine HTD.out.mono ?_; rintro e w6 ⟨rfl, rfl⟩
                by_cases htt : 1 ≤ t ∧ t ≤ 1099511627776
                · obtain ⟨ht1, ht2⟩ := htt
                  have hcw : IntKind.u64.wrap ((t : Int) - 1) = (t : Int) - 1 := by rw [wrap_u64]; omega
                  have hcc : decide ((1099511627776 : Int) ≤ (t : Int) - 1) = false := decide_eq_false (by omega)
                  rw [decide_eq_true ht1, decide_eq_true ht2] at hov
                  have HGG := hid (HGO.out hov)
                  clear hov ht1 ht2
                  have hzs : (w5.setCell ⟨wr.heap.size, 1, none⟩ (.string (Str b))).heap.size = w5.heap.size := by simp
                  have HZS := hid hzs
                  clear hzs
                  go_wp2_with (at_builtin; (refine wpList_appN ti_pair (.tmp 79) (.tmp 81) (by rfl) (by rfl) (w.heap.size + 2) [.string (Str a), .string (Str b)] 63 1 1 (by rfl) (by rw [HZS.out]; rfl) (HP5.out.setV b).own (by rfl) (by simp [Value.oneCell']) (Below.refl _ _) (by have h1 := (HP5.out.setV b).lt; have := hsz; omega) (by omega) ?_; intro A7 c7 w7 ho7 hg7 hB7 hs7; obtain ⟨m1, m2⟩ := (HP5.out.setV b).nod7 hB7))
                  go_wp2
                  go_roundw
                  case rel =>
                    obtain ⟨t1, t2, t3, t4, t5⟩ := (HP5.out.setV b).after hB7 (.slice A7 (acc.length + 1) c7) (acc ++ [(a, b)]) (by rw [its_app, List.length_append]; exact ho7)
                    exact ⟨k + 1, acc ++ [(a, b)], r2, _, by omega, by go_num, rfl, hr2', by have := HAL.out; simp; omega, HGG, hid t1, hid t2, t3, t4, t5⟩
                  case measure => simp [intOf]; omega
                · have hcc : decide ((1099511627776 : Int) ≤ IntKind.u64.wrap ((t : Int) - 1)) = true := decide_eq_true (by rw [wrap_u64]; omega)
                  have hof : okVal lv b = false := by
                    rw [hov]
                    rcases Nat.lt_or_ge t 1 with h | h
                    · rw [decide_eq_false (by omega : ¬ 1 ≤ t)]; rfl
                    · rw [decide_eq_false (by omega : ¬ t ≤ 1099511627776), Bool.and_false]
                  have HNONE := hid (HNO.out hof)
                  clear hov hof htt
                  go_wp2
                  refine bodyPost_ret (v := .tuple #[.agg #[.int .i64 0, .slice none 0 0], .bool false]) ((results_cell_tmp rfl _ _ _).trans ?_) rfl ?_
                  · go_simp
                  exact ⟨.inl ⟨HNONE.out, rfl⟩, (((HP5.out.setV b).low).setCell (p := ⟨w.heap.size, 0, none⟩) (Nat.le_refl _) _).setCell (p := ⟨w.heap.size, 1, none⟩) (Nat.le_refl _) _⟩
              · rw [decide_eq_false h40] at hov
                have h40b : ((b.length : Int) == 40) = false := beq_eq_false_iff_ne.2 (by omega)
                have h40c : ((b.length : Int) != 40) = true := by rw [bne, h40b]; rfl
                have HNONE := hid (HNO.out (by rw [hov]; rfl))
                have HL0 := hid hl0
                clear hov h40 hl0
                go_wp2
                refine bodyPost_ret (v := .tuple #[.agg #[.int .i64 0, .slice none 0 0], .bool false]) ((results_cell_tmp rfl _ _ _).trans ?_) rfl ?_
                · go_simp
                exact ⟨.inl ⟨HNONE.out, rfl⟩, (((HP5.out.setV b).low).setCell (p := ⟨w.heap.size, 0, none⟩) (Nat.le_refl _) _).setCell (p := ⟨w.heap.size, 1, none⟩) (Nat.le_refl _) _⟩
      · obtain rfl : k = N := by omega
        have hg := HG.out
        rw [Nat.sub_self] at hg
        have hps : parseS s = (if r = [] ∧ ¬ (0 < lv ∧ acc.length = 0) ∧ rightS acc = true then some (lv, acc) else none) := by
          rw [HP.out, hg]
          simp [parseGo]
        have HPS := hid hps
        clear hg hps
        have r0 : wr.cell? ⟨w.heap.size, 0, none⟩ = some (.int .i64 0) := by rw [Go.Lib.cell_of_heap HR.out]; rfl
        have r1 : wr.cell? ⟨w.heap.size, 1, none⟩ = some (.slice none 0 0) := by rw [Go.Lib.cell_of_heap HR.out]; rfl
        have r2 : wr.frozen? ⟨w.heap.size, 0, none⟩ = false := Go.Lib.frozen_of_heap HR.out 0
        have r3 : wr.frozen? ⟨w.heap.size, 1, none⟩ = false := Go.Lib.frozen_of_heap HR.out 1
        obtain ⟨A, c, rfl, hcc, hrd, _, _⟩ := Rd.own' hown
        have hlow : ∀ b o, A = some ⟨b, o, none⟩ → b < wr.heap.size := by
          intro b o e
          subst e
          exact own_lt hown b rfl
        have n0 : wr.cell? ⟨w.heap.size + 1, 0, none⟩ = some (.int .i64 (lv : Int)) := by rw [Go.Lib.cell_of_heap HN.out]; rfl
        have n1 : wr.cell? ⟨w.heap.size + 1, 1, none⟩ = some (.slice A acc.length c) := by rw [Go.Lib.cell_of_heap HN.out]; rfl
        have HOWN := hid hown
        clear hal
        by_cases hr : r = []
        · have hrb : (r != []) = false := by rw [hr]; rfl
          by_cases hz : 0 < lv ∧ acc.length = 0
          · have hnone : parseS s = none := by rw [HPS.out, if_neg (fun h => h.2.1 hz)]
            have HNONE := hid hnone
            obtain ⟨hz1, hz2⟩ := hz
            have g4 : decide ((0 : Int) < (lv : Int)) = true := decide_eq_true (by omega)
            have g5 : decide (0 < lv) = true := decide_eq_true hz1
            have g6 : ((acc.length : Int) == 0) = true := beq_iff_eq.2 (by omega)
            have HR0 := hid hr
            clear hnone hz1 hz2 hr
            go_wp2
            refine bodyPost_ret (v := .tuple #[.agg #[.int .i64 0, .slice none 0 0], .bool false]) ((results_cell_tmp rfl _ _ _).trans ?_) rfl ?_
            · go_simp
            exact ⟨.inl ⟨HNONE.out, rfl⟩, ((hB).setCell (p := ⟨w.heap.size, 0, none⟩) (Nat.le_refl _) _).setCell (p := ⟨w.heap.size, 1, none⟩) (Nat.le_refl _) _⟩
          · have hri := right_any A c acc (by omega) wr hlow hrd
            have HRI := hid hri
            have hzb : lv = 0 ∨ acc.length ≠ 0 := by
              rcases Nat.eq_zero_or_pos lv with h | h
              · exact .inl h
              · exact .inr (fun e => hz ⟨h, e⟩)
            have hps2 : parseS s = (if rightS acc = true then some (lv, acc) else none) := by
              rw [HPS.out]
              by_cases h : rightS acc = true
              · rw [if_pos ⟨hr, hz, h⟩, if_pos h]
              · rw [if_neg (fun q => h q.2.2), if_neg h]
            have HPS2 := hid hps2
            have HR0 := hid hr
            have HZ := hid hz
            clear hri hps2 hr hz hlow hrd
            by_cases hl0 : lv = 0
            · have g4 : decide ((0 : Int) < (lv : Int)) = false := decide_eq_false (by omega)
              have g5 : decide (0 < lv) = false := decide_eq_false (by omega)
              have HL0 := hid hl0
              clear hzb hl0
              go_wp2_with fail
              refine HRI.out.mono ?_; rintro e w5 ⟨rfl, hb5⟩
              have hres5 : w5.heap[w.heap.size]? = _ := (hb5.block _ (by omega)).trans HR.out
              have hnod5 : w5.heap[w.heap.size + 1]? = _ := (hb5.block _ (by omega)).trans HN.out
              have s0 : w5.cell? ⟨w.heap.size, 0, none⟩ = some (.int .i64 0) := by rw [Go.Lib.cell_of_heap hres5]; rfl
              have s1 : w5.cell? ⟨w.heap.size, 1, none⟩ = some (.slice none 0 0) := by rw [Go.Lib.cell_of_heap hres5]; rfl
              have s2 : w5.frozen? ⟨w.heap.size, 0, none⟩ = false := Go.Lib.frozen_of_heap hres5 0
              have s3 : w5.frozen? ⟨w.heap.size, 1, none⟩ = false := Go.Lib.frozen_of_heap hres5 1
              have t0 : w5.cell? ⟨w.heap.size + 1, 0, none⟩ = some (.int .i64 (lv : Int)) := by rw [Go.Lib.cell_of_heap hnod5]; rfl
              have t1 : w5.cell? ⟨w.heap.size + 1, 1, none⟩ = some (.slice A acc.length c) := by rw [Go.Lib.cell_of_heap hnod5]; rfl
              have own5 := own_of_below HOWN.out hb5
              have hB5 := below_tr hB hb5
              have HOWN5 := hid own5
              clear hres5 hnod5 r0 r1 r2 r3 n0 n1 own5 hown
              cases hrs : rightS acc with
              | false =>
                have HNONE := hid (show parseS s = none by rw [HPS2.out, if_neg (by rw [hrs]; decide)])
                go_wp2
                refine bodyPost_ret (v := .tuple #[.agg #[.int .i64 0, .slice none 0 0], .bool false]) ((results_cell_tmp rfl _ _ _).trans ?_) rfl ?_
                · go_simp
                exact ⟨.inl ⟨HNONE.out, rfl⟩, ((hB5).setCell (p := ⟨w.heap.size, 0, none⟩) (Nat.le_refl _) _).setCell (p := ⟨w.heap.size, 1, none⟩) (Nat.le_refl _) _⟩
              | true =>
                have HSOME := hid (show parseS s = some (lv, acc) by rw [HPS2.out, if_pos hrs])
                go_wp2
                refine bodyPost_ret (v := .tuple #[.agg #[.int .i64 (lv : Int), .slice A acc.length c], .bool true]) ((results_cell_tmp rfl _ _ _).trans ?_) rfl ?_
                · go_simp
                have hne : ∀ q : Addr, q.block = w.heap.size → (Value.slice A acc.length c).ownBlock ≠ some q.block := by
                  intro q hq e
                  have := own_block_base HOWN5.out _ e
                  omega
                exact ⟨.inr ⟨lv, acc, _, HSOME.out, rfl, own_setCell (own_setCell (own_base HOWN5.out (by omega)) ⟨w.heap.size, 0, none⟩ _ (hne _ rfl)) ⟨w.heap.size, 1, none⟩ _ (hne _ rfl)⟩, (hB5.setCell (p := ⟨w.heap.size, 0, none⟩) (Nat.le_refl _) _).setCell (p := ⟨w.heap.size, 1, none⟩) (Nat.le_refl _) _⟩
            · have hne : acc.length ≠ 0 := by rcases hzb with h | h; exact absurd h hl0; exact h
              have g4 : decide ((0 : Int) < (lv : Int)) = true := decide_eq_true (by omega)
              have g5 : decide (0 < lv) = true := decide_eq_true (by omega)
              have g6 : ((acc.length : Int) == 0) = false := beq_eq_false_iff_ne.2 (by omega)
              have HL0 := hid hl0
              have HNE := hid hne
              clear hzb hl0 hne
              go_wp2_with fail
              refine HRI.out.mono ?_; rintro e w5 ⟨rfl, hb5⟩
              have hres5 : w5.heap[w.heap.size]? = _ := (hb5.block _ (by omega)).trans HR.out
              have hnod5 : w5.heap[w.heap.size + 1]? = _ := (hb5.block _ (by omega)).trans HN.out
              have s0 : w5.cell? ⟨w.heap.size, 0, none⟩ = some (.int .i64 0) := by rw [Go.Lib.cell_of_heap hres5]; rfl
              have s1 : w5.cell? ⟨w.heap.size, 1, none⟩ = some (.slice none 0 0) := by rw [Go.Lib.cell_of_heap hres5]; rfl
              have s2 : w5.frozen? ⟨w.heap.size, 0, none⟩ = false := Go.Lib.frozen_of_heap hres5 0
              have s3 : w5.frozen? ⟨w.heap.size, 1, none⟩ = false := Go.Lib.frozen_of_heap hres5 1
              have t0 : w5.cell? ⟨w.heap.size + 1, 0, none⟩ = some (.int .i64 (lv : Int)) := by rw [Go.Lib.cell_of_heap hnod5]; rfl
              have t1 : w5.cell? ⟨w.heap.size + 1, 1, none⟩ = some (.slice A acc.length c) := by rw [Go.Lib.cell_of_heap hnod5]; rfl
              have own5 := own_of_below HOWN.out hb5
              have hB5 := below_tr hB hb5
              have HOWN5 := hid own5
              clear hres5 hnod5 r0 r1 r2 r3 n0 n1 own5 hown
              cases hrs : rightS acc with
              | false =>
                have HNONE := hid (show parseS s = none by rw [HPS2.out, if_neg (by rw [hrs]; decide)])
                go_wp2
                refine bodyPost_ret (v := .tuple #[.agg #[.int .i64 0, .slice none 0 0], .bool false]) ((results_cell_tmp rfl _ _ _).trans ?_) rfl ?_
                · go_simp
                exact ⟨.inl ⟨HNONE.out, rfl⟩, ((hB5).setCell (p := ⟨w.heap.size, 0, none⟩) (Nat.le_refl _) _).setCell (p := ⟨w.heap.size, 1, none⟩) (Nat.le_refl _) _⟩
              | true =>
                have HSOME := hid (show parseS s = some (lv, acc) by rw [HPS2.out, if_pos hrs])
                go_wp2
                refine bodyPost_ret (v := .tuple #[.agg #[.int .i64 (lv : Int), .slice A acc.length c], .bool true]) ((results_cell_tmp rfl _ _ _).trans ?_) rfl ?_
                · go_simp
                have hne : ∀ q : Addr, q.block = w.heap.size → (Value.slice A acc.length c).ownBlock ≠ some q.block := by
                  intro q hq e
                  have := own_block_base HOWN5.out _ e
                  omega
                exact ⟨.inr ⟨lv, acc, _, HSOME.out, rfl, own_setCell (own_setCell (own_base HOWN5.out (by omega)) ⟨w.heap.size, 0, none⟩ _ (hne _ rfl)) ⟨w.heap.size, 1, none⟩ _ (hne _ rfl)⟩, (hB5.setCell (p := ⟨w.heap.size, 0, none⟩) (Nat.le_refl _) _).setCell (p := ⟨w.heap.size, 1, none⟩) (Nat.le_refl _) _⟩
        · have hnone : parseS s = none := by rw [HPS.out, if_neg (fun h => hr h.1)]
          have HNONE := hid hnone
          have hrb : (r == []) = false := beq_eq_false_iff_ne.2 hr
          have HR0 := hid hr
          clear hnone hr
          go_wp2
          refine bodyPost_ret (v := .tuple #[.agg #[.int .i64 0, .slice none 0 0], .bool false]) ((results_cell_tmp rfl _ _ _).trans ?_) rfl ?_
          · go_simp
          exact ⟨.inl ⟨HNONE.out, rfl⟩, ((hB).setCell (p := ⟨w.heap.size, 0, none⟩) (Nat.le_refl _) _).setCell (p := ⟨w.heap.size, 1, none⟩) (Nat.le_refl _) _⟩
end Go.Proofs.Ytoidbgedpakjmaa.W08
