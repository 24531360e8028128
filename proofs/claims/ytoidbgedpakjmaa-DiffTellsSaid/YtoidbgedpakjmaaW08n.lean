/- The walks of layer 8: what stands below an item. -/
import Derived.Test.YtoidbgedpakjmaaTree
import Derived.Test.YtoidbgedpakjmaaW08q
import Derived.Test.YtoidbgedpakjmaaMild
set_option linter.unusedVariables false
set_option linter.unusedSimpArgs false
namespace Go.Proofs.Ytoidbgedpakjmaa.W08
open Go.RowKit Go.Shelf Go.Proofs.Ytoidbgedpakjmaa.Lib Go.Proofs.Ytoidbgedpakjmaa.Sha Go.Proofs.Ytoidbgedpakjmaa.T08 Go.Proofs.Ytoidbgedpakjmaa.QTail Go.Proofs.Ytoidbgedpakjmaa.Itms Go.Proofs.Ytoidbgedpakjmaa.WSeq Go.Proofs.Ytoidbgedpakjmaa.Ord Go.Proofs.Ytoidbgedpakjmaa.Tree
attribute [local go_sem] Str_size Str_toList Str_extract
theorem last_itm (ys : List Itm) : lastKey ys = (itm ys (ys.length - 1)).1 := rfl
set_option maxRecDepth 100000 in
set_option maxHeartbeats 400000 in
theorem stands_any (m lv : Nat) (x : Itm) (ys : List Itm) (A : Option Addr) (c : Nat) (hm : m ≤ 1000000) (hlv : lv ≤ 1000000) (hl : ys.length ≤ 1000000000) (hx : x.2.length = 40) (hs : 0 < m → ∀ i, i < ys.length → (itm ys i).2.length = 40) (w : World) (hrd : Rd w A (its ys)) :
    Calls Try.prog 66 #[.agg #[.int .i64 (m : Int), .slice A ys.length c], .int .i64 (lv : Int), .agg #[.string (Str x.1), .string (Str x.2)]] w fun e w' => e = .returned (.bool (standsP lv x m ys)) ∧ Below w.heap.size w w' := by
  obtain ⟨w1, hw1⟩ : ∃ w1, w1 = (w.alloc (Obj.cells #[.int .i64 (m : Int), .slice A ys.length c] 56)).alloc (Obj.cells #[.string (Str x.1), .string (Str x.2)] 63) := ⟨_, rfl⟩
  have hb1 : Below w.heap.size w w1 := by rw [hw1]; exact below_al (below_al (below_rf w) _) _
  have z1 : w1.heap.size = w.heap.size + 2 := by rw [hw1]; simp
  have e0 : w1.cell? ⟨w.heap.size, 0, none⟩ = some (.int .i64 (m : Int)) := by rw [hw1]; simp [World.cell?_alloc_at]
  have e1 : w1.cell? ⟨w.heap.size, 1, none⟩ = some (.slice A ys.length c) := by rw [hw1]; simp
  have e2 : w1.cell? ⟨w.heap.size + 1, 0, none⟩ = some (.string (Str x.1)) := by rw [hw1]; simp
  have e3 : w1.cell? ⟨w.heap.size + 1, 1, none⟩ = some (.string (Str x.2)) := by rw [hw1]; simp
  have n0 : ∀ W, Below w1.heap.size w1 W → W.cell? ⟨w.heap.size, 0, none⟩ = some (.int .i64 (m : Int)) := fun W hW => (hW.cell (by show w.heap.size < _; omega)).trans e0
  have n1 : ∀ W, Below w1.heap.size w1 W → W.cell? ⟨w.heap.size, 1, none⟩ = some (.slice A ys.length c) := fun W hW => (hW.cell (by show w.heap.size < _; omega)).trans e1
  have n2 : ∀ W, Below w1.heap.size w1 W → W.cell? ⟨w.heap.size + 1, 0, none⟩ = some (.string (Str x.1)) := fun W hW => (hW.cell (by show w.heap.size + 1 < _; omega)).trans e2
  have n3 : ∀ W, Below w1.heap.size w1 W → W.cell? ⟨w.heap.size + 1, 1, none⟩ = some (.string (Str x.2)) := fun W hW => (hW.cell (by show w.heap.size + 1 < _; omega)).trans e3
  have hcnt : ∀ W, Below w1.heap.size w1 W → Calls Try.prog 63 #[.agg #[.int .i64 (m : Int), .slice A ys.length c]] W fun e w' => e = .returned (.int .u64 (countS m ys : Nat)) ∧ Below w1.heap.size w1 w' := fun W hW =>
    (count_any m ys A c W hl (hrd.below (hb1.trans (hW.mono hb1.size))) hs).mono fun e w' h => ⟨h.1, hW.trans (h.2.mono hW.size)⟩
  have htold : ∀ W, Below w1.heap.size w1 W → Calls Try.prog 75 #[.string (Str x.2)] W fun e w' => e = .returned (.int .u64 (told x.2 : Nat)) ∧ Below w1.heap.size w1 w' := fun W hW =>
    (told_any x.2 W hx).mono fun e w' h => ⟨h.1, h.2 ▸ hW⟩
  have hlast : 0 < ys.length → ∃ b o, A = some ⟨b, o, none⟩ ∧ ∀ W, Below w1.heap.size w1 W → W.cell? ⟨b, o + (ys.length - 1) * 2, none⟩ = some (.string (Str (lastKey ys))) := fun h => by
    obtain ⟨b, o, rfl, h1, _⟩ := rd_itm hrd (j := ys.length - 1) (by omega)
    exact ⟨b, o, rfl, fun W hW => by
      have hB := hb1.trans (hW.mono hb1.size)
      exact (hB.cell (World.block_lt_of_cell? _ _ h1)).trans h1⟩
  have HB1 := hid hb1
  have HST : Hid (standsP lv x m ys = (decide (m + 1 = lv) && decide (0 < ys.length) && (lastKey ys == x.1) && decide (countS m ys = told x.2))) := hid rfl
  have hwr : IntKind.i64.wrap ((lv : Int) - 1) = (lv : Int) - 1 := by rw [IntKind.wrap_i64]; omega
  have HZ := hid z1
  clear e0 e1 e2 e3 z1 hb1
  go_enter Try.func66, Try.ntmps66
  go_wp2
  rw [← hw1]
  clear hw1
  by_cases c1 : m + 1 = lv
  · have c1' : ((m : Int) == (lv : Int) - 1) = true := beq_iff_eq.2 (by omega)
    by_cases c2 : 0 < ys.length
    · obtain ⟨b, o, rfl, hlast2⟩ := hlast c2
      have c2' : decide ((0 : Int) < (ys.length : Int)) = true := decide_eq_true (by omega)
      have hwl : IntKind.i64.wrap ((ys.length : Int) - 1) = (ys.length : Int) - 1 := by rw [IntKind.wrap_i64]; omega
      have hnn : ((ys.length : Int) - 1).toNat = ys.length - 1 := by omega
      have hn0 : (0 : Int) ≤ (ys.length : Int) - 1 := by omega
      have hn1 : (ys.length : Int) - 1 < (ys.length : Int) := by omega
      obtain ⟨lk, hlk⟩ : ∃ lk, lk = lastKey ys := ⟨_, rfl⟩
      rw [← hlk] at hlast2 HST
      clear hlk
      by_cases c3 : lk = x.1
      · subst c3
        have c3' : (x.1 == x.1) = true := beq_self_eq_true _
        have hsp : Hid (standsP lv x m ys = decide (countS m ys = told x.2)) := hid (by rw [HST.out, decide_eq_true c1, decide_eq_true c2, beq_self_eq_true]; simp)
        clear hlast
        refine wp_region_mild w1.heap.size (by kernel_rfl) (by kernel_rfl) ?_
        repeat (
          refine wpQuiet_step (fun K hK => ?_)
          first
            | (refine mild_skip (by rfl) (hK _ ?_)
               clear hK K)
            | (refine mild_read (by rfl) ?_
               apply Exists.intro
               refine ⟨fun W hW => ?_, hK _ ?_⟩
               (go_simp; first | rfl | (rw [if_neg (by omega)]) | (rw [if_pos (by omega)]))
               clear hK K)
            | (refine mild_call (by rfl) ?_
               apply Exists.intro
               apply Exists.intro
               refine ⟨fun W hW => ?_, ?_⟩
               (go_simp; exact ⟨rfl, rfl⟩)
               apply Exists.intro
               refine ⟨fun W hW => ?_, hK _ ?_⟩
               (first | with_reducible exact (hcnt W hW) | with_reducible exact (htold W hW))
               clear hK K)
          go_simp)
        refine wpQuiet_nil ?_
        intro W hW
        go_wp2
        go_ret
        refine ⟨?_, HB1.out.trans (hW.mono HB1.out.size)⟩
        rw [hsp.out]
        show Ending.returned (.bool (((countS m ys : Nat) : Int) == ((told x.2 : Nat) : Int))) = _
        by_cases h9 : countS m ys = told x.2
        · rw [decide_eq_true h9, h9, beq_self_eq_true]
        · rw [decide_eq_false h9, beq_eq_false_iff_ne.2 (by omega)]
      · have c3' : (lk == x.1) = false := beq_eq_false_iff_ne.2 c3
        have f0 := n0 w1 (below_rf w1)
        have f1 := n1 w1 (below_rf w1)
        have f2 := n2 w1 (below_rf w1)
        have f4 := hlast2 w1 (below_rf w1)
        clear n0 n1 n2 n3 hcnt htold hlast hlast2 c3
        go_quiet (fail)
        go_wp2
        go_ret
        exact ⟨by rw [HST.out, c3', Bool.and_false, Bool.false_and]; rfl, below_drewN HB1.out _⟩
    · have c2' : decide ((0 : Int) < (ys.length : Int)) = false := decide_eq_false (by omega)
      have hz : ys.length = 0 := by omega
      have f0 := n0 w1 (below_rf w1)
      have f1 := n1 w1 (below_rf w1)
      have HZ0 := hid hz
      clear n0 n1 n2 n3 hcnt htold hlast hz
      go_quiet (fail)
      go_wp2
      go_ret
      exact ⟨by rw [HST.out, decide_eq_false c2, Bool.and_false, Bool.false_and, Bool.false_and]; rfl, below_drewN HB1.out _⟩
  · have c1' : ((m : Int) == (lv : Int) - 1) = false := beq_eq_false_iff_ne.2 (by omega)
    have f0 := n0 w1 (below_rf w1)
    have f1 := n1 w1 (below_rf w1)
    have N0 := hid n0
    clear n0 n1 n2 n3 hcnt htold hlast
    go_quiet (fail)
    go_wp2
    go_ret
    exact ⟨by rw [HST.out, decide_eq_false c1]; rfl, below_drewN HB1.out _⟩
end Go.Proofs.Ytoidbgedpakjmaa.W08
