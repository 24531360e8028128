/- The walks of layer 8: the node below an item. -/
import Derived.Test.YtoidbgedpakjmaaW08n
import Derived.Test.YtoidbgedpakjmaaMixed
import Derived.Test.YtoidbgedpakjmaaTree
set_option linter.unusedVariables false
set_option linter.unusedSimpArgs false
namespace Go.Proofs.Ytoidbgedpakjmaa.W08
open Go.RowKit Go.Shelf Go.Proofs.Ytoidbgedpakjmaa.Lib Go.Proofs.Ytoidbgedpakjmaa.Sha Go.Proofs.Ytoidbgedpakjmaa.T08 Go.Proofs.Ytoidbgedpakjmaa.QTail Go.Proofs.Ytoidbgedpakjmaa.Itms Go.Proofs.Ytoidbgedpakjmaa.WSeq Go.Proofs.Ytoidbgedpakjmaa.Ord Go.Proofs.Ytoidbgedpakjmaa.Tree Go.Proofs.Ytoidbgedpakjmaa.Run
attribute [local go_sem] Str_size Str_toList Str_extract
/-- what prolly.Node.Below answers: the node below an item, or none -/
def BelowOut (B : Nat) (r : Option (Nat × List Itm)) (e : Ending) (W : World) : Prop :=
  (r = none ∧ ∃ (k : Int) (A : Option Addr) (n c : Nat), e = .returned (.tuple #[.agg #[.int .i64 k, .slice A n c], .bool false])) ∨
  ∃ lv l v, r = some (lv, l) ∧ e = .returned (.tuple #[.agg #[.int .i64 (lv : Int), v], .bool true]) ∧ W.ownsRow B 63 2 v l.length (its l)
theorem below_out_at {f : Src} {lv : Nat} {x : Itm} {m : Nat} {ys : List Itm} (h : atS f (x.2.take 32) = some (m, ys)) : belowP f lv x = if standsP lv x m ys then some (m, ys) else none := by
  unfold belowP; rw [h]
set_option maxRecDepth 100000 in
set_option maxHeartbeats 1600000 in
theorem below_any (hb mb n : Nat) (f : Src) (hf : ∀ k s, f k = some s → s.length ≤ 1000000000) (lv : Nat) (A : Option Addr) (N c : Nat) (x : Itm) (hlv : lv ≤ 1000000) (hx : x.2.length = 40) (w : World) (hH : HeapT w hb mb n f) :
    Calls Try.prog 46 #[.agg #[.int .i64 (lv : Int), .slice A N c], .iface 31 (.pointer (some ⟨hb, 0, none⟩)), .agg #[.string (Str x.1), .string (Str x.2)]] w fun e w' => BelowOut w.heap.size (belowP f lv x) e w' ∧ Below w.heap.size w w' := by
  obtain ⟨w3, hw3⟩ : ∃ w3, w3 = ((w.alloc (Obj.cells #[.int .i64 (lv : Int), .slice A N c] 56)).alloc (Obj.cells #[.string (Str x.1), .string (Str x.2)] 63)).alloc (Obj.cells #[.int .i64 0, .slice none 0 0] 56) := ⟨_, rfl⟩
  have hb3 : Below w.heap.size w w3 := by rw [hw3]; exact below_al (below_al (below_al (below_rf w) _) _) _
  have z3 : w3.heap.size = w.heap.size + 3 := by rw [hw3]; simp
  have hA : w3.heap[w.heap.size]? = some (Obj.cells #[.int .i64 (lv : Int), .slice A N c] 56 (0, 0)) := by
    rw [hw3]; exact ((below_al (below_al (below_rf _) _) _).block w.heap.size (by simp)).trans (heap_new _ _)
  have hX : w3.heap[w.heap.size + 1]? = some (Obj.cells #[.string (Str x.1), .string (Str x.2)] 63 (0, 0)) := by
    rw [hw3]; exact ((below_al (below_rf _) _).block (w.heap.size + 1) (by simp)).trans (heap_new' _ _ (by simp))
  have e0 : w3.cell? ⟨w.heap.size, 0, none⟩ = some (.int .i64 (lv : Int)) := by rw [Go.Lib.cell_of_heap hA]; rfl
  have e1 : w3.cell? ⟨w.heap.size + 1, 0, none⟩ = some (.string (Str x.1)) := by rw [Go.Lib.cell_of_heap hX]; rfl
  have e2 : w3.cell? ⟨w.heap.size + 1, 1, none⟩ = some (.string (Str x.2)) := by rw [Go.Lib.cell_of_heap hX]; rfl
  have hres : w3.heap[w.heap.size + 2]? = some (Obj.cells #[.int .i64 0, .slice none 0 0] 56 (0, 0)) := by
    rw [hw3]; exact heap_new' _ _ (by simp)
  have HAT := hid (at_any hb mb n f hf (x.2.take 32) (by rw [List.length_take]; omega) w3 (hH.below hb3))
  have HB3 := hid hb3
  have HE0 := hid e0
  have HE1 := hid e1
  have HE2 := hid e2
  have HRES := hid hres
  have HZ3 := hid z3
  clear hb3 e0 e1 e2 hres z3 hA hX
  go_enter Try.func46, Try.ntmps46
  go_wp2_with fail
  rw [← hw3]
  clear hw3
  refine HAT.out.mono ?_; rintro e w4 ⟨ho, hb4⟩
  rcases ho with ⟨h1, rfl⟩ | ⟨m, ys, v, h1, rfl, hown⟩
  · have hbn : belowP f lv x = none := by unfold belowP; rw [h1]
    have HBN := hid hbn
    obtain ⟨w5, hw5⟩ : ∃ w5, w5 = w4.alloc (Obj.cells #[.int .i64 0, .slice none 0 0] 56) := ⟨_, rfl⟩
    have hb5 : Below w4.heap.size w4 w5 := by rw [hw5]; exact below_al (below_rf w4) _
    have hnod : w5.heap[w4.heap.size]? = some (Obj.cells #[.int .i64 0, .slice none 0 0] 56 (0, 0)) := by rw [hw5]; exact heap_new _ _
    have hres5 := (hb5.block (w.heap.size + 2) (by have := hb4.size; have := HZ3.out; omega)).trans ((hb4.block (w.heap.size + 2) (by have := HZ3.out; omega)).trans HRES.out)
    have zz : w4.heap.size ≠ w.heap.size + 2 := by have := hb4.size; have := HZ3.out; omega
    have n0 : ∀ W, Mv (fun k => k = w.heap.size + 2) w5 W → W.cell? ⟨w4.heap.size, 0, none⟩ = some (.int .i64 0) := fun W h => h.cell (by rw [Go.Lib.cell_of_heap hnod]; rfl) (by show ¬ w4.heap.size = w.heap.size + 2; omega)
    have n1 : ∀ W, Mv (fun k => k = w.heap.size + 2) w5 W → W.cell? ⟨w4.heap.size, 1, none⟩ = some (.slice none 0 0) := fun W h => h.cell (by rw [Go.Lib.cell_of_heap hnod]; rfl) (by show ¬ w4.heap.size = w.heap.size + 2; omega)
    have s0 : ∀ W, CellD w5 (w.heap.size + 2) 56 (.int .i64 0) (.slice none 0 0) (.int .i64 0) (.slice none 0 0) false W → W.cell? ⟨w.heap.size + 2, 0, none⟩ = some (.int .i64 0) := fun W h => h.gc0
    have s1 : ∀ W, CellD w5 (w.heap.size + 2) 56 (.int .i64 0) (.slice none 0 0) (.int .i64 0) (.slice none 0 0) false W → W.cell? ⟨w.heap.size + 2, 1, none⟩ = some (.slice none 0 0) := fun W h => h.gc1
    have s2 : ∀ W, CellD w5 (w.heap.size + 2) 56 (.int .i64 0) (.slice none 0 0) (.int .i64 0) (.slice none 0 0) false W → W.frozen? ⟨w.heap.size + 2, 0, none⟩ = false := fun W h => h.fz 0
    have s3 : ∀ W, CellD w5 (w.heap.size + 2) 56 (.int .i64 0) (.slice none 0 0) (.int .i64 0) (.slice none 0 0) false W → W.frozen? ⟨w.heap.size + 2, 1, none⟩ = false := fun W h => h.fz 1
    have HST := hid (fun W (h : CellD w5 (w.heap.size + 2) 56 (.int .i64 0) (.slice none 0 0) (.int .i64 0) (.slice none 0 0) false W) => h.set)
    have HCS := hid (CellD.start (d0 := .int .i64 0) (d1 := .slice none 0 0) hres5)
    have HB5 := hid (below_tr (below_tr HB3.out hb4) hb5)
    have HZ4 := hid hb4.size
    clear h1 hbn hb4 hb5 hnod hres5 zz
    go_wp2
    rw [← hw5]
    clear hw5
    refine wp_region_mixed (CellD w5 (w.heap.size + 2) 56 (.int .i64 0) (.slice none 0 0) (.int .i64 0) (.slice none 0 0)) 9 (by decide) (by kernel_rfl) (by kernel_rfl) HCS.out ?_
    repeat (
      refine wpQuietM_step (fun K hK => ?_)
      first
        | (refine mx_skip (by rfl) (by decide) (hK _ ?_)
           clear hK K)
        | (refine mx_read (by rfl) (by decide) ?_
           apply Exists.intro
           refine ⟨fun b W hW => ?_, hK _ ?_⟩
           (have hWm := hW.1; go_simp; first | rfl | (rw [if_neg (by omega)]) | (rw [if_pos (by omega)]))
           clear hK K)
        | (refine mx_store (by rfl) (by decide) ⟨fun W hW => ?_, hK _ ?_⟩
           have hsto := HST.out W hW
           (refine ⟨_, ?_, hsto⟩; clear hsto; go_simp)
           clear hK K)
      go_simp)
    refine wpQuietM_nil ?_
    intro W hW
    have r0 := hW.gd0
    have r1 := hW.gd1
    have HW := hid hW
    clear n0 n1 s0 s1 s2 s3 hW
    go_wp2
    refine bodyPost_ret (v := .tuple #[.agg #[.int .i64 0, .slice none 0 0], .bool false]) ((results_cell_tmp rfl _ _ _).trans ?_) rfl ?_
    · go_simp
    exact ⟨.inl ⟨HBN.out, 0, none, 0, 0, rfl⟩, HB5.out.trans (HW.out.1.below (n := w.heap.size) (by have := HZ4.out; have := HB5.out.size; omega) (fun k hk e => by omega))⟩
  · obtain ⟨A', c', rfl, hcc, hrd, _, _⟩ := Rd.own' hown
    have hfa := at_facts h1
    obtain ⟨sb, hsb⟩ : ∃ sb, sb = standsP lv x m ys := ⟨_, rfl⟩
    have hbn : belowP f lv x = if sb = true then some (m, ys) else none := by rw [hsb]; exact below_out_at h1
    have HBN := hid hbn
    obtain ⟨w5, hw5⟩ : ∃ w5, w5 = w4.alloc (Obj.cells #[.int .i64 (m : Int), .slice A' ys.length c'] 56) := ⟨_, rfl⟩
    have hb5 : Below w4.heap.size w4 w5 := by rw [hw5]; exact below_al (below_rf w4) _
    have z5 : w5.heap.size = w4.heap.size + 1 := by rw [hw5]; simp
    have z4 := hb4.size
    have hnod : w5.heap[w4.heap.size]? = some (Obj.cells #[.int .i64 (m : Int), .slice A' ys.length c'] 56 (0, 0)) := by rw [hw5]; exact heap_new _ _
    have hres5 := (hb5.block (w.heap.size + 2) (by have := HZ3.out; omega)).trans ((hb4.block (w.heap.size + 2) (by have := HZ3.out; omega)).trans HRES.out)
    have hb35 : Below w3.heap.size w3 w5 := below_tr hb4 hb5
    have zz := HZ3.out
    have n0 : ∀ W, Mv (fun k => k = w.heap.size + 2) w5 W → W.cell? ⟨w4.heap.size, 0, none⟩ = some (.int .i64 (m : Int)) := fun W h => h.cell (by rw [Go.Lib.cell_of_heap hnod]; rfl) (by show ¬ w4.heap.size = w.heap.size + 2; omega)
    have n1 : ∀ W, Mv (fun k => k = w.heap.size + 2) w5 W → W.cell? ⟨w4.heap.size, 1, none⟩ = some (.slice A' ys.length c') := fun W h => h.cell (by rw [Go.Lib.cell_of_heap hnod]; rfl) (by show ¬ w4.heap.size = w.heap.size + 2; omega)
    have n2 : ∀ W, Mv (fun k => k = w.heap.size + 2) w5 W → W.cell? ⟨w.heap.size, 0, none⟩ = some (.int .i64 (lv : Int)) := fun W h => h.cell ((hb35.cell (p := ⟨w.heap.size, 0, none⟩) (by show w.heap.size < _; omega)).trans HE0.out) (by show ¬ w.heap.size = w.heap.size + 2; omega)
    have n3 : ∀ W, Mv (fun k => k = w.heap.size + 2) w5 W → W.cell? ⟨w.heap.size + 1, 0, none⟩ = some (.string (Str x.1)) := fun W h => h.cell ((hb35.cell (p := ⟨w.heap.size + 1, 0, none⟩) (by show w.heap.size + 1 < _; omega)).trans HE1.out) (by show ¬ w.heap.size + 1 = w.heap.size + 2; omega)
    have n4 : ∀ W, Mv (fun k => k = w.heap.size + 2) w5 W → W.cell? ⟨w.heap.size + 1, 1, none⟩ = some (.string (Str x.2)) := fun W h => h.cell ((hb35.cell (p := ⟨w.heap.size + 1, 1, none⟩) (by show w.heap.size + 1 < _; omega)).trans HE2.out) (by show ¬ w.heap.size + 1 = w.heap.size + 2; omega)
    have s0 : ∀ W, CellD w5 (w.heap.size + 2) 56 (.int .i64 0) (.slice none 0 0) (.int .i64 (m : Int)) (.slice A' ys.length c') false W → W.cell? ⟨w.heap.size + 2, 0, none⟩ = some (.int .i64 0) := fun W h => h.gc0
    have s1 : ∀ W, CellD w5 (w.heap.size + 2) 56 (.int .i64 0) (.slice none 0 0) (.int .i64 (m : Int)) (.slice A' ys.length c') false W → W.cell? ⟨w.heap.size + 2, 1, none⟩ = some (.slice none 0 0) := fun W h => h.gc1
    have s2 : ∀ W, CellD w5 (w.heap.size + 2) 56 (.int .i64 0) (.slice none 0 0) (.int .i64 (m : Int)) (.slice A' ys.length c') false W → W.frozen? ⟨w.heap.size + 2, 0, none⟩ = false := fun W h => h.fz 0
    have s3 : ∀ W, CellD w5 (w.heap.size + 2) 56 (.int .i64 0) (.slice none 0 0) (.int .i64 (m : Int)) (.slice A' ys.length c') false W → W.frozen? ⟨w.heap.size + 2, 1, none⟩ = false := fun W h => h.fz 1
    have HST := hid (fun W (h : CellD w5 (w.heap.size + 2) 56 (.int .i64 0) (.slice none 0 0) (.int .i64 (m : Int)) (.slice A' ys.length c') false W) => h.set)
    have HCS := hid (CellD.start (d0 := .int .i64 (m : Int)) (d1 := .slice A' ys.length c') hres5)
    have hst : ∀ b W, CellD w5 (w.heap.size + 2) 56 (.int .i64 0) (.slice none 0 0) (.int .i64 (m : Int)) (.slice A' ys.length c') b W → Calls Try.prog 66 #[.agg #[.int .i64 (m : Int), .slice A' ys.length c'], .int .i64 (lv : Int), .agg #[.string (Str x.1), .string (Str x.2)]] W fun e w' => e = .returned (.bool sb) ∧ Below W.heap.size W w' := fun b W hW => by
      rw [hsb]
      exact stands_any m lv x ys A' c' (by omega) hlv (by omega) hx (fun h0 i hi => okVal_len (hfa.2.2.1 _ (by rw [itm_eq ys i hi]; exact List.getElem_mem hi)) h0) W (hW.rd (hrd.below hb5) (fun b o e => by
        subst e
        have := own_block_base hown b rfl
        omega))
    have HOWN := hid (own_of_below hown hb5)
    have HB5 := hid (below_tr HB3.out hb35)
    clear h1 hbn hb4 hb5 hnod hres5 hb35 hown hrd hfa hsb z5 z4 zz
    go_wp2
    rw [← hw5]
    clear hw5
    refine wp_region_mixed (CellD w5 (w.heap.size + 2) 56 (.int .i64 0) (.slice none 0 0) (.int .i64 (m : Int)) (.slice A' ys.length c')) 9 (by decide) (by kernel_rfl) (by kernel_rfl) HCS.out ?_
    repeat (
      refine wpQuietM_step (fun K hK => ?_)
      first
        | (refine mx_skip (by rfl) (by decide) (hK _ ?_)
           clear hK K)
        | (refine mx_read (by rfl) (by decide) ?_
           apply Exists.intro
           refine ⟨fun b W hW => ?_, hK _ ?_⟩
           (have hWm := hW.1; go_simp; first | rfl | (rw [if_neg (by omega)]) | (rw [if_pos (by omega)]))
           clear hK K)
        | (refine mx_store (by rfl) (by decide) ⟨fun W hW => ?_, hK _ ?_⟩
           have hsto := HST.out W hW
           (refine ⟨_, ?_, hsto⟩; clear hsto; go_simp)
           clear hK K)
        | (refine mx_call CellD.stab (by rfl) (by decide) ?_
           apply Exists.intro
           apply Exists.intro
           refine ⟨fun b W hW => ?_, ?_⟩
           (have hWm := hW.1; go_simp; exact ⟨rfl, rfl⟩)
           apply Exists.intro
           refine ⟨fun b W hW => ?_, hK _ ?_⟩
           (with_reducible exact (hst b W hW))
           clear hK K)
      go_simp)
    refine wpQuietM_nil ?_
    intro W hW
    have r0 := hW.gd0
    have r1 := hW.gd1
    have HW := hid hW
    clear n0 n1 n2 n3 n4 s0 s1 s2 s3 hst hW
    go_wp2
    refine bodyPost_ret (v := .tuple #[.agg #[.int .i64 (m : Int), .slice A' ys.length c'], .bool sb]) ((results_cell_tmp rfl _ _ _).trans ?_) rfl ?_
    · go_simp
    refine ⟨?_, HB5.out.trans (HW.out.1.below (n := w.heap.size) (by have := HB5.out.size; omega) (fun k hk e => by omega))⟩
    have hoW : W.ownsRow w.heap.size 63 2 (.slice A' ys.length c') ys.length (its ys) := own_mv (own_base HOWN.out (by have := HZ3.out; omega)) HW.out.1 (fun k hk e => by
      have := own_block_base HOWN.out _ hk
      have := HZ3.out
      omega)
    cases sb with
    | true => exact .inr ⟨m, ys, _, HBN.out, rfl, hoW⟩
    | false => exact .inl ⟨HBN.out, _, _, _, _, rfl⟩
end Go.Proofs.Ytoidbgedpakjmaa.W08
