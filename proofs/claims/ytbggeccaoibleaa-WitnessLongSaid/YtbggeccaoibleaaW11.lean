/- The walks of layer 11: nodes of texts, where a way goes on, what a node shows. -/
import Derived.Test.YtbggeccaoibleaaWit
import Derived.Test.YtbggeccaoibleaaW08m
set_option linter.unusedVariables false
set_option linter.unusedSimpArgs false
namespace Go.Proofs.Ytbggeccaoibleaa.W11
open Go Go.RowKit Go.Proofs.Ytbggeccaoibleaa.Lib Go.Proofs.Ytbggeccaoibleaa.Sha Go.Proofs.Ytbggeccaoibleaa.T08 Go.Proofs.Ytbggeccaoibleaa.QTail Go.Proofs.Ytbggeccaoibleaa.Itms Go.Proofs.Ytbggeccaoibleaa.WSeq Go.Proofs.Ytbggeccaoibleaa.Ord Go.Proofs.Ytbggeccaoibleaa.Tree Go.Proofs.Ytbggeccaoibleaa.W08 Go.Proofs.Ytbggeccaoibleaa.Wit
open Go.Proofs.Ytbggeccaoibleaa.Run hiding round_any yield_any
attribute [local go_sem] Str_size Str_toList Str_extract
def ParseXOut (B : Nat) (r : Option (Nat × List Itm)) (e : Ending) (W : World) : Prop :=
  (r = none ∧ e = .returned (.tuple #[.int .i64 0, .slice none 0 0, .bool false])) ∨
  ∃ lv l v, r = some (lv, l) ∧ e = .returned (.tuple #[.int .i64 (lv : Int), v, .bool true]) ∧ W.ownsRow B 75 2 v l.length (its l)
set_option maxRecDepth 100000 in
theorem parsex_any (s : List UInt8) (hs : s.length ≤ 1000000000) (w : World) :
    Calls Try.prog 93 #[.string (Str s)] w fun e w' => ParseXOut w.heap.size (parseS s) e w' ∧ Below w.heap.size w w' := by
  go_enter Try.func93, Try.ntmps93
  go_wp2_with fail
  refine (parse_any s w hs).mono ?_; rintro e w1 ⟨ho, hb1⟩
  rcases ho with ⟨hn, rfl⟩ | ⟨lv', P', v, hp, rfl, hown⟩
  · have HN := hid hn
    have HB := hid (below_tr hb1 (below_al (below_rf w1) (Obj.cells #[.int .i64 0, .slice none 0 0] 79)))
    clear hn hb1
    go_wp2
    go_quiet (fail)
    go_wp2
    go_ret3
    exact ⟨.inl ⟨HN.out, rfl⟩, below_drewN HB.out _⟩
  · obtain ⟨Av, cv, rfl⟩ := own_succ hown
    have HP := hid hp
    have hal : Below w1.heap.size w1 (w1.alloc (Obj.cells #[.int .i64 (lv' : Int), .slice Av P'.length cv] 79)) := below_al (below_rf w1) _
    have HO := hid (own_of_below hown hal)
    have HB := hid (below_tr hb1 hal)
    clear hown hb1 hal hp
    go_wp2
    go_quiet (fail)
    go_wp2
    go_ret3
    exact ⟨.inr ⟨_, _, _, HP.out, rfl, HO.out⟩, below_drewN HB.out _⟩
/-- a pointer to an item, or none -/
def ItemAt (W : World) (v : Value) (x : Option Itm) : Prop := match x with
  | none => v = .pointer none
  | some y => ∃ b o, v = .pointer (some ⟨b, o, none⟩) ∧ W.cell? ⟨b, o, none⟩ = some (.string (Str y.1)) ∧ W.cell? ⟨b, o + 1, none⟩ = some (.string (Str y.2))
set_option maxRecDepth 100000 in
set_option maxHeartbeats 1600000 in
theorem node_any (s : List UInt8) (hs : s.length ≤ 1000000000) (lv : Nat) (hlv : lv ≤ 1000000) (v : Value) (x : Option Itm) (hx : ∀ y, x = some y → y.2.length = 40) (w : World) (hi : ItemAt w v x) :
    Calls Try.prog 90 #[.string (Str s), .int .i64 (lv : Int), v] w fun e w' => BelowOut w.heap.size (nodeS s lv x) e w' ∧ Below w.heap.size w w' := by
  obtain ⟨w1, hw1⟩ : ∃ w1, w1 = w.alloc (Obj.cells #[.int .i64 0, .slice none 0 0] 79) := ⟨_, rfl⟩
  have hb1 : Below w.heap.size w w1 := by rw [hw1]; exact below_al (below_rf w) _
  have z1 : w1.heap.size = w.heap.size + 1 := by rw [hw1]; simp
  have hres : w1.heap[w.heap.size]? = some (Obj.cells #[.int .i64 0, .slice none 0 0] 79 (0, 0)) := by rw [hw1]; exact heap_new _ _
  have HPX := hid (parsex_any s hs w1)
  have HB1 := hid hb1
  have HZ1 := hid z1
  have HRES := hid hres
  clear hb1 z1 hres
  go_enter Try.func90, Try.ntmps90
  go_wp2_with fail
  rw [← hw1]
  clear hw1
  refine HPX.out.mono ?_; rintro e w2 ⟨ho, hb2⟩
  rcases ho with ⟨hn, rfl⟩ | ⟨m, ys, v2, hp, rfl, hown⟩
  · have hns : nodeS s lv x = none := by unfold nodeS; rw [hn]
    have HNS := hid hns
    obtain ⟨w5, hw5⟩ : ∃ w5, w5 = w2.alloc (Obj.cells #[.int .i64 0, .slice none 0 0] 79) := ⟨_, rfl⟩
    have hb5 : Below w2.heap.size w2 w5 := by rw [hw5]; exact below_al (below_rf w2) _
    have hnod : w5.heap[w2.heap.size]? = some (Obj.cells #[.int .i64 0, .slice none 0 0] 79 (0, 0)) := by rw [hw5]; exact heap_new _ _
    have hres5 := (hb5.block w.heap.size (by have := hb2.size; have := HZ1.out; omega)).trans ((hb2.block w.heap.size (by have := HZ1.out; omega)).trans HRES.out)
    have zz : w2.heap.size ≠ w.heap.size := by have := hb2.size; have := HZ1.out; omega
    have s0 : ∀ W, CellD w5 (w.heap.size) 79 (.int .i64 0) (.slice none 0 0) (.int .i64 0) (.slice none 0 0) false W → W.cell? ⟨w.heap.size, 0, none⟩ = some (.int .i64 0) := fun W h => h.gc0
    have s1 : ∀ W, CellD w5 (w.heap.size) 79 (.int .i64 0) (.slice none 0 0) (.int .i64 0) (.slice none 0 0) false W → W.cell? ⟨w.heap.size, 1, none⟩ = some (.slice none 0 0) := fun W h => h.gc1
    have s2 : ∀ W, CellD w5 (w.heap.size) 79 (.int .i64 0) (.slice none 0 0) (.int .i64 0) (.slice none 0 0) false W → W.frozen? ⟨w.heap.size, 0, none⟩ = false := fun W h => h.fz 0
    have s3 : ∀ W, CellD w5 (w.heap.size) 79 (.int .i64 0) (.slice none 0 0) (.int .i64 0) (.slice none 0 0) false W → W.frozen? ⟨w.heap.size, 1, none⟩ = false := fun W h => h.fz 1
    have HST := hid (fun W (h : CellD w5 (w.heap.size) 79 (.int .i64 0) (.slice none 0 0) (.int .i64 0) (.slice none 0 0) false W) => h.set)
    have HCS := hid (CellD.start (d0 := .int .i64 0) (d1 := .slice none 0 0) hres5)
    have n0 : ∀ W, Mv (fun k => k = w.heap.size) w5 W → W.cell? ⟨w2.heap.size, 0, none⟩ = some (.int .i64 0) := fun W h => h.cell (by rw [Go.Lib.cell_of_heap hnod]; rfl) zz
    have n1 : ∀ W, Mv (fun k => k = w.heap.size) w5 W → W.cell? ⟨w2.heap.size, 1, none⟩ = some (.slice none 0 0) := fun W h => h.cell (by rw [Go.Lib.cell_of_heap hnod]; rfl) zz
    have HB5 := hid (below_tr (below_tr HB1.out hb2) hb5)
    clear hn hns hb2 hb5 hnod hres5 zz hi hx
    go_wp2
    rw [← hw5]
    clear hw5
    refine wp_region_mixed (CellD w5 w.heap.size 79 (.int .i64 0) (.slice none 0 0) (.int .i64 0) (.slice none 0 0)) 14 (by decide) (by kernel_rfl) (by kernel_rfl) HCS.out ?_
    repeat (
      refine wpQuietM_step (fun K hK => ?_)
      first
        | (refine mx_skip (by rfl) (by decide) (hK _ ?_)
           clear hK K)
        | (refine mx_read (by rfl) (by decide) ?_
           apply Exists.intro
           refine ⟨fun b W hW => ?_, hK _ ?_⟩
           (have hWm := hW.1; go_simp; first | rfl | (rw [if_neg (by omega)]) | (rw [if_pos (by omega)]))
           clear hK K)
        | (refine mx_store (by rfl) (by decide) ⟨fun W hW => ?_, hK _ ?_⟩
           have hsto := HST.out W hW
           (refine ⟨_, ?_, hsto⟩; clear hsto; go_simp)
           clear hK K)
      go_simp)
    refine wpQuietM_nil ?_
    intro W hW
    have r0 := hW.gd0
    have r1 := hW.gd1
    have HW := hid hW
    clear n0 n1 s0 s1 s2 s3 hW
    go_wp2
    refine bodyPost_ret (v := .tuple #[.agg #[.int .i64 0, .slice none 0 0], .bool false]) ((results_cell_tmp rfl _ _ _).trans ?_) rfl ?_
    · go_simp
    exact ⟨.inl ⟨HNS.out, 0, none, 0, 0, rfl⟩, HB5.out.trans (HW.out.1.below (n := w.heap.size) (by have := HB5.out.size; omega) (fun k hk e => by omega))⟩
  · obtain ⟨A', c', rfl, hcc, hrd, _, _⟩ := Rd.own' hown
    have hfa := parse_facts hp
    obtain ⟨w5, hw5⟩ : ∃ w5, w5 = w2.alloc (Obj.cells #[.int .i64 (m : Int), .slice A' ys.length c'] 79) := ⟨_, rfl⟩
    have hb5 : Below w2.heap.size w2 w5 := by rw [hw5]; exact below_al (below_rf w2) _
    have z5 : w5.heap.size = w2.heap.size + 1 := by rw [hw5]; simp
    have hnod : w5.heap[w2.heap.size]? = some (Obj.cells #[.int .i64 (m : Int), .slice A' ys.length c'] 79 (0, 0)) := by rw [hw5]; exact heap_new _ _
    have z2 := hb2.size
    have hres5 := (hb5.block w.heap.size (by have := HZ1.out; omega)).trans ((hb2.block w.heap.size (by have := HZ1.out; omega)).trans HRES.out)
    have zz : w2.heap.size ≠ w.heap.size := by have := HZ1.out; omega
    have s0 : ∀ W, CellD w5 (w.heap.size) 79 (.int .i64 0) (.slice none 0 0) (.int .i64 (m : Int)) (.slice A' ys.length c') false W → W.cell? ⟨w.heap.size, 0, none⟩ = some (.int .i64 0) := fun W h => h.gc0
    have s1 : ∀ W, CellD w5 (w.heap.size) 79 (.int .i64 0) (.slice none 0 0) (.int .i64 (m : Int)) (.slice A' ys.length c') false W → W.cell? ⟨w.heap.size, 1, none⟩ = some (.slice none 0 0) := fun W h => h.gc1
    have s2 : ∀ W, CellD w5 (w.heap.size) 79 (.int .i64 0) (.slice none 0 0) (.int .i64 (m : Int)) (.slice A' ys.length c') false W → W.frozen? ⟨w.heap.size, 0, none⟩ = false := fun W h => h.fz 0
    have s3 : ∀ W, CellD w5 (w.heap.size) 79 (.int .i64 0) (.slice none 0 0) (.int .i64 (m : Int)) (.slice A' ys.length c') false W → W.frozen? ⟨w.heap.size, 1, none⟩ = false := fun W h => h.fz 1
    have HST := hid (fun W (h : CellD w5 (w.heap.size) 79 (.int .i64 0) (.slice none 0 0) (.int .i64 (m : Int)) (.slice A' ys.length c') false W) => h.set)
    have HCS := hid (CellD.start (d0 := .int .i64 (m : Int)) (d1 := .slice A' ys.length c') hres5)
    have n0 : ∀ W, Mv (fun k => k = w.heap.size) w5 W → W.cell? ⟨w2.heap.size, 0, none⟩ = some (.int .i64 (m : Int)) := fun W h => h.cell (by rw [Go.Lib.cell_of_heap hnod]; rfl) zz
    have n1 : ∀ W, Mv (fun k => k = w.heap.size) w5 W → W.cell? ⟨w2.heap.size, 1, none⟩ = some (.slice A' ys.length c') := fun W h => h.cell (by rw [Go.Lib.cell_of_heap hnod]; rfl) zz
    have hb05 := below_tr HB1.out (below_tr hb2 hb5)
    have HB5 := hid hb05
    have HOWN := hid (own_of_below hown hb5)
    have HRD := hid (hrd.below hb5)
    cases x with
    | none =>
      have hns : nodeS s lv none = some (m, ys) := by unfold nodeS; rw [hp]
      have HNS := hid hns
      obtain rfl : v = .pointer none := hi
      clear hp hns hb2 hb5 hnod hres5 zz hx hfa hown hrd z5 z2 hb05 hcc
      go_wp2
      rw [← hw5]
      clear hw5
      refine wp_region_mixed (CellD w5 w.heap.size 79 (.int .i64 0) (.slice none 0 0) (.int .i64 (m : Int)) (.slice A' ys.length c')) 14 (by decide) (by kernel_rfl) (by kernel_rfl) HCS.out ?_
      repeat (
        refine wpQuietM_step (fun K hK => ?_)
        first
          | (refine mx_skip (by rfl) (by decide) (hK _ ?_)
             clear hK K)
          | (refine mx_read (by rfl) (by decide) ?_
             apply Exists.intro
             refine ⟨fun b W hW => ?_, hK _ ?_⟩
             (have hWm := hW.1; go_simp; first | rfl | (rw [if_neg (by omega)]) | (rw [if_pos (by omega)]))
             clear hK K)
          | (refine mx_store (by rfl) (by decide) ⟨fun W hW => ?_, hK _ ?_⟩
             have hsto := HST.out W hW
             (refine ⟨_, ?_, hsto⟩; clear hsto; go_simp)
             clear hK K)
        go_simp)
      refine wpQuietM_nil ?_
      intro W hW
      have r0 := hW.gd0
      have r1 := hW.gd1
      have HW := hid hW
      clear n0 n1 s0 s1 s2 s3 hW
      go_wp2
      refine bodyPost_ret (v := .tuple #[.agg #[.int .i64 (m : Int), .slice A' ys.length c'], .bool true]) ((results_cell_tmp rfl _ _ _).trans ?_) rfl ?_
      · go_simp
      refine ⟨.inr ⟨m, ys, _, HNS.out, rfl, own_mv (own_base HOWN.out (by have := HZ1.out; omega)) HW.out.1 (fun k hk e => ?_)⟩, HB5.out.trans (HW.out.1.below (n := w.heap.size) (by have := HB5.out.size; omega) (fun k hk e => by omega))⟩
      have := own_block_base HOWN.out _ hk
      have := HZ1.out
      omega
    | some y =>
      obtain ⟨sb, hsb⟩ : ∃ sb, sb = standsP lv y m ys := ⟨_, rfl⟩
      have hns : nodeS s lv (some y) = if sb = true then some (m, ys) else none := by unfold nodeS; rw [hp, hsb]
      have HNS := hid hns
      obtain ⟨b, o, rfl, i0, i1⟩ := hi
      have hbl := World.block_lt_of_cell? _ _ i0
      have n2 : ∀ W, Mv (fun k => k = w.heap.size) w5 W → W.cell? ⟨b, o, none⟩ = some (.string (Str y.1)) := fun W h => h.cell ((hb05.cell (p := ⟨b, o, none⟩) hbl).trans i0) (by show ¬ b = w.heap.size; have : b < w.heap.size := hbl; omega)
      have n3 : ∀ W, Mv (fun k => k = w.heap.size) w5 W → W.cell? ⟨b, o + 1, none⟩ = some (.string (Str y.2)) := fun W h => h.cell ((hb05.cell (p := ⟨b, o + 1, none⟩) hbl).trans i1) (by show ¬ b = w.heap.size; have : b < w.heap.size := hbl; omega)
      have hst : ∀ b W, CellD w5 w.heap.size 79 (.int .i64 0) (.slice none 0 0) (.int .i64 (m : Int)) (.slice A' ys.length c') b W → Calls Try.prog 102 #[.agg #[.int .i64 (m : Int), .slice A' ys.length c'], .int .i64 (lv : Int), .agg #[.string (Str y.1), .string (Str y.2)]] W fun e w' => e = .returned (.bool sb) ∧ Below W.heap.size W w' := fun b W hW => by
        rw [hsb]
        exact stands_any m lv y ys A' c' (by omega) hlv (by omega) (hx y rfl) (fun h0 i hi => okVal_len (hfa.2.2.1 _ (by rw [itm_eq ys i hi]; exact List.getElem_mem hi)) h0) W (hW.rd HRD.out (fun b o e => by
          subst e
          have := own_block_base hown b rfl
          have := HZ1.out
          omega))
      clear hp hns hb2 hb5 hnod hres5 zz hx hfa hown hrd hsb i0 i1 z5 z2 hb05 hcc hbl
      go_wp2
      rw [← hw5]
      clear hw5
      refine wp_region_mixed (CellD w5 w.heap.size 79 (.int .i64 0) (.slice none 0 0) (.int .i64 (m : Int)) (.slice A' ys.length c')) 14 (by decide) (by kernel_rfl) (by kernel_rfl) HCS.out ?_
      repeat (
        refine wpQuietM_step (fun K hK => ?_)
        first
          | (refine mx_skip (by rfl) (by decide) (hK _ ?_)
             clear hK K)
          | (refine mx_read (by rfl) (by decide) ?_
             apply Exists.intro
             refine ⟨fun b W hW => ?_, hK _ ?_⟩
             (have hWm := hW.1; go_simp; first | rfl | (rw [if_neg (by omega)]) | (rw [if_pos (by omega)]))
             clear hK K)
          | (refine mx_store (by rfl) (by decide) ⟨fun W hW => ?_, hK _ ?_⟩
             have hsto := HST.out W hW
             (refine ⟨_, ?_, hsto⟩; clear hsto; go_simp)
             clear hK K)
          | (refine mx_call CellD.stab (by rfl) (by decide) ?_
             apply Exists.intro
             apply Exists.intro
             refine ⟨fun b W hW => ?_, ?_⟩
             (have hWm := hW.1; go_simp; exact ⟨rfl, rfl⟩)
             apply Exists.intro
             refine ⟨fun b W hW => ?_, hK _ ?_⟩
             (with_reducible exact (hst b W hW))
             clear hK K)
        go_simp)
      refine wpQuietM_nil ?_
      intro W hW
      have r0 := hW.gd0
      have r1 := hW.gd1
      have HW := hid hW
      clear n0 n1 n2 n3 s0 s1 s2 s3 hst hW
      go_wp2
      refine bodyPost_ret (v := .tuple #[.agg #[.int .i64 (m : Int), .slice A' ys.length c'], .bool sb]) ((results_cell_tmp rfl _ _ _).trans ?_) rfl ?_
      · go_simp
      refine ⟨?_, HB5.out.trans (HW.out.1.below (n := w.heap.size) (by have := HB5.out.size; omega) (fun k hk e => by omega))⟩
      have hoW : W.ownsRow w.heap.size 75 2 (.slice A' ys.length c') ys.length (its ys) := own_mv (own_base HOWN.out (by have := HZ1.out; omega)) HW.out.1 (fun k hk e => by
        have := own_block_base HOWN.out _ hk
        have := HZ1.out
        omega)
      cases sb with
      | true => exact .inr ⟨m, ys, _, HNS.out, rfl, hoW⟩
      | false => exact .inl ⟨HNS.out, _, _, _, _, rfl⟩
/-- below which item a way goes on -/
def StepOut (lv : Nat) (l : List Itm) (key : List UInt8) (A : Option Addr) (e : Ending) : Prop := if endsAt (lv, l) key = true then e = .returned (.tuple #[.pointer none, .bool false]) else ∃ b o, A = some ⟨b, o, none⟩ ∧ e = .returned (.tuple #[.pointer (some ⟨b, o + placeS l key * 2, none⟩), .bool true])
set_option maxRecDepth 100000 in
set_option maxHeartbeats 800000 in
theorem step_any (lv : Nat) (l : List Itm) (key : List UInt8) (A : Option Addr) (c : Nat) (hl : l.length ≤ 1000000) (hlv : lv ≤ 1000000) (hok : okS l = true) (w : World) (hrd : Rd w A (its l)) :
    Calls Try.prog 91 #[.agg #[.int .i64 (lv : Int), .slice A l.length c], .string (Str key)] w fun e w' => StepOut lv l key A e ∧ Below w.heap.size w w' := by
  obtain ⟨i, hi⟩ : ∃ i, i = placeS l key := ⟨_, rfl⟩
  have hp : PlaceAt l key i := hi ▸ place_s l key hok
  have hil := hp.1
  obtain ⟨w1, hw1⟩ : ∃ w1, w1 = w.alloc (Obj.cells #[.int .i64 (lv : Int), .slice A l.length c] 79) := ⟨_, rfl⟩
  have hal : Below w.heap.size w w1 := by rw [hw1]; exact below_al (below_rf w) _
  have z1 : w.heap.size < w1.heap.size := by rw [hw1]; simp
  have hnod : w1.heap[w.heap.size]? = some (Obj.cells #[.int .i64 (lv : Int), .slice A l.length c] 79 (0, 0)) := by rw [hw1]; exact heap_new _ _
  have hpl : Calls Try.prog 70 #[.agg #[.int .i64 (lv : Int), .slice A l.length c], .string (Str key)] w1 fun e w' => e = .returned (.int .i64 (i : Int)) ∧ Below w1.heap.size w1 w' := by
    refine (place_any (lv : Int) A c l key (by omega) hok w1 (hrd.below hal)).mono ?_
    rintro e w2 ⟨⟨j, rfl, hj⟩, hb2⟩
    rw [place_one l key j i hj hp]
    exact ⟨rfl, hb2⟩
  have HPL := hid hpl
  have HE : Hid (endsAt (lv, l) key = (decide (lv = 0) || decide (i = l.length))) := hid (by unfold endsAt; rw [hi])
  have HI := hid hi
  have HRD := hid (hrd.below hal)
  have HAL := hid hal
  have HND := hid hnod
  clear hpl hp hok hi hrd hal hnod
  go_enter Try.func91, Try.ntmps91
  go_wp2_with fail
  rw [← hw1]
  clear hw1
  refine HPL.out.mono ?_; rintro e w2 ⟨rfl, hb2⟩
  have hnod2 := (hb2.block w.heap.size z1).trans HND.out
  have n0 : w2.cell? ⟨w.heap.size, 0, none⟩ = some (.int .i64 (lv : Int)) := by rw [Go.Lib.cell_of_heap hnod2]; rfl
  have n1 : w2.cell? ⟨w.heap.size, 1, none⟩ = some (.slice A l.length c) := by rw [Go.Lib.cell_of_heap hnod2]; rfl
  have HB2 := hid (below_tr HAL.out hb2)
  have HRD2 := hid (HRD.out.below hb2)
  clear hnod2 hb2
  by_cases h0 : lv = 0
  · have c0 : ((lv : Int) == 0) = true := beq_iff_eq.2 (by omega)
    have HEE : Hid (endsAt (lv, l) key = true) := hid (by rw [HE.out, decide_eq_true h0]; rfl)
    clear h0
    go_wp2
    go_ret2
    refine ⟨?_, HB2.out⟩
    unfold StepOut
    rw [if_pos HEE.out]
    rfl
  · have c0 : ((lv : Int) == 0) = false := beq_eq_false_iff_ne.2 (by omega)
    by_cases h1 : i = l.length
    · have c1 : ((i : Int) == (l.length : Int)) = true := beq_iff_eq.2 (by omega)
      have HEE : Hid (endsAt (lv, l) key = true) := hid (by rw [HE.out, decide_eq_true h1, Bool.or_true])
      clear h0 h1
      go_wp2
      go_ret2
      refine ⟨?_, HB2.out⟩
      unfold StepOut
      rw [if_pos HEE.out]
      rfl
    · have c1 : ((i : Int) == (l.length : Int)) = false := beq_eq_false_iff_ne.2 (by omega)
      have HEE : Hid (¬ endsAt (lv, l) key = true) := hid (by rw [HE.out, decide_eq_false h0, decide_eq_false h1]; decide)
      have hlt : i < l.length := by omega
      obtain ⟨b, o, rfl, hc1, hc2⟩ := rd_itm HRD2.out hlt
      clear h0 h1 hc1 hc2
      go_wp2
      go_ret2
      refine ⟨?_, HB2.out⟩
      unfold StepOut
      rw [if_neg HEE.out]
      exact ⟨b, o, rfl, by rw [← HI.out]; rfl⟩
/-- what a node shows at a key -/
def ShownOut (r : Option (List UInt8)) (e : Ending) : Prop := match r with
  | none => e = .returned (.tuple #[.string (Str []), .bool false])
  | some v => e = .returned (.tuple #[.string (Str v), .bool true])
set_option maxRecDepth 100000 in
set_option maxHeartbeats 800000 in
theorem shown_any (lv : Nat) (l : List Itm) (key : List UInt8) (A : Option Addr) (c : Nat) (hl : l.length ≤ 1000000) (hlv : lv ≤ 1000000) (hok : okS l = true) (w : World) (hrd : Rd w A (its l)) :
    Calls Try.prog 53 #[.agg #[.int .i64 (lv : Int), .slice A l.length c], .string (Str key)] w fun e w' => ShownOut (shownS (lv, l) key) e ∧ Below w.heap.size w w' := by
  obtain ⟨i, hi⟩ : ∃ i, i = placeS l key := ⟨_, rfl⟩
  have hp : PlaceAt l key i := hi ▸ place_s l key hok
  have hil := hp.1
  obtain ⟨w1, hw1⟩ : ∃ w1, w1 = w.alloc (Obj.cells #[.int .i64 (lv : Int), .slice A l.length c] 79) := ⟨_, rfl⟩
  have hal : Below w.heap.size w w1 := by rw [hw1]; exact below_al (below_rf w) _
  have z1 : w.heap.size < w1.heap.size := by rw [hw1]; simp
  have hnod : w1.heap[w.heap.size]? = some (Obj.cells #[.int .i64 (lv : Int), .slice A l.length c] 79 (0, 0)) := by rw [hw1]; exact heap_new _ _
  have hpl : Calls Try.prog 70 #[.agg #[.int .i64 (lv : Int), .slice A l.length c], .string (Str key)] w1 fun e w' => e = .returned (.int .i64 (i : Int)) ∧ Below w1.heap.size w1 w' := by
    refine (place_any (lv : Int) A c l key (by omega) hok w1 (hrd.below hal)).mono ?_
    rintro e w2 ⟨⟨j, rfl, hj⟩, hb2⟩
    rw [place_one l key j i hj hp]
    exact ⟨rfl, hb2⟩
  have HPL := hid hpl
  have HE : Hid (shownS (lv, l) key = if lv = 0 ∧ i < l.length ∧ (itm l i).1 = key then some (itm l i).2 else none) := hid (by unfold shownS; rw [hi])
  have HRD := hid (hrd.below hal)
  have HAL := hid hal
  have HND := hid hnod
  clear hpl hp hok hi hrd hal hnod
  go_enter Try.func53, Try.ntmps53
  go_wp2_with fail
  rw [← hw1]
  clear hw1
  refine HPL.out.mono ?_; rintro e w2 ⟨rfl, hb2⟩
  have hnod2 := (hb2.block w.heap.size z1).trans HND.out
  have n0 : w2.cell? ⟨w.heap.size, 0, none⟩ = some (.int .i64 (lv : Int)) := by rw [Go.Lib.cell_of_heap hnod2]; rfl
  have n1 : w2.cell? ⟨w.heap.size, 1, none⟩ = some (.slice A l.length c) := by rw [Go.Lib.cell_of_heap hnod2]; rfl
  have HB2 := hid (below_tr HAL.out hb2)
  have HRD2 := hid (HRD.out.below hb2)
  clear hnod2 hb2
  by_cases h0 : lv = 0
  · have c0 : decide ((0 : Int) < (lv : Int)) = false := decide_eq_false (by omega)
    have c0' : decide (0 < lv) = false := decide_eq_false (by omega)
    by_cases h1 : i = l.length
    · have c1 : ((i : Int) == (l.length : Int)) = true := beq_iff_eq.2 (by omega)
      have HEE : Hid (shownS (lv, l) key = none) := hid (by rw [HE.out, if_neg (fun h => by omega)])
      clear h0 h1
      go_wp2
      go_ret2
      refine ⟨?_, HB2.out⟩
      rw [HEE.out]
      show _ = Ending.returned (.tuple #[.string (Str []), .bool false])
      rw [Str_nil]; rfl
    · have c1 : ((i : Int) == (l.length : Int)) = false := beq_eq_false_iff_ne.2 (by omega)
      have hlt : i < l.length := by omega
      obtain ⟨b, o, rfl, hc1, hc2⟩ := rd_itm HRD2.out hlt
      obtain ⟨xk, hxk⟩ : ∃ xk, xk = (itm l i).1 := ⟨_, rfl⟩
      obtain ⟨xv, hxv⟩ : ∃ xv, xv = (itm l i).2 := ⟨_, rfl⟩
      rw [← hxk, ← hxv] at HE
      rw [← hxk] at hc1
      rw [← hxv] at hc2
      by_cases h2 : xk = key
      · have c2 : (xk == key) = true := beq_iff_eq.2 h2
        have HEE : Hid (shownS (lv, l) key = some xv) := hid (by rw [HE.out, if_pos ⟨h0, hlt, h2⟩])
        clear h0 h1 h2 hxk hxv
        go_wp2
        go_ret2
        refine ⟨?_, HB2.out⟩
        rw [HEE.out]
        rfl
      · have c2 : (xk == key) = false := beq_eq_false_iff_ne.2 h2
        have HEE : Hid (shownS (lv, l) key = none) := hid (by rw [HE.out, if_neg (fun h => h2 h.2.2)])
        clear h0 h1 h2 hxk hxv
        go_wp2
        go_ret2
        refine ⟨?_, HB2.out⟩
        rw [HEE.out]
        show _ = Ending.returned (.tuple #[.string (Str []), .bool false])
        rw [Str_nil]; rfl
  · have c0 : decide ((0 : Int) < (lv : Int)) = true := decide_eq_true (by omega)
    have c0' : decide (0 < lv) = true := decide_eq_true (by omega)
    have HEE : Hid (shownS (lv, l) key = none) := hid (by rw [HE.out, if_neg (fun h => h0 h.1)])
    clear h0
    go_wp2
    go_ret2
    refine ⟨?_, HB2.out⟩
    rw [HEE.out]
    show _ = Ending.returned (.tuple #[.string (Str []), .bool false])
    rw [Str_nil]; rfl
end Go.Proofs.Ytbggeccaoibleaa.W11
