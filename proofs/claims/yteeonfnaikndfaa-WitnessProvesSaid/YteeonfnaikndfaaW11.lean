/- The walks of layer 11: nodes of texts, where a way goes on, what a node shows. The walks of layer 11: the way to a key, asked of a source, and of a proof. The walks of layer 11: what a proof's bytes show. The walks of layer 11: what a proof shows; the proof. -/
import Derived.Test.YteeonfnaikndfaaWit
import Derived.Test.YteeonfnaikndfaaW08m
import Derived.Test.YteeonfnaikndfaaWk
set_option linter.unusedVariables false
set_option linter.unusedSimpArgs false
namespace Go.Proofs.Yteeonfnaikndfaa.W11
open Go Go.RowKit Go.Proofs.Yteeonfnaikndfaa.Lib Go.Proofs.Yteeonfnaikndfaa.Sha Go.Proofs.Yteeonfnaikndfaa.T08 Go.Proofs.Yteeonfnaikndfaa.QTail Go.Proofs.Yteeonfnaikndfaa.Itms Go.Proofs.Yteeonfnaikndfaa.WSeq Go.Proofs.Yteeonfnaikndfaa.Ord Go.Proofs.Yteeonfnaikndfaa.Tree Go.Proofs.Yteeonfnaikndfaa.W08 Go.Proofs.Yteeonfnaikndfaa.Wit
open Go.Proofs.Yteeonfnaikndfaa.Run hiding round_any yield_any
attribute [local go_sem] Str_size Str_toList Str_extract
def ParseXOut (B : Nat) (r : Option (Nat × List Itm)) (e : Ending) (W : World) : Prop :=
  (r = none ∧ e = .returned (.tuple #[.int .i64 0, .slice none 0 0, .bool false])) ∨
  ∃ lv l v, r = some (lv, l) ∧ e = .returned (.tuple #[.int .i64 (lv : Int), v, .bool true]) ∧ W.ownsRow B 93 2 v l.length (its l)
set_option maxRecDepth 100000 in
theorem parsex_any (s : List UInt8) (hs : s.length ≤ 1000000000) (w : World) :
    Calls Try.prog 86 #[.string (Str s)] w fun e w' => ParseXOut w.heap.size (parseS s) e w' ∧ Below w.heap.size w w' := by
  go_enter Try.func86, Try.ntmps86
  go_wp2_with fail
  refine (parse_any s w hs).mono ?_; rintro e w1 ⟨ho, hb1⟩
  rcases ho with ⟨hn, rfl⟩ | ⟨lv', P', v, hp, rfl, hown⟩
  · have HN := hid hn
    have HB := hid (below_tr hb1 (below_al (below_rf w1) (Obj.cells #[.int .i64 0, .slice none 0 0] 77)))
    clear hn hb1
    go_wp2
    go_quiet (fail)
    go_wp2
    go_ret3
    exact ⟨.inl ⟨HN.out, rfl⟩, below_drewN HB.out _⟩
  · obtain ⟨Av, cv, rfl⟩ := own_succ hown
    have HP := hid hp
    have hal : Below w1.heap.size w1 (w1.alloc (Obj.cells #[.int .i64 (lv' : Int), .slice Av P'.length cv] 77)) := below_al (below_rf w1) _
    have HO := hid (own_of_below hown hal)
    have HB := hid (below_tr hb1 hal)
    clear hown hb1 hal hp
    go_wp2
    go_quiet (fail)
    go_wp2
    go_ret3
    exact ⟨.inr ⟨_, _, _, HP.out, rfl, HO.out⟩, below_drewN HB.out _⟩
/-- a pointer to an item, or none -/
def ItemAt (W : World) (v : Value) (x : Option Itm) : Prop := match x with
  | none => v = .pointer none
  | some y => ∃ b o, v = .pointer (some ⟨b, o, none⟩) ∧ W.cell? ⟨b, o, none⟩ = some (.string (Str y.1)) ∧ W.cell? ⟨b, o + 1, none⟩ = some (.string (Str y.2))
set_option maxRecDepth 100000 in
set_option maxHeartbeats 1600000 in
theorem node_any (s : List UInt8) (hs : s.length ≤ 1000000000) (lv : Nat) (hlv : lv ≤ 1000000) (v : Value) (x : Option Itm) (hx : ∀ y, x = some y → y.2.length = 40) (w : World) (hi : ItemAt w v x) :
    Calls Try.prog 78 #[.string (Str s), .int .i64 (lv : Int), v] w fun e w' => BelowOut w.heap.size (nodeS s lv x) e w' ∧ Below w.heap.size w w' := by
  obtain ⟨w1, hw1⟩ : ∃ w1, w1 = w.alloc (Obj.cells #[.int .i64 0, .slice none 0 0] 77) := ⟨_, rfl⟩
  have hb1 : Below w.heap.size w w1 := by rw [hw1]; exact below_al (below_rf w) _
  have z1 : w1.heap.size = w.heap.size + 1 := by rw [hw1]; simp
  have hres : w1.heap[w.heap.size]? = some (Obj.cells #[.int .i64 0, .slice none 0 0] 77 (0, 0)) := by rw [hw1]; exact heap_new _ _
  have HPX := hid (parsex_any s hs w1)
  have HB1 := hid hb1
  have HZ1 := hid z1
  have HRES := hid hres
  clear hb1 z1 hres
  go_enter Try.func78, Try.ntmps78
  go_wp2_with fail
  rw [← hw1]
  clear hw1
  refine HPX.out.mono ?_; rintro e w2 ⟨ho, hb2⟩
  rcases ho with ⟨hn, rfl⟩ | ⟨m, ys, v2, hp, rfl, hown⟩
  · have hns : nodeS s lv x = none := by unfold nodeS; rw [hn]
    have HNS := hid hns
    obtain ⟨w5, hw5⟩ : ∃ w5, w5 = w2.alloc (Obj.cells #[.int .i64 0, .slice none 0 0] 77) := ⟨_, rfl⟩
    have hb5 : Below w2.heap.size w2 w5 := by rw [hw5]; exact below_al (below_rf w2) _
    have hnod : w5.heap[w2.heap.size]? = some (Obj.cells #[.int .i64 0, .slice none 0 0] 77 (0, 0)) := by rw [hw5]; exact heap_new _ _
    have hres5 := (hb5.block w.heap.size (by have := hb2.size; have := HZ1.out; omega)).trans ((hb2.block w.heap.size (by have := HZ1.out; omega)).trans HRES.out)
    have zz : w2.heap.size ≠ w.heap.size := by have := hb2.size; have := HZ1.out; omega
    have s0 : ∀ W, CellD w5 (w.heap.size) 77 (.int .i64 0) (.slice none 0 0) (.int .i64 0) (.slice none 0 0) false W → W.cell? ⟨w.heap.size, 0, none⟩ = some (.int .i64 0) := fun W h => h.gc0
    have s1 : ∀ W, CellD w5 (w.heap.size) 77 (.int .i64 0) (.slice none 0 0) (.int .i64 0) (.slice none 0 0) false W → W.cell? ⟨w.heap.size, 1, none⟩ = some (.slice none 0 0) := fun W h => h.gc1
    have s2 : ∀ W, CellD w5 (w.heap.size) 77 (.int .i64 0) (.slice none 0 0) (.int .i64 0) (.slice none 0 0) false W → W.frozen? ⟨w.heap.size, 0, none⟩ = false := fun W h => h.fz 0
    have s3 : ∀ W, CellD w5 (w.heap.size) 77 (.int .i64 0) (.slice none 0 0) (.int .i64 0) (.slice none 0 0) false W → W.frozen? ⟨w.heap.size, 1, none⟩ = false := fun W h => h.fz 1
    have HST := hid (fun W (h : CellD w5 (w.heap.size) 77 (.int .i64 0) (.slice none 0 0) (.int .i64 0) (.slice none 0 0) false W) => h.set)
    have HCS := hid (CellD.start (d0 := .int .i64 0) (d1 := .slice none 0 0) hres5)
    have n0 : ∀ W, Mv (fun k => k = w.heap.size) w5 W → W.cell? ⟨w2.heap.size, 0, none⟩ = some (.int .i64 0) := fun W h => h.cell (by rw [Go.Lib.cell_of_heap hnod]; rfl) zz
    have n1 : ∀ W, Mv (fun k => k = w.heap.size) w5 W → W.cell? ⟨w2.heap.size, 1, none⟩ = some (.slice none 0 0) := fun W h => h.cell (by rw [Go.Lib.cell_of_heap hnod]; rfl) zz
    have HB5 := hid (below_tr (below_tr HB1.out hb2) hb5)
    clear hn hns hb2 hb5 hnod hres5 zz hi hx
    go_wp2
    rw [← hw5]
    clear hw5
    refine wp_region_mixed (CellD w5 w.heap.size 77 (.int .i64 0) (.slice none 0 0) (.int .i64 0) (.slice none 0 0)) 14 (by decide) (by kernel_rfl) (by kernel_rfl) HCS.out ?_
    repeat (
      refine wpQuietM_step (fun K hK => ?_)
      first
        | (refine mx_skip (by rfl) (by decide) (hK _ ?_)
           clear hK K)
        | (refine mx_read (by rfl) (by decide) ?_
           apply Exists.intro
           refine ⟨fun b W hW => ?_, hK _ ?_⟩
           (have hWm := hW.1; go_simp; first | rfl | (rw [if_neg (by omega)]) | (rw [if_pos (by omega)]))
           clear hK K)
        | (refine mx_store (by rfl) (by decide) ⟨fun W hW => ?_, hK _ ?_⟩
           have hsto := HST.out W hW
           (refine ⟨_, ?_, hsto⟩; clear hsto; go_simp)
           clear hK K)
      go_simp)
    refine wpQuietM_nil ?_
    intro W hW
    have r0 := hW.gd0
    have r1 := hW.gd1
    have HW := hid hW
    clear n0 n1 s0 s1 s2 s3 hW
    go_wp2
    refine bodyPost_ret (v := .tuple #[.agg #[.int .i64 0, .slice none 0 0], .bool false]) ((results_cell_tmp rfl _ _ _).trans ?_) rfl ?_
    · go_simp
    exact ⟨.inl ⟨HNS.out, 0, none, 0, 0, rfl⟩, HB5.out.trans (HW.out.1.below (n := w.heap.size) (by have := HB5.out.size; omega) (fun k hk e => by omega))⟩
  · obtain ⟨A', c', rfl, hcc, hrd, _, _⟩ := Rd.own' hown
    have hfa := parse_facts hp
    obtain ⟨w5, hw5⟩ : ∃ w5, w5 = w2.alloc (Obj.cells #[.int .i64 (m : Int), .slice A' ys.length c'] 77) := ⟨_, rfl⟩
    have hb5 : Below w2.heap.size w2 w5 := by rw [hw5]; exact below_al (below_rf w2) _
    have z5 : w5.heap.size = w2.heap.size + 1 := by rw [hw5]; simp
    have hnod : w5.heap[w2.heap.size]? = some (Obj.cells #[.int .i64 (m : Int), .slice A' ys.length c'] 77 (0, 0)) := by rw [hw5]; exact heap_new _ _
    have z2 := hb2.size
    have hres5 := (hb5.block w.heap.size (by have := HZ1.out; omega)).trans ((hb2.block w.heap.size (by have := HZ1.out; omega)).trans HRES.out)
    have zz : w2.heap.size ≠ w.heap.size := by have := HZ1.out; omega
    have s0 : ∀ W, CellD w5 (w.heap.size) 77 (.int .i64 0) (.slice none 0 0) (.int .i64 (m : Int)) (.slice A' ys.length c') false W → W.cell? ⟨w.heap.size, 0, none⟩ = some (.int .i64 0) := fun W h => h.gc0
    have s1 : ∀ W, CellD w5 (w.heap.size) 77 (.int .i64 0) (.slice none 0 0) (.int .i64 (m : Int)) (.slice A' ys.length c') false W → W.cell? ⟨w.heap.size, 1, none⟩ = some (.slice none 0 0) := fun W h => h.gc1
    have s2 : ∀ W, CellD w5 (w.heap.size) 77 (.int .i64 0) (.slice none 0 0) (.int .i64 (m : Int)) (.slice A' ys.length c') false W → W.frozen? ⟨w.heap.size, 0, none⟩ = false := fun W h => h.fz 0
    have s3 : ∀ W, CellD w5 (w.heap.size) 77 (.int .i64 0) (.slice none 0 0) (.int .i64 (m : Int)) (.slice A' ys.length c') false W → W.frozen? ⟨w.heap.size, 1, none⟩ = false := fun W h => h.fz 1
    have HST := hid (fun W (h : CellD w5 (w.heap.size) 77 (.int .i64 0) (.slice none 0 0) (.int .i64 (m : Int)) (.slice A' ys.length c') false W) => h.set)
    have HCS := hid (CellD.start (d0 := .int .i64 (m : Int)) (d1 := .slice A' ys.length c') hres5)
    have n0 : ∀ W, Mv (fun k => k = w.heap.size) w5 W → W.cell? ⟨w2.heap.size, 0, none⟩ = some (.int .i64 (m : Int)) := fun W h => h.cell (by rw [Go.Lib.cell_of_heap hnod]; rfl) zz
    have n1 : ∀ W, Mv (fun k => k = w.heap.size) w5 W → W.cell? ⟨w2.heap.size, 1, none⟩ = some (.slice A' ys.length c') := fun W h => h.cell (by rw [Go.Lib.cell_of_heap hnod]; rfl) zz
    have hb05 := below_tr HB1.out (below_tr hb2 hb5)
    have HB5 := hid hb05
    have HOWN := hid (own_of_below hown hb5)
    have HRD := hid (hrd.below hb5)
    cases x with
    | none =>
      have hns : nodeS s lv none = some (m, ys) := by unfold nodeS; rw [hp]
      have HNS := hid hns
      obtain rfl : v = .pointer none := hi
      clear hp hns hb2 hb5 hnod hres5 zz hx hfa hown hrd z5 z2 hb05 hcc
      go_wp2
      rw [← hw5]
      clear hw5
      refine wp_region_mixed (CellD w5 w.heap.size 77 (.int .i64 0) (.slice none 0 0) (.int .i64 (m : Int)) (.slice A' ys.length c')) 14 (by decide) (by kernel_rfl) (by kernel_rfl) HCS.out ?_
      repeat (
        refine wpQuietM_step (fun K hK => ?_)
        first
          | (refine mx_skip (by rfl) (by decide) (hK _ ?_)
             clear hK K)
          | (refine mx_read (by rfl) (by decide) ?_
             apply Exists.intro
             refine ⟨fun b W hW => ?_, hK _ ?_⟩
             (have hWm := hW.1; go_simp; first | rfl | (rw [if_neg (by omega)]) | (rw [if_pos (by omega)]))
             clear hK K)
          | (refine mx_store (by rfl) (by decide) ⟨fun W hW => ?_, hK _ ?_⟩
             have hsto := HST.out W hW
             (refine ⟨_, ?_, hsto⟩; clear hsto; go_simp)
             clear hK K)
        go_simp)
      refine wpQuietM_nil ?_
      intro W hW
      have r0 := hW.gd0
      have r1 := hW.gd1
      have HW := hid hW
      clear n0 n1 s0 s1 s2 s3 hW
      go_wp2
      refine bodyPost_ret (v := .tuple #[.agg #[.int .i64 (m : Int), .slice A' ys.length c'], .bool true]) ((results_cell_tmp rfl _ _ _).trans ?_) rfl ?_
      · go_simp
      refine ⟨.inr ⟨m, ys, _, HNS.out, rfl, own_mv (own_base HOWN.out (by have := HZ1.out; omega)) HW.out.1 (fun k hk e => ?_)⟩, HB5.out.trans (HW.out.1.below (n := w.heap.size) (by have := HB5.out.size; omega) (fun k hk e => by omega))⟩
      have := own_block_base HOWN.out _ hk
      have := HZ1.out
      omega
    | some y =>
      obtain ⟨sb, hsb⟩ : ∃ sb, sb = standsP lv y m ys := ⟨_, rfl⟩
      have hns : nodeS s lv (some y) = if sb = true then some (m, ys) else none := by unfold nodeS; rw [hp, hsb]
      have HNS := hid hns
      obtain ⟨b, o, rfl, i0, i1⟩ := hi
      have hbl := World.block_lt_of_cell? _ _ i0
      have n2 : ∀ W, Mv (fun k => k = w.heap.size) w5 W → W.cell? ⟨b, o, none⟩ = some (.string (Str y.1)) := fun W h => h.cell ((hb05.cell (p := ⟨b, o, none⟩) hbl).trans i0) (by show ¬ b = w.heap.size; have : b < w.heap.size := hbl; omega)
      have n3 : ∀ W, Mv (fun k => k = w.heap.size) w5 W → W.cell? ⟨b, o + 1, none⟩ = some (.string (Str y.2)) := fun W h => h.cell ((hb05.cell (p := ⟨b, o + 1, none⟩) hbl).trans i1) (by show ¬ b = w.heap.size; have : b < w.heap.size := hbl; omega)
      have hst : ∀ b W, CellD w5 w.heap.size 77 (.int .i64 0) (.slice none 0 0) (.int .i64 (m : Int)) (.slice A' ys.length c') b W → Calls Try.prog 85 #[.agg #[.int .i64 (m : Int), .slice A' ys.length c'], .int .i64 (lv : Int), .agg #[.string (Str y.1), .string (Str y.2)]] W fun e w' => e = .returned (.bool sb) ∧ Below W.heap.size W w' := fun b W hW => by
        rw [hsb]
        exact stands_any m lv y ys A' c' (by omega) hlv (by omega) (hx y rfl) (fun h0 i hi => okVal_len (hfa.2.2.1 _ (by rw [itm_eq ys i hi]; exact List.getElem_mem hi)) h0) W (hW.rd HRD.out (fun b o e => by
          subst e
          have := own_block_base hown b rfl
          have := HZ1.out
          omega))
      clear hp hns hb2 hb5 hnod hres5 zz hx hfa hown hrd hsb i0 i1 z5 z2 hb05 hcc hbl
      go_wp2
      rw [← hw5]
      clear hw5
      refine wp_region_mixed (CellD w5 w.heap.size 77 (.int .i64 0) (.slice none 0 0) (.int .i64 (m : Int)) (.slice A' ys.length c')) 14 (by decide) (by kernel_rfl) (by kernel_rfl) HCS.out ?_
      repeat (
        refine wpQuietM_step (fun K hK => ?_)
        first
          | (refine mx_skip (by rfl) (by decide) (hK _ ?_)
             clear hK K)
          | (refine mx_read (by rfl) (by decide) ?_
             apply Exists.intro
             refine ⟨fun b W hW => ?_, hK _ ?_⟩
             (have hWm := hW.1; go_simp; first | rfl | (rw [if_neg (by omega)]) | (rw [if_pos (by omega)]))
             clear hK K)
          | (refine mx_store (by rfl) (by decide) ⟨fun W hW => ?_, hK _ ?_⟩
             have hsto := HST.out W hW
             (refine ⟨_, ?_, hsto⟩; clear hsto; go_simp)
             clear hK K)
          | (refine mx_call CellD.stab (by rfl) (by decide) ?_
             apply Exists.intro
             apply Exists.intro
             refine ⟨fun b W hW => ?_, ?_⟩
             (have hWm := hW.1; go_simp; exact ⟨rfl, rfl⟩)
             apply Exists.intro
             refine ⟨fun b W hW => ?_, hK _ ?_⟩
             (with_reducible exact (hst b W hW))
             clear hK K)
        go_simp)
      refine wpQuietM_nil ?_
      intro W hW
      have r0 := hW.gd0
      have r1 := hW.gd1
      have HW := hid hW
      clear n0 n1 n2 n3 s0 s1 s2 s3 hst hW
      go_wp2
      refine bodyPost_ret (v := .tuple #[.agg #[.int .i64 (m : Int), .slice A' ys.length c'], .bool sb]) ((results_cell_tmp rfl _ _ _).trans ?_) rfl ?_
      · go_simp
      refine ⟨?_, HB5.out.trans (HW.out.1.below (n := w.heap.size) (by have := HB5.out.size; omega) (fun k hk e => by omega))⟩
      have hoW : W.ownsRow w.heap.size 93 2 (.slice A' ys.length c') ys.length (its ys) := own_mv (own_base HOWN.out (by have := HZ1.out; omega)) HW.out.1 (fun k hk e => by
        have := own_block_base HOWN.out _ hk
        have := HZ1.out
        omega)
      cases sb with
      | true => exact .inr ⟨m, ys, _, HNS.out, rfl, hoW⟩
      | false => exact .inl ⟨HNS.out, _, _, _, _, rfl⟩
/-- below which item a way goes on -/
def StepOut (lv : Nat) (l : List Itm) (key : List UInt8) (A : Option Addr) (e : Ending) : Prop := if endsAt (lv, l) key = true then e = .returned (.tuple #[.pointer none, .bool false]) else ∃ b o, A = some ⟨b, o, none⟩ ∧ e = .returned (.tuple #[.pointer (some ⟨b, o + placeS l key * 2, none⟩), .bool true])
set_option maxRecDepth 100000 in
set_option maxHeartbeats 800000 in
theorem step_any (lv : Nat) (l : List Itm) (key : List UInt8) (A : Option Addr) (c : Nat) (hl : l.length ≤ 1000000) (hlv : lv ≤ 1000000) (hok : okS l = true) (w : World) (hrd : Rd w A (its l)) :
    Calls Try.prog 79 #[.agg #[.int .i64 (lv : Int), .slice A l.length c], .string (Str key)] w fun e w' => StepOut lv l key A e ∧ Below w.heap.size w w' := by
  obtain ⟨i, hi⟩ : ∃ i, i = placeS l key := ⟨_, rfl⟩
  have hp : PlaceAt l key i := hi ▸ place_s l key hok
  have hil := hp.1
  obtain ⟨w1, hw1⟩ : ∃ w1, w1 = w.alloc (Obj.cells #[.int .i64 (lv : Int), .slice A l.length c] 77) := ⟨_, rfl⟩
  have hal : Below w.heap.size w w1 := by rw [hw1]; exact below_al (below_rf w) _
  have z1 : w.heap.size < w1.heap.size := by rw [hw1]; simp
  have hnod : w1.heap[w.heap.size]? = some (Obj.cells #[.int .i64 (lv : Int), .slice A l.length c] 77 (0, 0)) := by rw [hw1]; exact heap_new _ _
  have hpl : Calls Try.prog 53 #[.agg #[.int .i64 (lv : Int), .slice A l.length c], .string (Str key)] w1 fun e w' => e = .returned (.int .i64 (i : Int)) ∧ Below w1.heap.size w1 w' := by
    refine (place_any (lv : Int) A c l key (by omega) hok w1 (hrd.below hal)).mono ?_
    rintro e w2 ⟨⟨j, rfl, hj⟩, hb2⟩
    rw [place_one l key j i hj hp]
    exact ⟨rfl, hb2⟩
  have HPL := hid hpl
  have HE : Hid (endsAt (lv, l) key = (decide (lv = 0) || decide (i = l.length))) := hid (by unfold endsAt; rw [hi])
  have HI := hid hi
  have HRD := hid (hrd.below hal)
  have HAL := hid hal
  have HND := hid hnod
  clear hpl hp hok hi hrd hal hnod
  go_enter Try.func79, Try.ntmps79
  go_wp2_with fail
  rw [← hw1]
  clear hw1
  refine HPL.out.mono ?_; rintro e w2 ⟨rfl, hb2⟩
  have hnod2 := (hb2.block w.heap.size z1).trans HND.out
  have n0 : w2.cell? ⟨w.heap.size, 0, none⟩ = some (.int .i64 (lv : Int)) := by rw [Go.Lib.cell_of_heap hnod2]; rfl
  have n1 : w2.cell? ⟨w.heap.size, 1, none⟩ = some (.slice A l.length c) := by rw [Go.Lib.cell_of_heap hnod2]; rfl
  have HB2 := hid (below_tr HAL.out hb2)
  have HRD2 := hid (HRD.out.below hb2)
  clear hnod2 hb2
  by_cases h0 : lv = 0
  · have c0 : ((lv : Int) == 0) = true := beq_iff_eq.2 (by omega)
    have HEE : Hid (endsAt (lv, l) key = true) := hid (by rw [HE.out, decide_eq_true h0]; rfl)
    clear h0
    go_wp2
    go_ret2
    refine ⟨?_, HB2.out⟩
    unfold StepOut
    rw [if_pos HEE.out]
    rfl
  · have c0 : ((lv : Int) == 0) = false := beq_eq_false_iff_ne.2 (by omega)
    by_cases h1 : i = l.length
    · have c1 : ((i : Int) == (l.length : Int)) = true := beq_iff_eq.2 (by omega)
      have HEE : Hid (endsAt (lv, l) key = true) := hid (by rw [HE.out, decide_eq_true h1, Bool.or_true])
      clear h0 h1
      go_wp2
      go_ret2
      refine ⟨?_, HB2.out⟩
      unfold StepOut
      rw [if_pos HEE.out]
      rfl
    · have c1 : ((i : Int) == (l.length : Int)) = false := beq_eq_false_iff_ne.2 (by omega)
      have HEE : Hid (¬ endsAt (lv, l) key = true) := hid (by rw [HE.out, decide_eq_false h0, decide_eq_false h1]; decide)
      have hlt : i < l.length := by omega
      obtain ⟨b, o, rfl, hc1, hc2⟩ := rd_itm HRD2.out hlt
      clear h0 h1 hc1 hc2
      go_wp2
      go_ret2
      refine ⟨?_, HB2.out⟩
      unfold StepOut
      rw [if_neg HEE.out]
      exact ⟨b, o, rfl, by rw [← HI.out]; rfl⟩
/-- what a node shows at a key -/
def ShownOut (r : Option (List UInt8)) (e : Ending) : Prop := match r with
  | none => e = .returned (.tuple #[.string (Str []), .bool false])
  | some v => e = .returned (.tuple #[.string (Str v), .bool true])
set_option maxRecDepth 100000 in
set_option maxHeartbeats 800000 in
theorem shown_any (lv : Nat) (l : List Itm) (key : List UInt8) (A : Option Addr) (c : Nat) (hl : l.length ≤ 1000000) (hlv : lv ≤ 1000000) (hok : okS l = true) (w : World) (hrd : Rd w A (its l)) :
    Calls Try.prog 39 #[.agg #[.int .i64 (lv : Int), .slice A l.length c], .string (Str key)] w fun e w' => ShownOut (shownS (lv, l) key) e ∧ Below w.heap.size w w' := by
  obtain ⟨i, hi⟩ : ∃ i, i = placeS l key := ⟨_, rfl⟩
  have hp : PlaceAt l key i := hi ▸ place_s l key hok
  have hil := hp.1
  obtain ⟨w1, hw1⟩ : ∃ w1, w1 = w.alloc (Obj.cells #[.int .i64 (lv : Int), .slice A l.length c] 77) := ⟨_, rfl⟩
  have hal : Below w.heap.size w w1 := by rw [hw1]; exact below_al (below_rf w) _
  have z1 : w.heap.size < w1.heap.size := by rw [hw1]; simp
  have hnod : w1.heap[w.heap.size]? = some (Obj.cells #[.int .i64 (lv : Int), .slice A l.length c] 77 (0, 0)) := by rw [hw1]; exact heap_new _ _
  have hpl : Calls Try.prog 53 #[.agg #[.int .i64 (lv : Int), .slice A l.length c], .string (Str key)] w1 fun e w' => e = .returned (.int .i64 (i : Int)) ∧ Below w1.heap.size w1 w' := by
    refine (place_any (lv : Int) A c l key (by omega) hok w1 (hrd.below hal)).mono ?_
    rintro e w2 ⟨⟨j, rfl, hj⟩, hb2⟩
    rw [place_one l key j i hj hp]
    exact ⟨rfl, hb2⟩
  have HPL := hid hpl
  have HE : Hid (shownS (lv, l) key = if lv = 0 ∧ i < l.length ∧ (itm l i).1 = key then some (itm l i).2 else none) := hid (by unfold shownS; rw [hi])
  have HRD := hid (hrd.below hal)
  have HAL := hid hal
  have HND := hid hnod
  clear hpl hp hok hi hrd hal hnod
  go_enter Try.func39, Try.ntmps39
  go_wp2_with fail
  rw [← hw1]
  clear hw1
  refine HPL.out.mono ?_; rintro e w2 ⟨rfl, hb2⟩
  have hnod2 := (hb2.block w.heap.size z1).trans HND.out
  have n0 : w2.cell? ⟨w.heap.size, 0, none⟩ = some (.int .i64 (lv : Int)) := by rw [Go.Lib.cell_of_heap hnod2]; rfl
  have n1 : w2.cell? ⟨w.heap.size, 1, none⟩ = some (.slice A l.length c) := by rw [Go.Lib.cell_of_heap hnod2]; rfl
  have HB2 := hid (below_tr HAL.out hb2)
  have HRD2 := hid (HRD.out.below hb2)
  clear hnod2 hb2
  by_cases h0 : lv = 0
  · have c0 : decide ((0 : Int) < (lv : Int)) = false := decide_eq_false (by omega)
    have c0' : decide (0 < lv) = false := decide_eq_false (by omega)
    by_cases h1 : i = l.length
    · have c1 : ((i : Int) == (l.length : Int)) = true := beq_iff_eq.2 (by omega)
      have HEE : Hid (shownS (lv, l) key = none) := hid (by rw [HE.out, if_neg (fun h => by omega)])
      clear h0 h1
      go_wp2
      go_ret2
      refine ⟨?_, HB2.out⟩
      rw [HEE.out]
      show _ = Ending.returned (.tuple #[.string (Str []), .bool false])
      rw [Str_nil]; rfl
    · have c1 : ((i : Int) == (l.length : Int)) = false := beq_eq_false_iff_ne.2 (by omega)
      have hlt : i < l.length := by omega
      obtain ⟨b, o, rfl, hc1, hc2⟩ := rd_itm HRD2.out hlt
      obtain ⟨xk, hxk⟩ : ∃ xk, xk = (itm l i).1 := ⟨_, rfl⟩
      obtain ⟨xv, hxv⟩ : ∃ xv, xv = (itm l i).2 := ⟨_, rfl⟩
      rw [← hxk, ← hxv] at HE
      rw [← hxk] at hc1
      rw [← hxv] at hc2
      by_cases h2 : xk = key
      · have c2 : (xk == key) = true := beq_iff_eq.2 h2
        have HEE : Hid (shownS (lv, l) key = some xv) := hid (by rw [HE.out, if_pos ⟨h0, hlt, h2⟩])
        clear h0 h1 h2 hxk hxv
        go_wp2
        go_ret2
        refine ⟨?_, HB2.out⟩
        rw [HEE.out]
        rfl
      · have c2 : (xk == key) = false := beq_eq_false_iff_ne.2 h2
        have HEE : Hid (shownS (lv, l) key = none) := hid (by rw [HE.out, if_neg (fun h => h2 h.2.2)])
        clear h0 h1 h2 hxk hxv
        go_wp2
        go_ret2
        refine ⟨?_, HB2.out⟩
        rw [HEE.out]
        show _ = Ending.returned (.tuple #[.string (Str []), .bool false])
        rw [Str_nil]; rfl
  · have c0 : decide ((0 : Int) < (lv : Int)) = true := decide_eq_true (by omega)
    have c0' : decide (0 < lv) = true := decide_eq_true (by omega)
    have HEE : Hid (shownS (lv, l) key = none) := hid (by rw [HE.out, if_neg (fun h => h0 h.1)])
    clear h0
    go_wp2
    go_ret2
    refine ⟨?_, HB2.out⟩
    rw [HEE.out]
    show _ = Ending.returned (.tuple #[.string (Str []), .bool false])
    rw [Str_nil]; rfl
end Go.Proofs.Yteeonfnaikndfaa.W11
namespace Go.Proofs.Yteeonfnaikndfaa.W11
open Go Go.RowKit Go.Proofs.Yteeonfnaikndfaa.Lib Go.Proofs.Yteeonfnaikndfaa.Sha Go.Proofs.Yteeonfnaikndfaa.T08 Go.Proofs.Yteeonfnaikndfaa.QTail Go.Proofs.Yteeonfnaikndfaa.Itms Go.Proofs.Yteeonfnaikndfaa.WSeq Go.Proofs.Yteeonfnaikndfaa.Ord Go.Proofs.Yteeonfnaikndfaa.Tree Go.Proofs.Yteeonfnaikndfaa.W08 Go.Proofs.Yteeonfnaikndfaa.Wit
open Go.Proofs.Yteeonfnaikndfaa.Run hiding round_any yield_any
attribute [local go_sem] Str_size Str_toList Str_extract
theorem results_tct {fn : Func} {t p u : Tmp} {ty : TypeId} (h : fn.results = #[.tmp t, .cell p ty, .tmp u]) (tmps : Array Value) (P : Program) (w : World) :
    (results fn tmps).run P w = ((asAddr (tmps.getD p undef)).run P w).andThen fun a w₁ => ((loadVar ty a).run P w₁).andThen fun v w₂ => .ok (.tuple #[tmps.getD t undef, v, tmps.getD u undef]) w₂ := by
  simp only [results, h]
  simp [Sem.run_bind, Result.andThen]
theorem ti_st : TI Try.prog 35 9 1 16 := TI.of Try.underlying35 (by kernel_rfl) (by decide) (by decide)
/-- what a way answers -/
def WayOut {σ : Type} (S : σ → World → Prop) (B : Nat) (r : Option (List (List UInt8) × (Nat × List Itm) × σ)) (e : Ending) (W : World) : Prop := match r with
  | none => e = .returned (.tuple #[.slice none 0 0, .agg #[.int .i64 0, .slice none 0 0], .bool false])
  | some (ts, n, st) => ∃ v1 v2, e = .returned (.tuple #[v1, .agg #[.int .i64 (n.1 : Int), v2], .bool true]) ∧ W.ownsRow B 9 1 v1 ts.length (strs ts) ∧ W.ownsRow B 93 2 v2 n.2.length (its n.2) ∧ S st W
def slLen : Value → Nat
  | .slice _ n _ => n
  | _ => 0
theorem item_mv {O : Nat → Prop} {W W' : World} {v : Value} {x : Option Itm} (h : ItemAt W v x) (hm : Mv O W W') (hn : ∀ b o, v = .pointer (some ⟨b, o, none⟩) → ¬ O b) : ItemAt W' v x := by
  cases x with
  | none => exact h
  | some y =>
    obtain ⟨b, o, rfl, h1, h2⟩ := h
    exact ⟨b, o, rfl, hm.cell h1 (hn b o rfl), hm.cell h2 (hn b o rfl)⟩
theorem mv_cells {O : Nat → Prop} {w w1 W : World} (hb : Below w.heap.size w w1) (hm : Mv O w1 W) (hz : w.heap.size < w1.heap.size) (u v : Value) : Mv O w ((W.setCell ⟨w.heap.size, 0, none⟩ u).setCell ⟨w.heap.size, 1, none⟩ v) := by
  have h1 : Mv (fun k => O k ∨ k = w.heap.size) w ((W.setCell ⟨w.heap.size, 0, none⟩ u).setCell ⟨w.heap.size, 1, none⟩ v) :=
    (((Mv.of_below hb).trans hm (fun _ h => h) (fun _ _ h => .inl h)).trans (Mv.setCell (O := fun k => k = w.heap.size) W ⟨w.heap.size, 0, none⟩ u rfl) (fun _ h => h) (fun _ _ h => .inr h)).trans (Mv.setCell (O := fun k => k = w.heap.size) _ ⟨w.heap.size, 1, none⟩ v rfl) (fun _ h => h) (fun _ _ h => .inr h)
  exact h1.mono fun k hk h => by
    rcases h with h | h
    · exact h
    · omega
theorem app_node {w3 w4 w5 : World} {o : Obj} {r : Option Nat} {b0 : Nat} {x y : Value} {T : TypeId} (hg : (w4.alloc o).grownBy w5 r) (hne : ∀ j, r = some j → j < b0) (hb0 : b0 ≤ w3.heap.size) (hnod : w4.heap[w3.heap.size]? = some (.cells #[x, y] T (0, 0))) :
    w5.cell? ⟨w3.heap.size, 0, none⟩ = some x ∧ w5.cell? ⟨w3.heap.size, 1, none⟩ = some y := by
  have hlt := (Array.getElem?_eq_some_iff.1 hnod).1
  have h1 := (hg.block w3.heap.size (by simp; omega) (fun e => by have := hne _ e.symm; omega)).trans (((below_al (below_rf w4) o).block _ hlt).trans hnod)
  exact ⟨by rw [Go.Lib.cell_of_heap h1]; rfl, by rw [Go.Lib.cell_of_heap h1]; rfl⟩
set_option maxRecDepth 100000 in
set_option maxHeartbeats 4000000 in
/-- The way, with what it asks: nx tells texts in states st; O its own blocks. -/
theorem waysrc {σ : Type} (nx : Wit.Next σ) (S : σ → World → Prop) (O K : Nat → Prop) (hb : Nat) (hSK : ∀ st W W', S st W → Mv (fun k => ¬ K k) W W' → S st W')
    (hNX : ∀ st p W, S st W → p.length ≤ 1000000000 → Calls Try.prog 128 #[.pointer (some ⟨hb, 0, none⟩), .string (Str p)] W fun e W' => Mv O W W' ∧ ((nx st p = none ∧ ∃ t, e = .returned (.tuple #[.string (Str t), .bool false])) ∨ ∃ t st', nx st p = some (t, st') ∧ e = .returned (.tuple #[.string (Str t), .bool true]) ∧ t.length ≤ 1000000000 ∧ S st' W'))
    (root key : List UInt8) (hroot : root.length ≤ 1000000000) (st0 : σ) (w : World) (hO : ∀ k, O k → k < w.heap.size) (hK : ∀ k, K k → k < w.heap.size) (hS : S st0 w) :
    Calls Try.prog 48 #[.string (Str root), .string (Str key), .func (.method "Get") #[.iface 43 (.pointer (some ⟨hb, 0, none⟩))] #[]] w fun e w' => WayOut S w.heap.size (wayS nx key st0 root) e w' ∧ Mv O w w' := by
  obtain ⟨w1, hw1⟩ : ∃ w1, w1 = w.alloc (Obj.cells #[.int .i64 0, .slice none 0 0] 77) := ⟨_, rfl⟩
  have hb1 : Below w.heap.size w w1 := by rw [hw1]; exact below_al (below_rf w) _
  have z1 : w1.heap.size = w.heap.size + 1 := by rw [hw1]; simp
  have hres : w1.heap[w.heap.size]? = some (Obj.cells #[.int .i64 0, .slice none 0 0] 77 (0, 0)) := by rw [hw1]; exact heap_new _ _
  have HSK := hid hSK
  have HNX := hid hNX
  have HO := hid hO
  have HZ1 := hid z1
  have HRES := hid hres
  have HB1 := hid hb1
  have HS1 := hid (hSK _ _ _ hS (Mv.of_below hb1))
  have HKN : Hid (∀ j, w.heap.size ≤ j → ¬ K j) := hid (fun j hj h => by have := hK j h; omega)
  clear hSK hNX hO hK hb1 z1 hres hS
  go_enter Try.func48, Try.ntmps48
  go_wp2_with fail
  rw [← hw1]
  clear hw1
  go_loopw [9, 10, 11, 12] (fun tv xv lvv pv wr => ∃ (k : Nat) (st : σ) (acc : List (List UInt8)) (lv : Nat) (x : Option Itm) (p : List UInt8) (xq : Value), xq = xv ∧ Hid (∀ b o, xq = .pointer (some ⟨b, o, none⟩) → w.heap.size ≤ b) ∧ wr.ownsRow (w.heap.size + 1) 9 1 tv acc.length (strs acc) ∧ ItemAt wr xq x ∧ lvv = .int .i64 (lv : Int) ∧ pv = .string (Str p) ∧ Hid (S st wr) ∧ Hid (behind acc (wayGo nx key k st p lv x) = wayS nx key st0 root) ∧ acc.length + k = 34 ∧ Hid ((x = none → k = 34) ∧ ∀ y, x = some y → lv < k ∧ lv ≤ 32 ∧ y.2.length = 40) ∧ lv ≤ 32 ∧ p.length ≤ 1000000000 ∧ Hid (wr.heap[w.heap.size]? = some (Obj.cells #[.int .i64 0, .slice none 0 0] 77 (0, 0))) ∧ Hid (Mv O w1 wr)) (fun tv _ _ _ _ => 34 - slLen tv)
  case atStart => exact ⟨34, st0, [], 0, none, root, .pointer none, rfl, hid (fun b o h => by cases h), own_nil _ _ _ _, rfl, rfl, rfl, HS1, hid (behind_nil _), rfl, hid ⟨fun _ => rfl, fun y h => by cases h⟩, by omega, hroot, HRES, hid (Mv.refl _ _)⟩
  case round =>
    obtain ⟨k, st, acc, lv, x, p, xq, rfl, HXB, hown, hit, rfl, rfl, HS, HW, hk, HX, hlv, hpl, HR, HM⟩ := hrel
    obtain ⟨A0, c0, rfl⟩ := own_succ hown
    have hk0 : 0 < k := by
      cases x with
      | none => have := HX.out.1 rfl; omega
      | some y => have := (HX.out.2 y rfl).1; omega
    obtain ⟨k, rfl⟩ : ∃ k', k = k' + 1 := ⟨k - 1, by omega⟩
    have HOWN := hid hown
    have HIT := hid hit
    have hws := HM.out.size
    have hOn : ∀ j, w.heap.size ≤ j → ¬ O j := fun j hj h => by have := HO.out j h; omega
    have HON := hid hOn
    clear hown hit hk0 hOn
    go_wp2_with fail
    refine (HNX.out st p wr HS.out hpl).mono ?_; rintro e w2 ⟨hm2, ho⟩
    have HM2 := hid (HM.out.trans hm2 (O := O) (fun _ h => h) (fun _ _ h => h))
    have hr2 := (hm2.block w.heap.size (by have := HZ1.out; omega) (HON.out _ (Nat.le_refl _))).trans HR.out
    have z2 := hm2.size
    rcases ho with ⟨hn, t, rfl⟩ | ⟨t, st', hn, rfl, htl, hS2⟩
    · have hno : wayS nx key st0 root = none := by rw [← HW.out, way_step, hn]; rfl
      have HNO := hid hno
      have r0 : w2.cell? ⟨w.heap.size, 0, none⟩ = some (.int .i64 0) := by rw [Go.Lib.cell_of_heap hr2]; rfl
      have r1 : w2.cell? ⟨w.heap.size, 1, none⟩ = some (.slice none 0 0) := by rw [Go.Lib.cell_of_heap hr2]; rfl
      have r2 : w2.frozen? ⟨w.heap.size, 0, none⟩ = false := Go.Lib.frozen_of_heap hr2 0
      have r3 : w2.frozen? ⟨w.heap.size, 1, none⟩ = false := Go.Lib.frozen_of_heap hr2 1
      clear hno hn hm2 hr2
      go_wp2
      refine bodyPost_ret (v := .tuple #[.slice none 0 0, .agg #[.int .i64 0, .slice none 0 0], .bool false]) ((results_tct rfl _ _ _).trans ?_) rfl ?_
      · go_simp
      rw [HNO.out]
      exact ⟨rfl, mv_cells HB1.out HM2.out (by have := HZ1.out; omega) _ _⟩
    · have hit2 : ItemAt w2 xq x := item_mv HIT.out hm2 (fun b o e => HON.out b (HXB.out b o e))
      have hown2 : w2.ownsRow (w.heap.size + 1) 9 1 (.slice A0 acc.length c0) acc.length (strs acc) := own_mv HOWN.out hm2 (fun j hj => HON.out j (by have := own_block_base HOWN.out _ hj; omega))
      have HOWN2 := hid hown2
      have HR2 := hid hr2
      have HS2 := hid hS2
      have HN := hid hn
      have hx40 : ∀ y, x = some y → y.2.length = 40 := fun y e => (HX.out.2 y e).2.2
      have HND := hid (node_any t htl lv (by omega) xq x hx40 w2 hit2)
      clear hit2 hown2 hr2 hS2 hn hx40 hm2
      go_wp2_with fail
      refine HND.out.mono ?_; rintro e w3 ⟨ho, hb3⟩
      have hr3 := (hb3.block w.heap.size (by have := HZ1.out; omega)).trans HR2.out
      have HM3 := hid (HM2.out.trans (Mv.of_below hb3) (O := O) (O2 := O) (fun _ h => h) (fun _ _ h => h))
      rcases ho with ⟨hn, k', A', n', c', rfl⟩ | ⟨m, ys, v3, hn, rfl, hown3⟩
      · have hno : wayS nx key st0 root = none := by rw [← HW.out, way_step, HN.out]; dsimp only; rw [hn]; rfl
        have HNO := hid hno
        have hal3 := below_al (below_rf w3) (Obj.cells #[.int .i64 k', .slice A' n' c'] 77)
        obtain ⟨w4, hw4⟩ : ∃ w4, w4 = w3.alloc (Obj.cells #[.int .i64 k', .slice A' n' c'] 77) := ⟨_, rfl⟩
        rw [← hw4] at hal3
        have hr4 := (hal3.block w.heap.size (by have := hb3.size; have := HZ1.out; omega)).trans hr3
        have r0 : w4.cell? ⟨w.heap.size, 0, none⟩ = some (.int .i64 0) := by rw [Go.Lib.cell_of_heap hr4]; rfl
        have r1 : w4.cell? ⟨w.heap.size, 1, none⟩ = some (.slice none 0 0) := by rw [Go.Lib.cell_of_heap hr4]; rfl
        have r2 : w4.frozen? ⟨w.heap.size, 0, none⟩ = false := Go.Lib.frozen_of_heap hr4 0
        have r3 : w4.frozen? ⟨w.heap.size, 1, none⟩ = false := Go.Lib.frozen_of_heap hr4 1
        have HM4 := hid (HM3.out.trans (Mv.of_below hal3) (O := O) (O2 := O) (fun _ h => h) (fun _ _ h => h))
        clear hno hn hr3 hr4 hal3 hb3
        rw [hw4] at r0 r1 r2 r3 HM4
        clear hw4
        go_wp2
        refine bodyPost_ret (v := .tuple #[.slice none 0 0, .agg #[.int .i64 0, .slice none 0 0], .bool false]) ((results_tct rfl _ _ _).trans ?_) rfl ?_
        · go_simp
        rw [HNO.out]
        exact ⟨rfl, mv_cells HB1.out HM4.out (by have := HZ1.out; omega) _ _⟩
      · obtain ⟨A3, c3, rfl, hc3, hrd3, hn3, hs3⟩ := own_shape hown3
        have hnf := (node_facts hn).2
        have hpf := parse_facts (node_facts hn).1
        obtain ⟨w4, hw4⟩ : ∃ w4, w4 = w3.alloc (Obj.cells #[.int .i64 (m : Int), .slice A3 ys.length c3] 77) := ⟨_, rfl⟩
        have hal4 : Below w3.heap.size w3 w4 := by rw [hw4]; exact below_al (below_rf w3) _
        have z4 : w4.heap.size = w3.heap.size + 1 := by rw [hw4]; simp
        have hnod4 : w4.heap[w3.heap.size]? = some (Obj.cells #[.int .i64 (m : Int), .slice A3 ys.length c3] 77 (0, 0)) := by rw [hw4]; exact heap_new _ _
        have hr4 := (hal4.block w.heap.size (by have := hb3.size; have := HZ1.out; omega)).trans hr3
        have hown4 := own_of_below (own_of_below HOWN2.out hb3) hal4
        have hm4 := HM3.out.trans (Mv.of_below hal4) (O := O) (O2 := O) (fun _ h => h) (fun _ _ h => h)
        have HNOD4 := hid hnod4
        have HR4 := hid hr4
        have HOWN4 := hid hown4
        have HM4 := hid hm4
        have HRD4 := hid (hrd3.below hal4)
        have HO34 := hid (own_of_below hown3 hal4)
        have HS4 := hid (HSK.out _ _ _ HS2.out (Mv.of_below (hb3.trans (hal4.mono hb3.size))))
        have HZ4 := hid z4
        have HZ3 := hid hb3.size
        have HNF := hid hnf
        have HPF := hid hpf
        have HN3 := hid hn
        have HS3 := hid hs3
        have hz41 : w.heap.size + 1 ≤ w4.heap.size := by have := HZ1.out; have := hb3.size; omega
        have hal : acc.length ≤ 34 := by omega
        clear hr3 hal4 z4 hnod4 hr4 hown4 hm4 hrd3 hown3 hnf hpf hn hs3 hb3
        go_wp2_with (at_builtin; rw [← hw4]; refine wpList_app1 (w0 := w4) ti_st (.tmp 38) (.tmp 40) (by rfl) (by rfl) (w.heap.size + 1) [.string (Str t)] 9 1 (by rfl) (by rw [HZ4.out]; rfl) HOWN4.out (by rfl) (by intro u hu; rw [List.mem_singleton.1 hu]; rfl) ((below_rf w4).mono hz41) hz41 (by omega) ?_; intro A5 c5 w5 ho5 hg5 hB5 hb5; obtain ⟨n0, n1⟩ := app_node hg5 (fun j hj => own_lt HOWN2.out j hj) HZ3.out HNOD4.out)
        have hx5 : Mv (fun j => (Value.slice A0 acc.length c0).ownBlock = some j) w4 w5 := (Mv.alloc (O := fun j => (Value.slice A0 acc.length c0).ownBlock = some j) w4 _).trans (Mv.grown (O := fun j => (Value.slice A0 acc.length c0).ownBlock = some j) hg5 (fun j hj _ => hj)) (fun _ h => h) (fun _ _ h => h)
        have hxl : ∀ j, (Value.slice A0 acc.length c0).ownBlock = some j → w.heap.size + 1 ≤ j ∧ j < w2.heap.size := fun j hj => ⟨own_block_base HOWN2.out j hj, own_lt HOWN2.out j hj⟩
        have hz45 := hx5.size
        have hnod5 := (hx5.block w3.heap.size (by have := HZ4.out; omega) (fun e => by have := hxl _ e; have := HZ3.out; omega)).trans HNOD4.out
        have hr5 := (hx5.block w.heap.size (by omega) (fun e => by have := hxl _ e; omega)).trans HR4.out
        have hrd5 : Rd w5 A3 (its ys) := rdt_mv HRD4.out hx5 (fun b o e h => by
          have h1 := hxl b h
          have h2 : w2.heap.size ≤ b := (HS3.out _ e).2.1
          omega)
        have ho35 := own_mv HO34.out hx5 (fun j hj h => by
          have h1 := hxl j h
          have h2 := own_block_base HO34.out j hj
          omega)
        have hs5 := HSK.out _ _ _ HS4.out (hx5.mono (fun j hj h e => HKN.out j (by have := hxl j h; omega) e))
        have hm5 : Mv O w1 w5 := (HM4.out.trans hx5 (O := fun j => O j ∨ (w.heap.size + 1 ≤ j)) (fun _ h => .inl h) (fun j _ h => .inr (hxl j h).1)).mono (fun j hj h => by
          rcases h with h | h
          · exact h
          · have := HZ1.out; omega)
        rw [show strs acc ++ [Value.string (Str t)] = strs (acc ++ [t]) by simp [strs]] at ho5
        have HO5 := hid ho5
        have HNOD5 := hid hnod5
        have HR5 := hid hr5
        have HRD5 := hid hrd5
        have HO35 := hid ho35
        have HS5 := hid hs5
        have HM5 := hid hm5
        have HST := hid (step_any m ys key A3 c3 (by have := HPF.out.2.1; omega) (by have := HPF.out.1; omega) (right_ok HPF.out.2.2.2.1) w5 hrd5)
        clear hx5 hxl hnod5 hr5 hrd5 ho35 hs5 hm5 ho5 hg5 hB5 hz45
        refine HST.out.mono ?_; rintro e w6 ⟨ho, hb6⟩
        have hr6 := (hb6.block w.heap.size (by omega)).trans HR5.out
        have hnod6 := (hb6.block w3.heap.size (by have := World.block_lt_of_cell? _ _ n0; exact this)).trans HNOD5.out
        have HM6 := hid (HM5.out.trans (Mv.of_below hb6) (O := O) (O2 := O) (fun _ h => h) (fun _ _ h => h))
        have HS6 := hid (HSK.out _ _ _ HS5.out (Mv.of_below hb6))
        have HO6 := hid (own_of_below HO5.out hb6)
        have HO36 := hid (own_of_below HO35.out hb6)
        have HRD6 := hid (HRD5.out.below hb6)
        have hz56 := hb6.size
        have HR6 := hid hr6
        have HNOD6 := hid hnod6
        clear n0 n1 hr6 hnod6 hb6
        by_cases hend : endsAt (m, ys) key = true
        · have hwn : wayS nx key st0 root = some (acc ++ [t], (m, ys), st') := by
            rw [← HW.out, way_step, HN.out]; dsimp only; rw [HN3.out]; dsimp only; rw [if_pos hend]; rfl
          unfold StepOut at ho
          rw [if_pos hend] at ho
          subst ho
          have HWN := hid hwn
          have hres5 := HR6.out
          obtain ⟨w5', hw5'⟩ : ∃ w5', w5' = w6 := ⟨_, rfl⟩
          have zz : w3.heap.size ≠ w.heap.size := by have := HZ3.out; have := HZ1.out; omega
          have s0 : ∀ W, CellD w6 (w.heap.size) 77 (.int .i64 0) (.slice none 0 0) (.int .i64 (m : Int)) (.slice A3 ys.length c3) false W → W.cell? ⟨w.heap.size, 0, none⟩ = some (.int .i64 0) := fun W h => h.gc0
          have s1 : ∀ W, CellD w6 (w.heap.size) 77 (.int .i64 0) (.slice none 0 0) (.int .i64 (m : Int)) (.slice A3 ys.length c3) false W → W.cell? ⟨w.heap.size, 1, none⟩ = some (.slice none 0 0) := fun W h => h.gc1
          have s2 : ∀ W, CellD w6 (w.heap.size) 77 (.int .i64 0) (.slice none 0 0) (.int .i64 (m : Int)) (.slice A3 ys.length c3) false W → W.frozen? ⟨w.heap.size, 0, none⟩ = false := fun W h => h.fz 0
          have s3 : ∀ W, CellD w6 (w.heap.size) 77 (.int .i64 0) (.slice none 0 0) (.int .i64 (m : Int)) (.slice A3 ys.length c3) false W → W.frozen? ⟨w.heap.size, 1, none⟩ = false := fun W h => h.fz 1
          have HSTO := hid (fun W (h : CellD w6 (w.heap.size) 77 (.int .i64 0) (.slice none 0 0) (.int .i64 (m : Int)) (.slice A3 ys.length c3) false W) => h.set)
          have HCS := hid (CellD.start (d0 := .int .i64 (m : Int)) (d1 := .slice A3 ys.length c3) hres5)
          have n0 : ∀ W, Mv (fun k => k = w.heap.size) w6 W → W.cell? ⟨w3.heap.size, 0, none⟩ = some (.int .i64 (m : Int)) := fun W h => h.cell (by rw [Go.Lib.cell_of_heap HNOD6.out]; rfl) zz
          have n1 : ∀ W, Mv (fun k => k = w.heap.size) w6 W → W.cell? ⟨w3.heap.size, 1, none⟩ = some (.slice A3 ys.length c3) := fun W h => h.cell (by rw [Go.Lib.cell_of_heap HNOD6.out]; rfl) zz
          clear hend hwn hres5 hw5' zz
          go_wp2
          refine wp_region_mixed (CellD w6 w.heap.size 77 (.int .i64 0) (.slice none 0 0) (.int .i64 (m : Int)) (.slice A3 ys.length c3)) 3 (by decide) (by kernel_rfl) (by kernel_rfl) HCS.out ?_
          repeat (
            refine wpQuietM_step (fun K hK => ?_)
            first
              | (refine mx_skip (by rfl) (by decide) (hK _ ?_)
                 clear hK K)
              | (refine mx_read (by rfl) (by decide) ?_
                 apply Exists.intro
                 refine ⟨fun b W hW => ?_, hK _ ?_⟩
                 (have hWm := hW.1; go_simp; first | rfl | (rw [if_neg (by omega)]) | (rw [if_pos (by omega)]))
                 clear hK K)
              | (refine mx_store (by rfl) (by decide) ⟨fun W hW => ?_, hK _ ?_⟩
                 have hsto := HSTO.out W hW
                 (refine ⟨_, ?_, hsto⟩; clear hsto; go_simp)
                 clear hK K)
            go_simp)
          refine wpQuietM_nil ?_
          intro W hW
          have r0 := hW.gd0
          have r1 := hW.gd1
          have HW6 := hid hW
          clear n0 n1 s0 s1 s2 s3 hW
          go_wp2
          refine bodyPost_ret (v := .tuple #[.slice A5 (acc.length + 1) c5, .agg #[.int .i64 (m : Int), .slice A3 ys.length c3], .bool true]) ((results_tct rfl _ _ _).trans ?_) rfl ?_
          · go_simp
          rw [HWN.out]
          have hmw : Mv O w W := ((Mv.of_below HB1.out).trans HM6.out (O := fun j => O j ∨ j = w.heap.size) (fun _ h => .inl h) (fun _ _ h => .inl h) |>.trans HW6.out.1 (O := fun j => O j ∨ j = w.heap.size) (fun _ h => h) (fun _ _ h => .inr h)).mono (fun j hj h => by
            rcases h with h | h
            · exact h
            · omega)
          refine ⟨⟨_, _, rfl, ?_, own_base (own_mv HO36.out HW6.out.1 (fun j hj e => by have := own_block_base HO36.out _ hj; have := HZ1.out; omega)) (by have := HZ1.out; omega), HSK.out _ _ _ HS6.out (HW6.out.1.mono (fun j hj e h => HKN.out j (by omega) h))⟩, hmw⟩
          rw [show (acc ++ [t]).length = acc.length + 1 by simp]
          exact own_base (own_mv HO6.out HW6.out.1 (fun j hj e => by have := own_block_base HO6.out _ hj; omega)) (by omega)
        · obtain ⟨i, hi⟩ : ∃ i, i = placeS ys key := ⟨_, rfl⟩
          unfold StepOut at ho
          rw [if_neg hend, ← hi] at ho
          obtain ⟨b, o, rfl, rfl⟩ := ho
          have hm0 : 0 < m ∧ i < ys.length := by
            have h1 := place_le ys key
            unfold endsAt at hend
            dsimp only at hend
            rw [← hi] at hend h1
            simp only [Bool.or_eq_true, decide_eq_true_eq] at hend
            omega
          obtain ⟨b', o', e, hc1, hc2⟩ := rd_itm HRD6.out hm0.2
          injection e with e; injection e with e1 e2; subst e1; subst e2
          have hx40 : (itm ys i).2.length = 40 := okVal_len (HPF.out.2.2.1 _ (by rw [itm_eq ys i hm0.2]; exact List.getElem_mem _)) hm0.1
          have hw2 : behind (acc ++ [t]) (wayGo nx key k st' ((itm ys i).2.take 32) m (some (itm ys i))) = wayS nx key st0 root := by
            rw [← HW.out, way_step, HN.out]; dsimp only; rw [HN3.out]; dsimp only; rw [if_neg hend, ← hi, behind_snoc]
          obtain ⟨y, hy⟩ : ∃ y, y = itm ys i := ⟨_, rfl⟩
          rw [← hy] at hx40 hw2 hc1 hc2
          have HW2 := hid hw2
          have HI1 : Hid (ItemAt w6 (.pointer (some ⟨b, o + i * 2, none⟩)) (some y)) := hid ⟨b, o + i * 2, rfl, hc1, by rw [show o + i * 2 + 1 = o + i * 2 + 1 from rfl]; exact hc2⟩
          have n0 : w6.cell? ⟨w3.heap.size, 0, none⟩ = some (.int .i64 (m : Int)) := by rw [Go.Lib.cell_of_heap HNOD6.out]; rfl
          have hbw : w.heap.size ≤ b := by
            have h1 : w2.heap.size ≤ b := (HS3.out _ rfl).2.1
            have := HZ1.out
            omega
          have hmk : m ≤ 32 ∧ m < k := by
            refine ⟨HPF.out.1, ?_⟩
            cases x with
            | none => have := HX.out.1 rfl; have := HPF.out.1; omega
            | some z => have h1 := (HX.out.2 z rfl).1; have h2 := (stands_lv (HNF.out z rfl)).1; omega
          have HMK := hid hmk
          have HX40 := hid hx40
          clear hend hm0 hw2 hy hc1 hmk hi
          go_wp2
          go_quiet (fail)
          go_wp2
          go_roundw
          case rel =>
            refine ⟨k, st', acc ++ [t], m, some y, y.2.take 32, .pointer (some ⟨b, o + i * 2, none⟩), rfl, hid (fun b' o' e => by injection e with e; injection e with e; injection e with e1 e2; omega), ?_, HI1.out, rfl, by simp, hid (HSK.out _ _ _ HS6.out (Mv.drewN w6 _)), HW2, by simp; omega, hid ⟨fun h => (by cases h), fun z e => (by injection e with e; subst e; exact ⟨HMK.out.2, HMK.out.1, HX40.out⟩)⟩, HMK.out.1, by rw [List.length_take]; omega, HR6, hid (HM6.out.trans (Mv.drewN w6 _) (O := O) (O2 := O) (fun _ h => h) (fun _ _ h => h))⟩
            rw [show (acc ++ [t]).length = acc.length + 1 by simp]
            exact HO6.out
          case measure => simp [slLen]; omega
end Go.Proofs.Yteeonfnaikndfaa.W11
namespace Go.Proofs.Yteeonfnaikndfaa.W11
open Go Go.RowKit Go.Proofs.Yteeonfnaikndfaa.Lib Go.Proofs.Yteeonfnaikndfaa.Sha Go.Proofs.Yteeonfnaikndfaa.T08 Go.Proofs.Yteeonfnaikndfaa.QTail Go.Proofs.Yteeonfnaikndfaa.Itms Go.Proofs.Yteeonfnaikndfaa.WSeq Go.Proofs.Yteeonfnaikndfaa.Ord Go.Proofs.Yteeonfnaikndfaa.Tree Go.Proofs.Yteeonfnaikndfaa.W08 Go.Proofs.Yteeonfnaikndfaa.Wit Go.Proofs.Yteeonfnaikndfaa.W01
open Go.Proofs.Yteeonfnaikndfaa.Run hiding round_any yield_any
theorem j64 (i : Nat) (x y : Int) (hx0 : 0 ≤ x) (hx : x % 2 ^ i = 0) (hx1 : x < 2 ^ 62) (hy0 : 0 ≤ y) (hy : y < 2 ^ i) (hy1 : y < 2 ^ 62) : bits .or .i64 x y = x + y :=
  bits_join .i64 62 (by decide) (fun n h0 h1 => by rw [IntKind.wrap_i64]; omega) i x y hx0 hx hx1 hy0 hy hy1
theorem n4_walk (s : List UInt8) : bits .or .i64 (bits .or .i64 (bits .or .i64 (wrap64 (wrap64 (bt s 0) * 16777216)) (wrap64 (wrap64 (bt s 1) * 65536))) (wrap64 (wrap64 (bt s 2) * 256))) (wrap64 (bt s 3)) = ((n4 s : Nat) : Int) := by
  have a0 := bt_nn s 0; have a1 := bt_nn s 1; have a2 := bt_nn s 2; have a3 := bt_nn s 3
  have b0 := bt_lt s 0; have b1 := bt_lt s 1; have b2 := bt_lt s 2; have b3 := bt_lt s 3
  have w0 : wrap64 (wrap64 (bt s 0) * 16777216) = bt s 0 * 16777216 := by unfold wrap64; omega
  have w1 : wrap64 (wrap64 (bt s 1) * 65536) = bt s 1 * 65536 := by unfold wrap64; omega
  have w2 : wrap64 (wrap64 (bt s 2) * 256) = bt s 2 * 256 := by unfold wrap64; omega
  have w3 : wrap64 (bt s 3) = bt s 3 := by unfold wrap64; omega
  rw [w0, w1, w2, w3, j64 24 (bt s 0 * 16777216) (bt s 1 * 65536) (by omega) (by omega) (by omega) (by omega) (by omega) (by omega), j64 16 (bt s 0 * 16777216 + bt s 1 * 65536) (bt s 2 * 256) (by omega) (by omega) (by omega) (by omega) (by omega) (by omega), j64 8 (bt s 0 * 16777216 + bt s 1 * 65536 + bt s 2 * 256) (bt s 3) (by omega) (by omega) (by omega) (by omega) (by omega) (by omega)]
  rw [bt_bat, bt_bat, bt_bat, bt_bat]; unfold n4; omega
theorem n4_lt (s : List UInt8) : n4 s < 4294967296 := by
  unfold n4
  have := (bat s 0).toNat_lt; have := (bat s 1).toNat_lt; have := (bat s 2).toNat_lt; have := (bat s 3).toNat_lt
  omega
attribute [local go_sem] Str_size Str_toList Str_extract Str_append Str_get bt_nn bt_lt List.length_append take_rest
def CutOut (s : List UInt8) (e : Ending) : Prop :=
  (cutP s = none ∧ e = .returned (.tuple #[.string (Str []), .string (Str []), .bool false])) ∨ ∃ a b, cutP s = some (a, b) ∧ e = .returned (.tuple #[.string (Str a), .string (Str b), .bool true])
set_option maxRecDepth 100000 in
set_option maxHeartbeats 1600000 in
theorem cut_any (s : List UInt8) (w : World) (hs : s.length ≤ 1000000000) :
    Calls Try.prog 66 #[.string (Str s)] w fun e w' => CutOut s e ∧ Below w.heap.size w w' := by
  go_enter Try.func66, Try.ntmps66
  by_cases h2 : s.length < 4
  · have hf : cutP s = none := by unfold cutP; rw [if_pos h2]
    have HF := hid hf
    clear hf
    go_wp2
    go_ret3
    exact ⟨.inl ⟨HF.out, by rw [Str_nil]; rfl⟩, below_rf w⟩
  · obtain ⟨n, hn⟩ : ∃ n, n = n4 s := ⟨_, rfl⟩
    have hn1 : n < 4294967296 := by rw [hn]; exact n4_lt s
    have hw2 : bits .or .i64 (bits .or .i64 (bits .or .i64 (wrap64 (wrap64 (bt s 0) * 16777216)) (wrap64 (wrap64 (bt s 1) * 65536))) (wrap64 (wrap64 (bt s 2) * 256))) (wrap64 (bt s 3)) = (n : Int) := by rw [hn]; exact n4_walk s
    by_cases h3 : s.length - 4 < n
    · have hf : cutP s = none := by unfold cutP; rw [if_neg h2, ← hn, if_pos h3]
      have HF := hid hf
      have HN := hid hn
      clear hf hn
      go_wp2
      go_quiet (fail)
      go_wp2
      go_ret3
      exact ⟨.inl ⟨HF.out, by rw [Str_nil]; rfl⟩, below_drewN (below_rf w) _⟩
    · have hf : cutP s = some ((s.drop 4).take n, (s.drop 4).drop n) := by unfold cutP; rw [if_neg h2, ← hn, if_neg h3]
      have HF := hid hf
      have HN := hid hn
      clear hf hn
      go_wp2
      go_quiet (fail)
      go_wp2
      go_quiet (fail)
      go_wp2
      go_ret3
      refine ⟨.inr ⟨_, _, HF.out, ?_⟩, below_drewN (below_drewN (below_rf w) _) _⟩
      simp [List.drop_drop, Nat.add_comm]
      rw [List.take_of_length_le (by simp; omega)]
theorem cut_short {s a b : List UInt8} (h : cutP s = some (a, b)) : a.length ≤ s.length ∧ b.length ≤ s.length := by
  unfold cutP at h
  split at h
  · cases h
  · split at h
    · cases h
    · injection h with h; injection h with h1 h2
      subst h1; subst h2
      simp only [List.length_drop, List.length_take]; omega
def RestAt (rb : Nat) (r : List UInt8) (W : World) : Prop := W.heap[rb]? = some (Obj.cells #[.string (Str r)] 9 (0, 0)) ∧ r.length ≤ 1048576
set_option maxRecDepth 100000 in
set_option maxHeartbeats 1600000 in
theorem told1_any (rb : Nat) (r p : List UInt8) (w : World) (hS : RestAt rb r w) (hp : p.length ≤ 1000000000) :
    Calls Try.prog 65 #[.string (Str p), .pointer (some ⟨rb, 0, none⟩)] w fun e w' => Mv (fun k => k = rb) w w' ∧ ((proofNx r p = none ∧ ∃ t, e = .returned (.tuple #[.string (Str t), .bool false])) ∨ ∃ t r', proofNx r p = some (t, r') ∧ e = .returned (.tuple #[.string (Str t), .bool true]) ∧ t.length ≤ 1000000000 ∧ RestAt rb r' w') := by
  obtain ⟨hb, hr⟩ := hS
  have c0 : w.cell? ⟨rb, 0, none⟩ = some (.string (Str r)) := by rw [Go.Lib.cell_of_heap hb]; rfl
  have hrl := (Array.getElem?_eq_some_iff.1 hb).1
  have HB := hid hb
  clear hb
  go_enter Try.func65, Try.ntmps65
  go_wp2_with fail
  refine (cut_any r w (by omega)).mono ?_; rintro e w1 ⟨ho, hb1⟩
  have hb2 := (hb1.block rb hrl).trans HB.out
  have d0 : w1.cell? ⟨rb, 0, none⟩ = some (.string (Str r)) := by rw [Go.Lib.cell_of_heap hb2]; rfl
  have d1 : w1.frozen? ⟨rb, 0, none⟩ = false := Go.Lib.frozen_of_heap hb2 0
  have HB1 := hid hb1
  have HB2 := hid hb2
  clear hb1 hb2 c0
  rcases ho with ⟨hc, rfl⟩ | ⟨a, b, hc, rfl⟩
  · have hn : proofNx r p = none := by unfold proofNx; rw [hc]
    have HN := hid hn
    clear hn hc
    go_wp2
    go_ret2
    exact ⟨(Mv.of_below HB1.out).trans (Mv.setCell (O := fun k => k = rb) w1 ⟨rb, 0, none⟩ _ rfl) (fun _ h => h) (fun _ _ h => h), .inl ⟨HN.out, _, rfl⟩⟩
  · obtain ⟨ha, hbl⟩ := cut_short hc
    obtain ⟨w2, hw2⟩ : ∃ w2, w2 = w1.setCell ⟨rb, 0, none⟩ (.string (Str b)) := ⟨_, rfl⟩
    have hm2 : Mv (fun k => k = rb) w w2 := by rw [hw2]; exact (Mv.of_below HB1.out).trans (Mv.setCell (O := fun k => k = rb) w1 ⟨rb, 0, none⟩ _ rfl) (fun _ h => h) (fun _ _ h => h)
    have hbb : w2.heap[rb]? = some (Obj.cells #[.string (Str b)] 9 (0, 0)) := by
      rw [hw2]
      exact heap_setCell_same w1 rb 0 _ _ _ HB2.out
    have hpx : proofNx r p = if sha a = p then some (a, b) else none := by unfold proofNx; rw [hc]
    have HPX := hid hpx
    have HM2 := hid hm2
    have HBB := hid hbb
    have HPR := hid (print_any a w2 (by omega))
    clear hc hm2 hbb hpx
    go_wp2_with fail
    rw [← hw2]
    clear hw2
    refine HPR.out.mono ?_; rintro e w3 ⟨rfl, hb3⟩
    have HM3 := hid (HM2.out.trans (Mv.of_below hb3) (O := fun k => k = rb) (O2 := fun k => k = rb) (fun _ h => h) (fun _ _ h => h))
    have HB3 := hid ((hb3.block rb (Array.getElem?_eq_some_iff.1 HBB.out).1).trans HBB.out)
    clear hb3
    obtain ⟨sa, hsa⟩ : ∃ sa, sa = sha a := ⟨_, rfl⟩
    rw [← hsa] at HPX ⊢
    clear hsa
    by_cases he : sa = p
    · have e1 : (sa == p) = true := beq_iff_eq.2 he
      have HE := hid he
      clear he
      go_wp2
      go_ret2
      exact ⟨HM3.out, .inr ⟨a, b, by rw [HPX.out, if_pos HE.out], rfl, by omega, HB3.out, by omega⟩⟩
    · have e1 : (sa == p) = false := beq_eq_false_iff_ne.2 he
      have HE := hid he
      clear he
      go_wp2
      go_ret2
      exact ⟨HM3.out, .inl ⟨by rw [HPX.out, if_neg HE.out], _, rfl⟩⟩
set_option maxRecDepth 100000 in
set_option maxHeartbeats 4000000 in
/-- The way, with what it asks: nx tells texts in states st; O its own blocks. -/
theorem waytold {σ : Type} (nx : Wit.Next σ) (S : σ → World → Prop) (O K : Nat → Prop) (hb : Nat) (hSK : ∀ st W W', S st W → Mv (fun k => ¬ K k) W W' → S st W')
    (hNX : ∀ st p W, S st W → p.length ≤ 1000000000 → Calls Try.prog 65 #[.string (Str p), .pointer (some ⟨hb, 0, none⟩)] W fun e W' => Mv O W W' ∧ ((nx st p = none ∧ ∃ t, e = .returned (.tuple #[.string (Str t), .bool false])) ∨ ∃ t st', nx st p = some (t, st') ∧ e = .returned (.tuple #[.string (Str t), .bool true]) ∧ t.length ≤ 1000000000 ∧ S st' W'))
    (root key : List UInt8) (hroot : root.length ≤ 1000000000) (st0 : σ) (w : World) (hO : ∀ k, O k → k < w.heap.size) (hK : ∀ k, K k → k < w.heap.size) (hS : S st0 w) :
    Calls Try.prog 48 #[.string (Str root), .string (Str key), .func (.func 65) #[] #[.pointer (some ⟨hb, 0, none⟩)]] w fun e w' => WayOut S w.heap.size (wayS nx key st0 root) e w' ∧ Mv O w w' := by
  obtain ⟨w1, hw1⟩ : ∃ w1, w1 = w.alloc (Obj.cells #[.int .i64 0, .slice none 0 0] 77) := ⟨_, rfl⟩
  have hb1 : Below w.heap.size w w1 := by rw [hw1]; exact below_al (below_rf w) _
  have z1 : w1.heap.size = w.heap.size + 1 := by rw [hw1]; simp
  have hres : w1.heap[w.heap.size]? = some (Obj.cells #[.int .i64 0, .slice none 0 0] 77 (0, 0)) := by rw [hw1]; exact heap_new _ _
  have HSK := hid hSK
  have HNX := hid hNX
  have HO := hid hO
  have HZ1 := hid z1
  have HRES := hid hres
  have HB1 := hid hb1
  have HS1 := hid (hSK _ _ _ hS (Mv.of_below hb1))
  have HKN : Hid (∀ j, w.heap.size ≤ j → ¬ K j) := hid (fun j hj h => by have := hK j h; omega)
  clear hSK hNX hO hK hb1 z1 hres hS
  go_enter Try.func48, Try.ntmps48
  go_wp2_with fail
  rw [← hw1]
  clear hw1
  go_loopw [9, 10, 11, 12] (fun tv xv lvv pv wr => ∃ (k : Nat) (st : σ) (acc : List (List UInt8)) (lv : Nat) (x : Option Itm) (p : List UInt8) (xq : Value), xq = xv ∧ Hid (∀ b o, xq = .pointer (some ⟨b, o, none⟩) → w.heap.size ≤ b) ∧ wr.ownsRow (w.heap.size + 1) 9 1 tv acc.length (strs acc) ∧ ItemAt wr xq x ∧ lvv = .int .i64 (lv : Int) ∧ pv = .string (Str p) ∧ Hid (S st wr) ∧ Hid (behind acc (wayGo nx key k st p lv x) = wayS nx key st0 root) ∧ acc.length + k = 34 ∧ Hid ((x = none → k = 34) ∧ ∀ y, x = some y → lv < k ∧ lv ≤ 32 ∧ y.2.length = 40) ∧ lv ≤ 32 ∧ p.length ≤ 1000000000 ∧ Hid (wr.heap[w.heap.size]? = some (Obj.cells #[.int .i64 0, .slice none 0 0] 77 (0, 0))) ∧ Hid (Mv O w1 wr)) (fun tv _ _ _ _ => 34 - slLen tv)
  case atStart => exact ⟨34, st0, [], 0, none, root, .pointer none, rfl, hid (fun b o h => by cases h), own_nil _ _ _ _, rfl, rfl, rfl, HS1, hid (behind_nil _), rfl, hid ⟨fun _ => rfl, fun y h => by cases h⟩, by omega, hroot, HRES, hid (Mv.refl _ _)⟩
  case round =>
    obtain ⟨k, st, acc, lv, x, p, xq, rfl, HXB, hown, hit, rfl, rfl, HS, HW, hk, HX, hlv, hpl, HR, HM⟩ := hrel
    obtain ⟨A0, c0, rfl⟩ := own_succ hown
    have hk0 : 0 < k := by
      cases x with
      | none => have := HX.out.1 rfl; omega
      | some y => have := (HX.out.2 y rfl).1; omega
    obtain ⟨k, rfl⟩ : ∃ k', k = k' + 1 := ⟨k - 1, by omega⟩
    have HOWN := hid hown
    have HIT := hid hit
    have hws := HM.out.size
    have hOn : ∀ j, w.heap.size ≤ j → ¬ O j := fun j hj h => by have := HO.out j h; omega
    have HON := hid hOn
    clear hown hit hk0 hOn
    go_wp2_with fail
    refine (HNX.out st p wr HS.out hpl).mono ?_; rintro e w2 ⟨hm2, ho⟩
    have HM2 := hid (HM.out.trans hm2 (O := O) (fun _ h => h) (fun _ _ h => h))
    have hr2 := (hm2.block w.heap.size (by have := HZ1.out; omega) (HON.out _ (Nat.le_refl _))).trans HR.out
    have z2 := hm2.size
    rcases ho with ⟨hn, t, rfl⟩ | ⟨t, st', hn, rfl, htl, hS2⟩
    · have hno : wayS nx key st0 root = none := by rw [← HW.out, way_step, hn]; rfl
      have HNO := hid hno
      have r0 : w2.cell? ⟨w.heap.size, 0, none⟩ = some (.int .i64 0) := by rw [Go.Lib.cell_of_heap hr2]; rfl
      have r1 : w2.cell? ⟨w.heap.size, 1, none⟩ = some (.slice none 0 0) := by rw [Go.Lib.cell_of_heap hr2]; rfl
      have r2 : w2.frozen? ⟨w.heap.size, 0, none⟩ = false := Go.Lib.frozen_of_heap hr2 0
      have r3 : w2.frozen? ⟨w.heap.size, 1, none⟩ = false := Go.Lib.frozen_of_heap hr2 1
      clear hno hn hm2 hr2
      go_wp2
      refine bodyPost_ret (v := .tuple #[.slice none 0 0, .agg #[.int .i64 0, .slice none 0 0], .bool false]) ((results_tct rfl _ _ _).trans ?_) rfl ?_
      · go_simp
      rw [HNO.out]
      exact ⟨rfl, mv_cells HB1.out HM2.out (by have := HZ1.out; omega) _ _⟩
    · have hit2 : ItemAt w2 xq x := item_mv HIT.out hm2 (fun b o e => HON.out b (HXB.out b o e))
      have hown2 : w2.ownsRow (w.heap.size + 1) 9 1 (.slice A0 acc.length c0) acc.length (strs acc) := own_mv HOWN.out hm2 (fun j hj => HON.out j (by have := own_block_base HOWN.out _ hj; omega))
      have HOWN2 := hid hown2
      have HR2 := hid hr2
      have HS2 := hid hS2
      have HN := hid hn
      have hx40 : ∀ y, x = some y → y.2.length = 40 := fun y e => (HX.out.2 y e).2.2
      have HND := hid (node_any t htl lv (by omega) xq x hx40 w2 hit2)
      clear hit2 hown2 hr2 hS2 hn hx40 hm2
      go_wp2_with fail
      refine HND.out.mono ?_; rintro e w3 ⟨ho, hb3⟩
      have hr3 := (hb3.block w.heap.size (by have := HZ1.out; omega)).trans HR2.out
      have HM3 := hid (HM2.out.trans (Mv.of_below hb3) (O := O) (O2 := O) (fun _ h => h) (fun _ _ h => h))
      rcases ho with ⟨hn, k', A', n', c', rfl⟩ | ⟨m, ys, v3, hn, rfl, hown3⟩
      · have hno : wayS nx key st0 root = none := by rw [← HW.out, way_step, HN.out]; dsimp only; rw [hn]; rfl
        have HNO := hid hno
        have hal3 := below_al (below_rf w3) (Obj.cells #[.int .i64 k', .slice A' n' c'] 77)
        obtain ⟨w4, hw4⟩ : ∃ w4, w4 = w3.alloc (Obj.cells #[.int .i64 k', .slice A' n' c'] 77) := ⟨_, rfl⟩
        rw [← hw4] at hal3
        have hr4 := (hal3.block w.heap.size (by have := hb3.size; have := HZ1.out; omega)).trans hr3
        have r0 : w4.cell? ⟨w.heap.size, 0, none⟩ = some (.int .i64 0) := by rw [Go.Lib.cell_of_heap hr4]; rfl
        have r1 : w4.cell? ⟨w.heap.size, 1, none⟩ = some (.slice none 0 0) := by rw [Go.Lib.cell_of_heap hr4]; rfl
        have r2 : w4.frozen? ⟨w.heap.size, 0, none⟩ = false := Go.Lib.frozen_of_heap hr4 0
        have r3 : w4.frozen? ⟨w.heap.size, 1, none⟩ = false := Go.Lib.frozen_of_heap hr4 1
        have HM4 := hid (HM3.out.trans (Mv.of_below hal3) (O := O) (O2 := O) (fun _ h => h) (fun _ _ h => h))
        clear hno hn hr3 hr4 hal3 hb3
        rw [hw4] at r0 r1 r2 r3 HM4
        clear hw4
        go_wp2
        refine bodyPost_ret (v := .tuple #[.slice none 0 0, .agg #[.int .i64 0, .slice none 0 0], .bool false]) ((results_tct rfl _ _ _).trans ?_) rfl ?_
        · go_simp
        rw [HNO.out]
        exact ⟨rfl, mv_cells HB1.out HM4.out (by have := HZ1.out; omega) _ _⟩
      · obtain ⟨A3, c3, rfl, hc3, hrd3, hn3, hs3⟩ := own_shape hown3
        have hnf := (node_facts hn).2
        have hpf := parse_facts (node_facts hn).1
        obtain ⟨w4, hw4⟩ : ∃ w4, w4 = w3.alloc (Obj.cells #[.int .i64 (m : Int), .slice A3 ys.length c3] 77) := ⟨_, rfl⟩
        have hal4 : Below w3.heap.size w3 w4 := by rw [hw4]; exact below_al (below_rf w3) _
        have z4 : w4.heap.size = w3.heap.size + 1 := by rw [hw4]; simp
        have hnod4 : w4.heap[w3.heap.size]? = some (Obj.cells #[.int .i64 (m : Int), .slice A3 ys.length c3] 77 (0, 0)) := by rw [hw4]; exact heap_new _ _
        have hr4 := (hal4.block w.heap.size (by have := hb3.size; have := HZ1.out; omega)).trans hr3
        have hown4 := own_of_below (own_of_below HOWN2.out hb3) hal4
        have hm4 := HM3.out.trans (Mv.of_below hal4) (O := O) (O2 := O) (fun _ h => h) (fun _ _ h => h)
        have HNOD4 := hid hnod4
        have HR4 := hid hr4
        have HOWN4 := hid hown4
        have HM4 := hid hm4
        have HRD4 := hid (hrd3.below hal4)
        have HO34 := hid (own_of_below hown3 hal4)
        have HS4 := hid (HSK.out _ _ _ HS2.out (Mv.of_below (hb3.trans (hal4.mono hb3.size))))
        have HZ4 := hid z4
        have HZ3 := hid hb3.size
        have HNF := hid hnf
        have HPF := hid hpf
        have HN3 := hid hn
        have HS3 := hid hs3
        have hz41 : w.heap.size + 1 ≤ w4.heap.size := by have := HZ1.out; have := hb3.size; omega
        have hal : acc.length ≤ 34 := by omega
        clear hr3 hal4 z4 hnod4 hr4 hown4 hm4 hrd3 hown3 hnf hpf hn hs3 hb3
        go_wp2_with (at_builtin; rw [← hw4]; refine wpList_app1 (w0 := w4) ti_st (.tmp 38) (.tmp 40) (by rfl) (by rfl) (w.heap.size + 1) [.string (Str t)] 9 1 (by rfl) (by rw [HZ4.out]; rfl) HOWN4.out (by rfl) (by intro u hu; rw [List.mem_singleton.1 hu]; rfl) ((below_rf w4).mono hz41) hz41 (by omega) ?_; intro A5 c5 w5 ho5 hg5 hB5 hb5; obtain ⟨n0, n1⟩ := app_node hg5 (fun j hj => own_lt HOWN2.out j hj) HZ3.out HNOD4.out)
        have hx5 : Mv (fun j => (Value.slice A0 acc.length c0).ownBlock = some j) w4 w5 := (Mv.alloc (O := fun j => (Value.slice A0 acc.length c0).ownBlock = some j) w4 _).trans (Mv.grown (O := fun j => (Value.slice A0 acc.length c0).ownBlock = some j) hg5 (fun j hj _ => hj)) (fun _ h => h) (fun _ _ h => h)
        have hxl : ∀ j, (Value.slice A0 acc.length c0).ownBlock = some j → w.heap.size + 1 ≤ j ∧ j < w2.heap.size := fun j hj => ⟨own_block_base HOWN2.out j hj, own_lt HOWN2.out j hj⟩
        have hz45 := hx5.size
        have hnod5 := (hx5.block w3.heap.size (by have := HZ4.out; omega) (fun e => by have := hxl _ e; have := HZ3.out; omega)).trans HNOD4.out
        have hr5 := (hx5.block w.heap.size (by omega) (fun e => by have := hxl _ e; omega)).trans HR4.out
        have hrd5 : Rd w5 A3 (its ys) := rdt_mv HRD4.out hx5 (fun b o e h => by
          have h1 := hxl b h
          have h2 : w2.heap.size ≤ b := (HS3.out _ e).2.1
          omega)
        have ho35 := own_mv HO34.out hx5 (fun j hj h => by
          have h1 := hxl j h
          have h2 := own_block_base HO34.out j hj
          omega)
        have hs5 := HSK.out _ _ _ HS4.out (hx5.mono (fun j hj h e => HKN.out j (by have := hxl j h; omega) e))
        have hm5 : Mv O w1 w5 := (HM4.out.trans hx5 (O := fun j => O j ∨ (w.heap.size + 1 ≤ j)) (fun _ h => .inl h) (fun j _ h => .inr (hxl j h).1)).mono (fun j hj h => by
          rcases h with h | h
          · exact h
          · have := HZ1.out; omega)
        rw [show strs acc ++ [Value.string (Str t)] = strs (acc ++ [t]) by simp [strs]] at ho5
        have HO5 := hid ho5
        have HNOD5 := hid hnod5
        have HR5 := hid hr5
        have HRD5 := hid hrd5
        have HO35 := hid ho35
        have HS5 := hid hs5
        have HM5 := hid hm5
        have HST := hid (step_any m ys key A3 c3 (by have := HPF.out.2.1; omega) (by have := HPF.out.1; omega) (right_ok HPF.out.2.2.2.1) w5 hrd5)
        clear hx5 hxl hnod5 hr5 hrd5 ho35 hs5 hm5 ho5 hg5 hB5 hz45
        refine HST.out.mono ?_; rintro e w6 ⟨ho, hb6⟩
        have hr6 := (hb6.block w.heap.size (by omega)).trans HR5.out
        have hnod6 := (hb6.block w3.heap.size (by have := World.block_lt_of_cell? _ _ n0; exact this)).trans HNOD5.out
        have HM6 := hid (HM5.out.trans (Mv.of_below hb6) (O := O) (O2 := O) (fun _ h => h) (fun _ _ h => h))
        have HS6 := hid (HSK.out _ _ _ HS5.out (Mv.of_below hb6))
        have HO6 := hid (own_of_below HO5.out hb6)
        have HO36 := hid (own_of_below HO35.out hb6)
        have HRD6 := hid (HRD5.out.below hb6)
        have hz56 := hb6.size
        have HR6 := hid hr6
        have HNOD6 := hid hnod6
        clear n0 n1 hr6 hnod6 hb6
        by_cases hend : endsAt (m, ys) key = true
        · have hwn : wayS nx key st0 root = some (acc ++ [t], (m, ys), st') := by
            rw [← HW.out, way_step, HN.out]; dsimp only; rw [HN3.out]; dsimp only; rw [if_pos hend]; rfl
          unfold StepOut at ho
          rw [if_pos hend] at ho
          subst ho
          have HWN := hid hwn
          have hres5 := HR6.out
          obtain ⟨w5', hw5'⟩ : ∃ w5', w5' = w6 := ⟨_, rfl⟩
          have zz : w3.heap.size ≠ w.heap.size := by have := HZ3.out; have := HZ1.out; omega
          have s0 : ∀ W, CellD w6 (w.heap.size) 77 (.int .i64 0) (.slice none 0 0) (.int .i64 (m : Int)) (.slice A3 ys.length c3) false W → W.cell? ⟨w.heap.size, 0, none⟩ = some (.int .i64 0) := fun W h => h.gc0
          have s1 : ∀ W, CellD w6 (w.heap.size) 77 (.int .i64 0) (.slice none 0 0) (.int .i64 (m : Int)) (.slice A3 ys.length c3) false W → W.cell? ⟨w.heap.size, 1, none⟩ = some (.slice none 0 0) := fun W h => h.gc1
          have s2 : ∀ W, CellD w6 (w.heap.size) 77 (.int .i64 0) (.slice none 0 0) (.int .i64 (m : Int)) (.slice A3 ys.length c3) false W → W.frozen? ⟨w.heap.size, 0, none⟩ = false := fun W h => h.fz 0
          have s3 : ∀ W, CellD w6 (w.heap.size) 77 (.int .i64 0) (.slice none 0 0) (.int .i64 (m : Int)) (.slice A3 ys.length c3) false W → W.frozen? ⟨w.heap.size, 1, none⟩ = false := fun W h => h.fz 1
          have HSTO := hid (fun W (h : CellD w6 (w.heap.size) 77 (.int .i64 0) (.slice none 0 0) (.int .i64 (m : Int)) (.slice A3 ys.length c3) false W) => h.set)
          have HCS := hid (CellD.start (d0 := .int .i64 (m : Int)) (d1 := .slice A3 ys.length c3) hres5)
          have n0 : ∀ W, Mv (fun k => k = w.heap.size) w6 W → W.cell? ⟨w3.heap.size, 0, none⟩ = some (.int .i64 (m : Int)) := fun W h => h.cell (by rw [Go.Lib.cell_of_heap HNOD6.out]; rfl) zz
          have n1 : ∀ W, Mv (fun k => k = w.heap.size) w6 W → W.cell? ⟨w3.heap.size, 1, none⟩ = some (.slice A3 ys.length c3) := fun W h => h.cell (by rw [Go.Lib.cell_of_heap HNOD6.out]; rfl) zz
          clear hend hwn hres5 hw5' zz
          go_wp2
          refine wp_region_mixed (CellD w6 w.heap.size 77 (.int .i64 0) (.slice none 0 0) (.int .i64 (m : Int)) (.slice A3 ys.length c3)) 3 (by decide) (by kernel_rfl) (by kernel_rfl) HCS.out ?_
          repeat (
            refine wpQuietM_step (fun K hK => ?_)
            first
              | (refine mx_skip (by rfl) (by decide) (hK _ ?_)
                 clear hK K)
              | (refine mx_read (by rfl) (by decide) ?_
                 apply Exists.intro
                 refine ⟨fun b W hW => ?_, hK _ ?_⟩
                 (have hWm := hW.1; go_simp; first | rfl | (rw [if_neg (by omega)]) | (rw [if_pos (by omega)]))
                 clear hK K)
              | (refine mx_store (by rfl) (by decide) ⟨fun W hW => ?_, hK _ ?_⟩
                 have hsto := HSTO.out W hW
                 (refine ⟨_, ?_, hsto⟩; clear hsto; go_simp)
                 clear hK K)
            go_simp)
          refine wpQuietM_nil ?_
          intro W hW
          have r0 := hW.gd0
          have r1 := hW.gd1
          have HW6 := hid hW
          clear n0 n1 s0 s1 s2 s3 hW
          go_wp2
          refine bodyPost_ret (v := .tuple #[.slice A5 (acc.length + 1) c5, .agg #[.int .i64 (m : Int), .slice A3 ys.length c3], .bool true]) ((results_tct rfl _ _ _).trans ?_) rfl ?_
          · go_simp
          rw [HWN.out]
          have hmw : Mv O w W := ((Mv.of_below HB1.out).trans HM6.out (O := fun j => O j ∨ j = w.heap.size) (fun _ h => .inl h) (fun _ _ h => .inl h) |>.trans HW6.out.1 (O := fun j => O j ∨ j = w.heap.size) (fun _ h => h) (fun _ _ h => .inr h)).mono (fun j hj h => by
            rcases h with h | h
            · exact h
            · omega)
          refine ⟨⟨_, _, rfl, ?_, own_base (own_mv HO36.out HW6.out.1 (fun j hj e => by have := own_block_base HO36.out _ hj; have := HZ1.out; omega)) (by have := HZ1.out; omega), HSK.out _ _ _ HS6.out (HW6.out.1.mono (fun j hj e h => HKN.out j (by omega) h))⟩, hmw⟩
          rw [show (acc ++ [t]).length = acc.length + 1 by simp]
          exact own_base (own_mv HO6.out HW6.out.1 (fun j hj e => by have := own_block_base HO6.out _ hj; omega)) (by omega)
        · obtain ⟨i, hi⟩ : ∃ i, i = placeS ys key := ⟨_, rfl⟩
          unfold StepOut at ho
          rw [if_neg hend, ← hi] at ho
          obtain ⟨b, o, rfl, rfl⟩ := ho
          have hm0 : 0 < m ∧ i < ys.length := by
            have h1 := place_le ys key
            unfold endsAt at hend
            dsimp only at hend
            rw [← hi] at hend h1
            simp only [Bool.or_eq_true, decide_eq_true_eq] at hend
            omega
          obtain ⟨b', o', e, hc1, hc2⟩ := rd_itm HRD6.out hm0.2
          injection e with e; injection e with e1 e2; subst e1; subst e2
          have hx40 : (itm ys i).2.length = 40 := okVal_len (HPF.out.2.2.1 _ (by rw [itm_eq ys i hm0.2]; exact List.getElem_mem _)) hm0.1
          have hw2 : behind (acc ++ [t]) (wayGo nx key k st' ((itm ys i).2.take 32) m (some (itm ys i))) = wayS nx key st0 root := by
            rw [← HW.out, way_step, HN.out]; dsimp only; rw [HN3.out]; dsimp only; rw [if_neg hend, ← hi, behind_snoc]
          obtain ⟨y, hy⟩ : ∃ y, y = itm ys i := ⟨_, rfl⟩
          rw [← hy] at hx40 hw2 hc1 hc2
          have HW2 := hid hw2
          have HI1 : Hid (ItemAt w6 (.pointer (some ⟨b, o + i * 2, none⟩)) (some y)) := hid ⟨b, o + i * 2, rfl, hc1, by rw [show o + i * 2 + 1 = o + i * 2 + 1 from rfl]; exact hc2⟩
          have n0 : w6.cell? ⟨w3.heap.size, 0, none⟩ = some (.int .i64 (m : Int)) := by rw [Go.Lib.cell_of_heap HNOD6.out]; rfl
          have hbw : w.heap.size ≤ b := by
            have h1 : w2.heap.size ≤ b := (HS3.out _ rfl).2.1
            have := HZ1.out
            omega
          have hmk : m ≤ 32 ∧ m < k := by
            refine ⟨HPF.out.1, ?_⟩
            cases x with
            | none => have := HX.out.1 rfl; have := HPF.out.1; omega
            | some z => have h1 := (HX.out.2 z rfl).1; have h2 := (stands_lv (HNF.out z rfl)).1; omega
          have HMK := hid hmk
          have HX40 := hid hx40
          clear hend hm0 hw2 hy hc1 hmk hi
          go_wp2
          go_quiet (fail)
          go_wp2
          go_roundw
          case rel =>
            refine ⟨k, st', acc ++ [t], m, some y, y.2.take 32, .pointer (some ⟨b, o + i * 2, none⟩), rfl, hid (fun b' o' e => by injection e with e; injection e with e; injection e with e1 e2; omega), ?_, HI1.out, rfl, by simp, hid (HSK.out _ _ _ HS6.out (Mv.drewN w6 _)), HW2, by simp; omega, hid ⟨fun h => (by cases h), fun z e => (by injection e with e; subst e; exact ⟨HMK.out.2, HMK.out.1, HX40.out⟩)⟩, HMK.out.1, by rw [List.length_take]; omega, HR6, hid (HM6.out.trans (Mv.drewN w6 _) (O := O) (O2 := O) (fun _ h => h) (fun _ _ h => h))⟩
            rw [show (acc ++ [t]).length = acc.length + 1 by simp]
            exact HO6.out
          case measure => simp [slLen]; omega
theorem told_mv {w w2 w3 w5 : World} {b : Nat} (h1 : Below w.heap.size w w2) (h2 : Mv (fun k => k = b) w2 w3) (h3 : Below w3.heap.size w3 w5) (hb : w.heap.size ≤ b) (hz : w.heap.size ≤ w2.heap.size) : Below w.heap.size w w5 :=
  (h1.trans (h2.below (n := w.heap.size) hz (fun k hk e => by omega))).trans (h3.mono (Nat.le_trans hz h2.size))
/-- what a proof's bytes tell -/
def ToldOut (B : Nat) (r : Option (List (List UInt8) × (Nat × List Itm))) (e : Ending) (W : World) : Prop :=
  (r = none ∧ ∃ (A : Option Addr) (n c : Nat) (k : Int) (A' : Option Addr) (n' c' : Nat), e = .returned (.tuple #[.slice A n c, .agg #[.int .i64 k, .slice A' n' c'], .bool false])) ∨
  ∃ ts lv l v1 v2, r = some (ts, (lv, l)) ∧ e = .returned (.tuple #[v1, .agg #[.int .i64 (lv : Int), v2], .bool true]) ∧ W.ownsRow B 9 1 v1 ts.length (strs ts) ∧ W.ownsRow B 93 2 v2 l.length (its l)
set_option maxRecDepth 100000 in
set_option maxHeartbeats 1600000 in
theorem told_any (root key proof : List UInt8) (hroot : root.length ≤ 1000000000) (w : World) :
    Calls Try.prog 38 #[.string (Str root), .string (Str key), .string (Str proof)] w fun e w' => ToldOut w.heap.size (toldS root key proof) e w' ∧ Below w.heap.size w w' := by
  obtain ⟨w1, hw1⟩ : ∃ w1, w1 = w.alloc (Obj.cells #[.int .i64 0, .slice none 0 0] 77) := ⟨_, rfl⟩
  have hb1 : Below w.heap.size w w1 := by rw [hw1]; exact below_al (below_rf w) _
  have z1 : w1.heap.size = w.heap.size + 1 := by rw [hw1]; simp
  have hres : w1.heap[w.heap.size]? = some (Obj.cells #[.int .i64 0, .slice none 0 0] 77 (0, 0)) := by rw [hw1]; exact heap_new _ _
  have HB1 := hid hb1
  have HZ1 := hid z1
  have HRES := hid hres
  by_cases hlong : 1048576 < proof.length
  · have g1 : decide ((1048576 : Int) < (proof.length : Int)) = true := decide_eq_true (by omega)
    have g2 : decide (1048576 < proof.length) = true := decide_eq_true hlong
    have hn : toldS root key proof = none := by unfold toldS; rw [if_pos hlong]
    have HN := hid hn
    have r0 : w1.cell? ⟨w.heap.size, 0, none⟩ = some (.int .i64 0) := by rw [Go.Lib.cell_of_heap hres]; rfl
    have r1 : w1.cell? ⟨w.heap.size, 1, none⟩ = some (.slice none 0 0) := by rw [Go.Lib.cell_of_heap hres]; rfl
    have r2 : w1.frozen? ⟨w.heap.size, 0, none⟩ = false := Go.Lib.frozen_of_heap hres 0
    have r3 : w1.frozen? ⟨w.heap.size, 1, none⟩ = false := Go.Lib.frozen_of_heap hres 1
    rw [hw1] at r0 r1 r2 r3
    clear hb1 z1 hres hlong hn hw1
    go_enter Try.func38, Try.ntmps38
    go_wp2
    refine bodyPost_ret (v := .tuple #[.slice none 0 0, .agg #[.int .i64 0, .slice none 0 0], .bool false]) ((results_tct rfl _ _ _).trans ?_) rfl ?_
    · go_simp
    exact ⟨.inl ⟨HN.out, _, _, _, _, _, _, _, rfl⟩, below_al (below_rf w) _⟩
  · have g1 : decide ((1048576 : Int) < (proof.length : Int)) = false := decide_eq_false (by omega)
    have g2 : decide (1048576 < proof.length) = false := decide_eq_false hlong
    obtain ⟨w2, hw2⟩ : ∃ w2, w2 = w1.alloc (Obj.cells #[.string (Str proof)] 9) := ⟨_, rfl⟩
    have hb2 : Below w1.heap.size w1 w2 := by rw [hw2]; exact below_al (below_rf w1) _
    have hrb : w2.heap[w1.heap.size]? = some (Obj.cells #[.string (Str proof)] 9 (0, 0)) := by rw [hw2]; exact heap_new _ _
    have hres2 := (hb2.block w.heap.size (by omega)).trans hres
    have HWT := hid (waytold proofNx (RestAt w1.heap.size) (fun k => k = w1.heap.size) (fun k => k = w1.heap.size) w1.heap.size (fun st W W' h hm => ⟨(hm.block w1.heap.size (Array.getElem?_eq_some_iff.1 h.1).1 (fun h => h rfl)).trans h.1, h.2⟩)
      (fun st p W h hp => told1_any w1.heap.size st p W h hp) root key hroot proof w2 (fun k hk => by rw [hk]; exact (Array.getElem?_eq_some_iff.1 hrb).1) (fun k hk => by rw [hk]; exact (Array.getElem?_eq_some_iff.1 hrb).1) ⟨hrb, by omega⟩)
    have HTS : Hid (toldS root key proof = match wayS proofNx key proof root with
      | none => none
      | some (ts, n, r) => if r = [] then some (ts, n) else none) := hid (by unfold toldS; rw [if_neg hlong]; rcases wayS proofNx key proof root with _ | ⟨ts, n, r⟩ <;> rfl)
    have HRES2 := hid hres2
    have HB2 := hid (below_tr hb1 hb2)
    have hzr : w2.heap.size = w.heap.size + 2 := by rw [hw2]; simp; omega
    have HZ2 := hid hzr
    rw [hw1] at hw2
    have e1 : (w.alloc (Obj.cells #[.int .i64 0, .slice none 0 0] 77)).heap.size = w1.heap.size := by rw [hw1]
    clear hb1 z1 hres hlong hb2 hrb hres2 hzr
    go_enter Try.func38, Try.ntmps38
    go_wp2_with fail
    rw [← hw2]
    clear hw2 e1
    refine HWT.out.mono ?_; rintro e w3 ⟨ho, hm3⟩
    have hres3 := (hm3.block w.heap.size (by have := HZ2.out; omega) (by have := HZ1.out; omega)).trans HRES2.out
    have HM3 := hid hm3
    have HZ3 := hid hm3.size
    rcases hws : wayS proofNx key proof root with _ | ⟨ts, ⟨lv, l⟩, r'⟩
    · rw [hws] at ho
      have hn : toldS root key proof = none := by rw [HTS.out, hws]
      have HN := hid hn
      obtain rfl : e = _ := ho
      obtain ⟨w5, hw5⟩ : ∃ w5, w5 = w3.alloc (Obj.cells #[.int .i64 0, .slice none 0 0] 77) := ⟨_, rfl⟩
      have hb5 : Below w3.heap.size w3 w5 := by rw [hw5]; exact below_al (below_rf w3) _
      have hnod : w5.heap[w3.heap.size]? = some (Obj.cells #[.int .i64 0, .slice none 0 0] 77 (0, 0)) := by rw [hw5]; exact heap_new _ _
      have hres5 := (hb5.block w.heap.size (by have := HZ3.out; have := HZ2.out; omega)).trans hres3
      have zz : w3.heap.size ≠ w.heap.size := by have := HZ3.out; have := HZ2.out; omega
      have s0 : ∀ W, CellD w5 (w.heap.size) 77 (.int .i64 0) (.slice none 0 0) (.int .i64 0) (.slice none 0 0) false W → W.cell? ⟨w.heap.size, 0, none⟩ = some (.int .i64 0) := fun W h => h.gc0
      have s1 : ∀ W, CellD w5 (w.heap.size) 77 (.int .i64 0) (.slice none 0 0) (.int .i64 0) (.slice none 0 0) false W → W.cell? ⟨w.heap.size, 1, none⟩ = some (.slice none 0 0) := fun W h => h.gc1
      have s2 : ∀ W, CellD w5 (w.heap.size) 77 (.int .i64 0) (.slice none 0 0) (.int .i64 0) (.slice none 0 0) false W → W.frozen? ⟨w.heap.size, 0, none⟩ = false := fun W h => h.fz 0
      have s3 : ∀ W, CellD w5 (w.heap.size) 77 (.int .i64 0) (.slice none 0 0) (.int .i64 0) (.slice none 0 0) false W → W.frozen? ⟨w.heap.size, 1, none⟩ = false := fun W h => h.fz 1
      have HST := hid (fun W (h : CellD w5 (w.heap.size) 77 (.int .i64 0) (.slice none 0 0) (.int .i64 0) (.slice none 0 0) false W) => h.set)
      have HCS := hid (CellD.start (d0 := .int .i64 0) (d1 := .slice none 0 0) hres5)
      have n0 : ∀ W, Mv (fun k => k = w.heap.size) w5 W → W.cell? ⟨w3.heap.size, 0, none⟩ = some (.int .i64 0) := fun W h => h.cell (by rw [Go.Lib.cell_of_heap hnod]; rfl) zz
      have n1 : ∀ W, Mv (fun k => k = w.heap.size) w5 W → W.cell? ⟨w3.heap.size, 1, none⟩ = some (.slice none 0 0) := fun W h => h.cell (by rw [Go.Lib.cell_of_heap hnod]; rfl) zz
      have HMB := hid (told_mv HB2.out HM3.out hb5 (by have := HZ1.out; omega) (by have := HZ2.out; omega))
      have HZ5 := hid hb5.size
      clear hws hn hm3 hres3 hb5 hnod hres5 zz
      go_wp2
      rw [← hw5]
      clear hw5
      refine wp_region_mixed (CellD w5 w.heap.size 77 (.int .i64 0) (.slice none 0 0) (.int .i64 0) (.slice none 0 0)) 8 (by decide) (by kernel_rfl) (by kernel_rfl) HCS.out ?_
      repeat (
        refine wpQuietM_step (fun K hK => ?_)
        first
          | (refine mx_skip (by rfl) (by decide) (hK _ ?_)
             clear hK K)
          | (refine mx_read (by rfl) (by decide) ?_
             apply Exists.intro
             refine ⟨fun b W hW => ?_, hK _ ?_⟩
             (have hWm := hW.1; go_simp; first | rfl | (rw [if_neg (by omega)]) | (rw [if_pos (by omega)]))
             clear hK K)
          | (refine mx_store (by rfl) (by decide) ⟨fun W hW => ?_, hK _ ?_⟩
             have hsto := HST.out W hW
             (refine ⟨_, ?_, hsto⟩; clear hsto; go_simp)
             clear hK K)
        go_simp)
      refine wpQuietM_nil ?_
      intro W hW
      have r0 := hW.gd0
      have r1 := hW.gd1
      have HW := hid hW
      clear n0 n1 s0 s1 s2 s3 hW
      go_wp2
      refine bodyPost_ret (v := .tuple #[.slice none 0 0, .agg #[.int .i64 0, .slice none 0 0], .bool false]) ((results_tct rfl _ _ _).trans ?_) rfl ?_
      · go_simp
      exact ⟨.inl ⟨HN.out, _, _, _, _, _, _, _, rfl⟩, HMB.out.trans (HW.out.1.below (n := w.heap.size) (by have := HMB.out.size; omega) (fun k hk e => by omega))⟩
    · rw [hws] at ho
      obtain ⟨v1, v2, rfl, ho1, ho2, hrs, hrl⟩ := ho
      obtain ⟨A1, c1, rfl⟩ := own_succ ho1
      obtain ⟨A2, c2, rfl⟩ := own_succ ho2
      have htl : toldS root key proof = if r' = [] then some (ts, (lv, l)) else none := by rw [HTS.out, hws]
      have HTL := hid htl
      obtain ⟨w5, hw5⟩ : ∃ w5, w5 = w3.alloc (Obj.cells #[.int .i64 (lv : Int), .slice A2 l.length c2] 77) := ⟨_, rfl⟩
      have hb5 : Below w3.heap.size w3 w5 := by rw [hw5]; exact below_al (below_rf w3) _
      have hnod : w5.heap[w3.heap.size]? = some (Obj.cells #[.int .i64 (lv : Int), .slice A2 l.length c2] 77 (0, 0)) := by rw [hw5]; exact heap_new _ _
      have hrs5 := (hb5.block w1.heap.size (Array.getElem?_eq_some_iff.1 hrs).1).trans hrs
      have hres5 := (hb5.block w.heap.size (by have := HZ3.out; have := HZ2.out; omega)).trans hres3
      have zz : w3.heap.size ≠ w.heap.size := by have := HZ3.out; have := HZ2.out; omega
      have zz1 : w1.heap.size ≠ w.heap.size := by have := HZ1.out; omega
      have s0 : ∀ W, CellD w5 (w.heap.size) 77 (.int .i64 0) (.slice none 0 0) (.int .i64 (lv : Int)) (.slice A2 l.length c2) false W → W.cell? ⟨w.heap.size, 0, none⟩ = some (.int .i64 0) := fun W h => h.gc0
      have s1 : ∀ W, CellD w5 (w.heap.size) 77 (.int .i64 0) (.slice none 0 0) (.int .i64 (lv : Int)) (.slice A2 l.length c2) false W → W.cell? ⟨w.heap.size, 1, none⟩ = some (.slice none 0 0) := fun W h => h.gc1
      have s2 : ∀ W, CellD w5 (w.heap.size) 77 (.int .i64 0) (.slice none 0 0) (.int .i64 (lv : Int)) (.slice A2 l.length c2) false W → W.frozen? ⟨w.heap.size, 0, none⟩ = false := fun W h => h.fz 0
      have s3 : ∀ W, CellD w5 (w.heap.size) 77 (.int .i64 0) (.slice none 0 0) (.int .i64 (lv : Int)) (.slice A2 l.length c2) false W → W.frozen? ⟨w.heap.size, 1, none⟩ = false := fun W h => h.fz 1
      have HST := hid (fun W (h : CellD w5 (w.heap.size) 77 (.int .i64 0) (.slice none 0 0) (.int .i64 (lv : Int)) (.slice A2 l.length c2) false W) => h.set)
      have HCS := hid (CellD.start (d0 := .int .i64 (lv : Int)) (d1 := .slice A2 l.length c2) hres5)
      have n0 : ∀ W, Mv (fun k => k = w.heap.size) w5 W → W.cell? ⟨w3.heap.size, 0, none⟩ = some (.int .i64 (lv : Int)) := fun W h => h.cell (by rw [Go.Lib.cell_of_heap hnod]; rfl) zz
      have n1 : ∀ W, Mv (fun k => k = w.heap.size) w5 W → W.cell? ⟨w3.heap.size, 1, none⟩ = some (.slice A2 l.length c2) := fun W h => h.cell (by rw [Go.Lib.cell_of_heap hnod]; rfl) zz
      have n2 : ∀ W, Mv (fun k => k = w.heap.size) w5 W → W.cell? ⟨w.heap.size + 1, 0, none⟩ = some (.string (Str r')) := fun W h => by rw [← HZ1.out]; exact h.cell (by rw [Go.Lib.cell_of_heap hrs5]; rfl) zz1
      have HMB := hid (told_mv HB2.out HM3.out hb5 (by have := HZ1.out; omega) (by have := HZ2.out; omega))
      have HO1 := hid (own_of_below ho1 hb5)
      have HO2 := hid (own_of_below ho2 hb5)
      have HZ5 := hid hb5.size
      obtain ⟨bb, hbb⟩ : ∃ bb, bb = (r' == []) := ⟨_, rfl⟩
      have HBE : Hid (if bb = true then toldS root key proof = some (ts, (lv, l)) else toldS root key proof = none) := hid (by
        rw [hbb, HTL.out]
        by_cases e : r' = []
        · rw [if_pos (beq_iff_eq.2 e), if_pos e]
        · rw [if_neg (fun h => e (beq_iff_eq.1 h)), if_neg e])
      have hbb2 : (r' == []) = bb := hbb.symm
      clear hws htl hm3 hres3 hb5 hnod hres5 zz zz1 hrs hrl hrs5 ho1 ho2 hbb
      go_wp2
      rw [← hw5]
      clear hw5
      refine wp_region_mixed (CellD w5 w.heap.size 77 (.int .i64 0) (.slice none 0 0) (.int .i64 (lv : Int)) (.slice A2 l.length c2)) 8 (by decide) (by kernel_rfl) (by kernel_rfl) HCS.out ?_
      repeat (
        refine wpQuietM_step (fun K hK => ?_)
        first
          | (refine mx_skip (by rfl) (by decide) (hK _ ?_)
             clear hK K)
          | (refine mx_read (by rfl) (by decide) ?_
             apply Exists.intro
             refine ⟨fun b W hW => ?_, hK _ ?_⟩
             (have hWm := hW.1; go_simp; first | rfl | (rw [if_neg (by omega)]) | (rw [if_pos (by omega)]))
             clear hK K)
          | (refine mx_store (by rfl) (by decide) ⟨fun W hW => ?_, hK _ ?_⟩
             have hsto := HST.out W hW
             (refine ⟨_, ?_, hsto⟩; clear hsto; go_simp)
             clear hK K)
        go_simp)
      refine wpQuietM_nil ?_
      intro W hW
      have r0 := hW.gd0
      have r1 := hW.gd1
      have HW := hid hW
      clear n0 n1 n2 s0 s1 s2 s3 hW
      go_wp2
      refine bodyPost_ret (v := .tuple #[.slice A1 ts.length c1, .agg #[.int .i64 (lv : Int), .slice A2 l.length c2], .bool bb]) ((results_tct rfl _ _ _).trans ?_) rfl ?_
      · go_simp
      refine ⟨?_, HMB.out.trans (HW.out.1.below (n := w.heap.size) (by have := HMB.out.size; omega) (fun k hk e => by omega))⟩
      cases bb with
      | false =>
        have h9 := HBE.out
        rw [if_neg (by decide)] at h9
        exact .inl ⟨h9, _, _, _, _, _, _, _, rfl⟩
      | true =>
        have h9 := HBE.out
        rw [if_pos rfl] at h9
        refine .inr ⟨ts, lv, l, _, _, h9, rfl, own_base (own_mv HO1.out HW.out.1 (fun j hj e => ?_)) (by have := HZ2.out; omega), own_base (own_mv HO2.out HW.out.1 (fun j hj e => ?_)) (by have := HZ2.out; omega)⟩
        · have := own_block_base HO1.out _ hj; have := HZ2.out; omega
        · have := own_block_base HO2.out _ hj; have := HZ2.out; omega
end Go.Proofs.Yteeonfnaikndfaa.W11
namespace Go.Proofs.Yteeonfnaikndfaa.W11
open Go Go.RowKit Go.Proofs.Yteeonfnaikndfaa.Lib Go.Proofs.Yteeonfnaikndfaa.Sha Go.Proofs.Yteeonfnaikndfaa.T08 Go.Proofs.Yteeonfnaikndfaa.QTail Go.Proofs.Yteeonfnaikndfaa.Itms Go.Proofs.Yteeonfnaikndfaa.WSeq Go.Proofs.Yteeonfnaikndfaa.Ord Go.Proofs.Yteeonfnaikndfaa.Tree Go.Proofs.Yteeonfnaikndfaa.W08 Go.Proofs.Yteeonfnaikndfaa.Wit Go.Proofs.Yteeonfnaikndfaa.W01 Go.Proofs.Yteeonfnaikndfaa.Bld Go.Proofs.Yteeonfnaikndfaa.Mp
open Go.Proofs.Yteeonfnaikndfaa.Run hiding round_any yield_any
attribute [local go_sem] Str_size Str_toList Str_extract
def VerifyOut (r : Option (Option (List UInt8))) (e : Ending) : Prop := match r with
  | none => e = .returned (.tuple #[.string (Str []), .bool false, .bool false])
  | some none => e = .returned (.tuple #[.string (Str []), .bool false, .bool true])
  | some (some v) => e = .returned (.tuple #[.string (Str v), .bool true, .bool true])
set_option maxRecDepth 100000 in
set_option maxHeartbeats 800000 in
theorem verify_any (root key proof : List UInt8) (hroot : root.length ≤ 1000000000) (w : World) :
    Calls Try.prog 17 #[.string (Str root), .string (Str key), .string (Str proof)] w fun e w' => VerifyOut (verifyS root key proof) e ∧ Below w.heap.size w w' := by
  have HT := hid (told_any root key proof hroot w)
  go_enter Try.func17, Try.ntmps17
  go_wp2_with fail
  refine HT.out.mono ?_; rintro e w1 ⟨ho, hb1⟩
  rcases ho with ⟨hn, A, n, c, k, A', n', c', rfl⟩ | ⟨ts, lv, l, v1, v2, hs, rfl, ho1, ho2⟩
  · have hv : verifyS root key proof = none := by unfold verifyS; rw [hn]
    have HV := hid hv
    have HB := hid (below_tr hb1 (below_al (below_rf w1) (Obj.cells #[.int .i64 k, .slice A' n' c'] 77)))
    clear hn hv hb1
    go_wp2
    go_ret3
    refine ⟨?_, HB.out⟩
    rw [HV.out]
    show _ = Ending.returned (.tuple #[.string (Str []), .bool false, .bool false])
    rw [Str_nil]; rfl
  · obtain ⟨A1, c1, rfl⟩ := own_succ ho1
    obtain ⟨A2, c2, rfl, hcc, hrd, _, _⟩ := Rd.own' ho2
    have hv : verifyS root key proof = some (shownS (lv, l) key) := by unfold verifyS; rw [hs]
    obtain ⟨⟨s, hp⟩, _⟩ := told_parse hs
    have hpf := parse_facts hp
    obtain ⟨w2, hw2⟩ : ∃ w2, w2 = w1.alloc (Obj.cells #[.int .i64 (lv : Int), .slice A2 l.length c2] 77) := ⟨_, rfl⟩
    have hal : Below w1.heap.size w1 w2 := by rw [hw2]; exact below_al (below_rf w1) _
    have n0 : w2.cell? ⟨w1.heap.size, 0, none⟩ = some (.int .i64 (lv : Int)) := by rw [hw2]; simp [World.cell?_alloc_at]
    have n1 : w2.cell? ⟨w1.heap.size, 1, none⟩ = some (.slice A2 l.length c2) := by rw [hw2]; simp [World.cell?_alloc_at]
    have HSH := hid (shown_any lv l key A2 c2 (by omega) (by omega) (right_ok hpf.2.2.2.1) w2 (hrd.below hal))
    have HV := hid hv
    have HB := hid (below_tr hb1 hal)
    rw [hw2] at n0 n1
    have HW2 := hid hw2
    clear hs hv hb1 ho1 ho2 hrd hal hp hpf hw2 hcc
    go_wp2_with fail
    rw [← HW2.out]
    refine HSH.out.mono ?_; rintro e w3 ⟨ho, hb3⟩
    have HB3 := hid (below_tr HB.out hb3)
    clear hb3
    rcases hsh : shownS (lv, l) key with _ | v
    · rw [hsh] at ho
      rw [hsh] at HV
      obtain rfl : e = _ := ho
      clear hsh
      go_wp2
      go_ret3
      refine ⟨?_, HB3.out⟩
      rw [HV.out]
      rfl
    · rw [hsh] at ho
      rw [hsh] at HV
      obtain rfl : e = _ := ho
      clear hsh
      go_wp2
      go_ret3
      refine ⟨?_, HB3.out⟩
      rw [HV.out]
      rfl
/-- what the proof of a key is -/
def ProveOut (r : Option (List (List UInt8) × (Nat × List Itm) × Unit)) (e : Ending) : Prop := match r with
  | none => e = .returned (.tuple #[.string (Str []), .int .i64 6])
  | some (ts, _, _) => e = .returned (.tuple #[.string (Str (bytesS ts)), .int .i64 0])
theorem bytes_snoc (ts : List (List UInt8)) (k : Nat) (h : k < ts.length) : bytesS (ts.take (k + 1)) = bytesS (ts.take k) ++ (four (sat ts k).length ++ sat ts k) := by
  rw [take_sat ts k h]; simp [bytesS]
theorem bytes_len (ts : List (List UInt8)) (N : Nat) (h : ∀ t ∈ ts, t.length ≤ N) : (bytesS ts).length ≤ ts.length * (N + 4) := by
  induction ts with
  | nil => simp [bytesS]
  | cons t ts ih =>
    have h1 := ih (fun x hx => h x (List.mem_cons_of_mem _ hx))
    have h2 := h t (by simp)
    have e : bytesS (t :: ts) = four t.length ++ t ++ bytesS ts := by simp [bytesS]
    rw [e, List.length_append, List.length_append, List.length_cons, Nat.succ_mul]
    have : (four t.length).length = 4 := rfl
    omega
theorem get_nx (hb mb n : Nat) (f : Src) (hf : ∀ k s, f k = some s → s.length ≤ 1000000000) (p : List UInt8) (W : World) (hH : HeapT W hb mb n f) (hp : p.length ≤ 1000000000) :
    Calls Try.prog 128 #[.pointer (some ⟨hb, 0, none⟩), .string (Str p)] W fun e W' => Mv (fun _ => False) W W' ∧ ((srcNx f () p = none ∧ ∃ t, e = .returned (.tuple #[.string (Str t), .bool false])) ∨ ∃ t st', srcNx f () p = some (t, st') ∧ e = .returned (.tuple #[.string (Str t), .bool true]) ∧ t.length ≤ 1000000000 ∧ HeapT W' hb mb n f) := by
  refine (get_any hb mb n f p hp W hH).mono ?_
  rintro e W' ⟨rfl, rfl⟩
  refine ⟨Mv.refl _ _, ?_⟩
  unfold srcNx
  cases hk : f p with
  | none => exact .inl ⟨rfl, _, rfl⟩
  | some s => exact .inr ⟨s, (), rfl, rfl, hf p s hk, hH⟩
/-- The way in a source: nothing that stood is changed. -/
theorem way_heap (hb mb n : Nat) (f : Src) (hf : ∀ k s, f k = some s → s.length ≤ 1000000000) (root key : List UInt8) (hroot : root.length ≤ 1000000000) (w : World) (hH : HeapT w hb mb n f) :
    Calls Try.prog 48 #[.string (Str root), .string (Str key), .func (.method "Get") #[.iface 43 (.pointer (some ⟨hb, 0, none⟩))] #[]] w fun e w' => WayOut (fun _ W => HeapT W hb mb n f) w.heap.size (wayS (srcNx f) key () root) e w' ∧ Below w.heap.size w w' := by
  refine (waysrc (srcNx f) (fun _ W => HeapT W hb mb n f) (fun _ => False) (fun k => k = hb ∨ k = mb) hb (fun st W W' h hm => h.mv hm (fun h => h (.inl rfl)) (fun h => h (.inr rfl))) (fun st p W h hp => get_nx hb mb n f hf p W h hp) root key hroot () w (fun k hk => hk.elim) (fun k hk => by
    rcases hk with rfl | rfl
    · exact (Array.getElem?_eq_some_iff.1 hH.1).1
    · exact hH.2.lt) hH).mono ?_
  rintro e w' ⟨ho, hm⟩
  exact ⟨ho, hm.below (Nat.le_refl _) (fun k hk h => h)⟩
theorem way_short (f : Src) (N : Nat) (hf : ∀ k s, f k = some s → s.length ≤ N) (key : List UInt8) : ∀ (k : Nat) (p : List UInt8) (lv : Nat) (x : Option Itm) (ts : List (List UInt8)) (n : Nat × List Itm) (z : Unit), wayGo (srcNx f) key k () p lv x = some (ts, n, z) → ∀ t ∈ ts, t.length ≤ N := by
  intro k
  induction k with
  | zero => intro p lv x ts n z h; rw [wayGo] at h; cases h
  | succ k ih =>
    intro p lv x ts n z h
    rw [way_step] at h
    cases h1 : srcNx f () p with
    | none => rw [h1] at h; cases h
    | some q =>
      obtain ⟨s, st'⟩ := q
      have hs : s.length ≤ N := by
        unfold srcNx at h1
        cases h9 : f p with
        | none => rw [h9] at h1; cases h1
        | some s' => rw [h9] at h1; injection h1 with h1; injection h1 with h1; subst h1; exact hf _ _ h9
      rw [h1] at h
      dsimp only at h
      cases h2 : nodeS s lv x with
      | none => rw [h2] at h; cases h
      | some m =>
        rw [h2] at h
        dsimp only at h
        split at h
        · injection h with h; injection h with e1 e2
          subst e1
          intro t ht; rw [List.mem_singleton.1 ht]; exact hs
        · cases h3 : wayGo (srcNx f) key k st' ((itm m.2 (placeS m.2 key)).2.take 32) m.1 (some (itm m.2 (placeS m.2 key))) with
          | none => rw [h3] at h; cases h
          | some r =>
            obtain ⟨ts', n', z'⟩ := r
            rw [h3] at h
            dsimp only at h
            injection h with h; injection h with e1 e2
            subst e1
            intro t ht
            rcases List.mem_cons.1 ht with e | ht
            · rw [e]; exact hs
            · exact ih _ _ _ _ _ _ h3 t ht
set_option maxRecDepth 100000 in
set_option maxHeartbeats 1600000 in
theorem prove_any (hb mb n : Nat) (f : Src) (hf : ∀ k s, f k = some s → s.length ≤ 1000000000) (root key : List UInt8) (hroot : root.length ≤ 1000000000) (w : World) (hH : HeapT w hb mb n f) :
    Calls Try.prog 21 #[.iface 43 (.pointer (some ⟨hb, 0, none⟩)), .string (Str root), .string (Str key)] w fun e w' => ProveOut (wayS (srcNx f) key () root) e ∧ Below w.heap.size w w' := by
  have HW := hid (way_heap hb mb n f hf root key hroot w hH)
  have HF := hid hf
  clear hf
  go_enter Try.func21, Try.ntmps21
  go_wp2_with fail
  refine HW.out.mono ?_; rintro e w1 ⟨ho, hb1⟩
  rcases hws : wayS (srcNx f) key () root with _ | ⟨ts, ⟨lv, l⟩, z⟩
  · rw [hws] at ho
    obtain rfl : e = _ := ho
    have HB := hid (below_tr hb1 (below_al (below_rf w1) (Obj.cells #[.int .i64 0, .slice none 0 0] 77)))
    have HWS := hid hws
    clear hb1 hws
    go_wp2
    go_ret2
    refine ⟨?_, HB.out⟩
    rw [HWS.out]
    show _ = Ending.returned (.tuple #[.string (Str []), .int .i64 6])
    rw [Str_nil]; rfl
  · rw [hws] at ho
    obtain ⟨v1, v2, rfl, ho1, ho2, _⟩ := ho
    obtain ⟨A1, c1, rfl, hc1, hrd1, _, _⟩ := Rd.own' ho1
    obtain ⟨A2, c2, rfl⟩ := own_succ ho2
    obtain ⟨_, _, htl⟩ := way_parse _ _ _ _ _ _ _ _ _ _ hws
    have hsh := way_short f 1000000000 HF.out key _ _ _ _ _ _ _ hws
    have hbl := bytes_len ts 1000000000 hsh
    obtain ⟨w3, hw3⟩ : ∃ w3, w3 = (w1.alloc (Obj.cells #[.int .i64 (lv : Int), .slice A2 l.length c2] 77)).alloc (Obj.cells #[Value.pointer none, Value.slice none 0 0] 100) := ⟨_, rfl⟩
    have hb3 : Below w1.heap.size w1 w3 := by rw [hw3]; exact below_al (below_al (below_rf w1) _) _
    have z3 : w3.heap.size = w1.heap.size + 2 := by rw [hw3]; simp
    have hbld : w3.heap[w1.heap.size + 1]? = some (Obj.cells #[Value.pointer none, Value.slice none 0 0] 100 (0, 0)) := by rw [hw3]; exact heap_new' _ _ (by simp)
    have hib : IsB (w1.heap.size + 1) (w1.heap.size + 1) [] w3 := .inl ⟨Nat.le_refl _, _, hbld, own_nil _ _ _ _, by simp [Value.ownBlock]⟩
    have HRD := hid hrd1
    have HB13 := hid hb3
    have HB3 := hid (below_tr hb1 hb3)
    have HIB := hid hib
    have HSH := hid hsh
    have HBL := hid hbl
    have HZ3 := hid z3
    have HZ1 := hid hb1.size
    have HWS := hid hws
    clear ho1 ho2 hrd1 hws hsh hb3 z3 hbld hib hbl hb1 hc1
    go_wp2
    rw [← hw3]
    clear hw3
    obtain ⟨B, hB⟩ : ∃ B, B = w1.heap.size + 1 := ⟨_, rfl⟩
    rw [← hB] at HIB ⊢
    have HB := hid hB
    have hBz : B ≤ w3.heap.size := by rw [HZ3.out]; omega
    clear hB
    go_loopw [29] (fun i wr => ∃ k : Nat, k ≤ ts.length ∧ i = .int .i64 (k : Int) ∧ Hid (IsB B B (bytesS (ts.take k)) wr) ∧ Below B w3 wr) (fun i _ => ts.length - (intOf i).toNat)
    case atStart => exact ⟨0, by omega, rfl, by simpa [bytesS] using HIB, below_rf w3 |>.mono hBz⟩
    case round =>
      obtain ⟨k, hk, rfl, HI, hBr⟩ := hrel
      by_cases hlt : k < ts.length
      · obtain ⟨b, o, rfl, hc1⟩ := Rd.str (HRD.out.below (HB13.out.trans (hBr.mono (by rw [HB.out]; omega)))) hlt
        obtain ⟨t, ht⟩ : ∃ t, t = sat ts k := ⟨_, rfl⟩
        rw [← ht] at hc1
        have htl2 : t.length ≤ 1000000000 := by rw [ht, sat_eq ts k hlt]; exact HSH.out _ (List.getElem_mem hlt)
        have HT := hid ht
        clear ht
        have hbk : (bytesS (ts.take k)).length ≤ 34000000136 := by
          have h1 := bytes_len (ts.take k) 1000000000 (fun x hx => HSH.out x (List.mem_of_mem_take hx))
          have h2 : (ts.take k).length ≤ 34 := by rw [List.length_take]; omega
          have h3 : (ts.take k).length * (1000000000 + 4) ≤ 34 * 1000000004 := Nat.mul_le_mul h2 (Nat.le_refl _)
          omega
        have hsr : B + 1 ≤ wr.heap.size := by have := hBr.size; rw [HZ3.out] at this; rw [HB.out]; omega
        obtain ⟨wa, hwa⟩ : ∃ wa, wa = wr.alloc (Obj.cells #[Value.int IntKind.u8 ((t.length : Int) / 16777216), Value.int IntKind.u8 ((t.length : Int) / 65536 % 256), Value.int IntKind.u8 ((t.length : Int) / 256 % 256), Value.int IntKind.u8 ((t.length : Int) % 256)] 5) := ⟨_, rfl⟩
        have hba : Below wr.heap.size wr wa := by rw [hwa]; exact below_al (below_rf wr) _
        have hrow : Rd wa (some ⟨wr.heap.size, 0, none⟩) (byts (four t.length)) := by
          refine .inr ⟨_, _, rfl, fun j x hj => ?_⟩
          have e : byts (four t.length) = [Value.int IntKind.u8 ((t.length : Int) / 16777216), Value.int IntKind.u8 ((t.length : Int) / 65536 % 256), Value.int IntKind.u8 ((t.length : Int) / 256 % 256), Value.int IntKind.u8 ((t.length : Int) % 256)] := by
            simp only [byts, four, List.map_cons, List.map_nil]
            rw [u8_toNat _ (by omega), u8_toNat _ (by omega), u8_toNat _ (by omega), u8_toNat _ (by omega)]
            rw [show ((t.length / 16777216 : Nat) : Int) % 256 = (t.length : Int) / 16777216 by omega]
            rfl
          rw [e] at hj
          rw [hwa, World.cell?_alloc_at _ _ _ _ (by simp), Nat.zero_add, ← hj]
          simp
        have hw := wbytes_any B B (bytesS (ts.take k)) (four t.length) (some ⟨wr.heap.size, 0, none⟩) 4 wa (isb_below HI.out hba) hrow (by rw [show (four t.length).length = 4 from rfl]; omega) (by have := hba.size; omega) (by intro a h; injection h with h; subst h; show wr.heap.size ≠ B; omega) (by simp) (by intro a h; injection h with h; subst h; rfl)
        have HWB := hid hw
        have HBA := hid (hBr.trans (hba.mono (by omega : B ≤ wr.heap.size)))
        have hza := hba.size
        clear hw hrow hba
        go_wp2_with fail
        rw [← hwa]
        clear hwa
        refine HWB.out.mono ?_; rintro e w5 ⟨rfl, hI5, hB5⟩
        have hz5 := hB5.size
        have hh := wstr_any B B _ t w5 hI5 (by rw [List.length_append, show (four t.length).length = 4 from rfl]; omega) (by omega)
        have HH := hid hh
        have HB5 := hid (HBA.out.trans hB5)
        clear hh hI5 hB5
        go_wp2_with fail
        refine HH.out.mono ?_; rintro e w6 ⟨rfl, hI6, hB6⟩
        rw [List.append_assoc, HT.out, ← bytes_snoc ts k hlt] at hI6
        have HI6 := hid hI6
        have HB6 := hid (HB5.out.trans hB6)
        clear hI6 hB6
        go_wp2
        go_roundw
        case rel => exact ⟨k + 1, by omega, by go_num, HI6, HB6.out⟩
        case measure => simp [intOf]; omega
      · obtain rfl : k = ts.length := by omega
        rw [List.take_length] at HI
        have hsr : B ≤ wr.heap.size := by have := hBr.size; rw [HZ3.out] at this; rw [HB.out]; omega
        go_wp2_with fail
        refine (wstring_any B B _ _ HI.out hsr).mono ?_; rintro e w5 ⟨rfl, hb5⟩
        have HF : Hid (Below w.heap.size w w5) := hid ((HB3.out.trans (hBr.mono (by rw [HB.out]; have := HZ1.out; omega))).trans (hb5.mono (by rw [HB.out]; have := HZ1.out; omega)))
        clear hb5
        go_wp2
        go_ret2
        refine ⟨?_, HF.out⟩
        rw [HWS.out]
        rfl
end Go.Proofs.Yteeonfnaikndfaa.W11
