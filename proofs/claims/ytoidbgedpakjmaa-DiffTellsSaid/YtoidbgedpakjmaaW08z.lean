/- The walks of layer 8: nodes out of a source. -/
import Derived.Test.YtoidbgedpakjmaaW08y
import Derived.Test.YtoidbgedpakjmaaW08w
set_option linter.unusedVariables false
set_option linter.unusedSimpArgs false
namespace Go.Proofs.Ytoidbgedpakjmaa.W08
open Go.RowKit Go.Proofs.Ytoidbgedpakjmaa.Lib Go.Proofs.Ytoidbgedpakjmaa.Sha Go.Proofs.Ytoidbgedpakjmaa.T08 Go.Proofs.Ytoidbgedpakjmaa.QTail Go.Proofs.Ytoidbgedpakjmaa.Itms Go.Proofs.Ytoidbgedpakjmaa.WSeq Go.Proofs.Ytoidbgedpakjmaa.Bld Go.Proofs.Ytoidbgedpakjmaa.Mp
attribute [local go_sem] Str_size Str_toList Str_extract Str_append Str_get bt_nn bt_lt List.length_append take_rest
def srcV (hb : Nat) : Value := .iface 31 (.pointer (some ⟨hb, 0, none⟩))
def atS (f : List UInt8 → Option (List UInt8)) (k : List UInt8) : Option (Nat × List Itm) := match f k with | none => none | some s => parseS s
def NodeOut (B : Nat) (r : Option (Nat × List Itm)) (e : Ending) (W : World) : Prop :=
  (r = none ∧ e = .returned (.tuple #[.agg #[.int .i64 0, .slice none 0 0], .bool false])) ∨
  ∃ lv l v, r = some (lv, l) ∧ e = .returned (.tuple #[.agg #[.int .i64 (lv : Int), v], .bool true]) ∧ W.ownsRow B 63 2 v l.length (its l)
theorem method_get (a : Addr) (w : World) : (method 255 31 (.pointer (some a)) "Get").run Try.prog w = .ok (93, .pointer (some a)) w := by kernel_rfl
set_option maxRecDepth 100000 in
set_option maxHeartbeats 1600000 in
theorem at_any (hb mb n : Nat) (f : List UInt8 → Option (List UInt8)) (hf : ∀ k s, f k = some s → s.length ≤ 1000000000) (k : List UInt8) (hk : k.length ≤ 1000000000) (w : World) (hH : HeapT w hb mb n f) :
    Calls Try.prog 65 #[.iface 31 (.pointer (some ⟨hb, 0, none⟩)), .string (Str k)] w fun e w' => NodeOut w.heap.size (atS f k) e w' ∧ Below w.heap.size w w' := by
  go_enter Try.func65, Try.ntmps65
  have hmg := method_get
  have hal := below_al (below_rf w) (Obj.cells #[Value.int IntKind.i64 0, Value.slice none 0 0] 56)
  have hres := heap_new w (Obj.cells #[Value.int IntKind.i64 0, Value.slice none 0 0] 56)
  obtain ⟨w1, hw1⟩ : ∃ w1, w1 = w.alloc (Obj.cells #[Value.int IntKind.i64 0, Value.slice none 0 0] 56) := ⟨_, rfl⟩
  rw [← hw1] at hal hres
  have hz1 : w.heap.size < w1.heap.size := by rw [hw1]; simp
  have HH1 := hid (hH.below hal)
  have HW1 := hid hw1
  have HZ1 := hid hz1
  clear hz1
  go_wp2_with fail
  rw [← hw1]
  clear hw1
  refine (get_any hb mb n f k hk _ HH1.out).mono ?_; rintro e w2 ⟨rfl, e2⟩
  rw [e2]
  clear e2 w2
  have r0 : w1.cell? ⟨w.heap.size, 0, none⟩ = some (.int .i64 0) := by rw [Go.Lib.cell_of_heap hres]; rfl
  have r1 : w1.cell? ⟨w.heap.size, 1, none⟩ = some (.slice none 0 0) := by rw [Go.Lib.cell_of_heap hres]; rfl
  have r2 : w1.frozen? ⟨w.heap.size, 0, none⟩ = false := Go.Lib.frozen_of_heap hres 0
  have r3 : w1.frozen? ⟨w.heap.size, 1, none⟩ = false := Go.Lib.frozen_of_heap hres 1
  cases hfk : f k with
  | none =>
    have HA := hid (show atS f k = none by unfold atS; rw [hfk])
    clear hfk
    go_wp2
    refine bodyPost_ret (v := .tuple #[.agg #[.int .i64 0, .slice none 0 0], .bool false]) ((results_cell_tmp rfl _ _ _).trans ?_) rfl ?_
    · go_simp
    exact ⟨.inl ⟨HA.out, rfl⟩, (hal.setCell (p := ⟨w.heap.size, 0, none⟩) (Nat.le_refl _) _).setCell (p := ⟨w.heap.size, 1, none⟩) (Nat.le_refl _) _⟩
  | some s =>
    have HA := hid (show atS f k = parseS s by unfold atS; rw [hfk])
    have hsl := hf k s hfk
    have HRES := hid hres
    clear hfk hf hres
    go_wp2_with fail
    refine (parse_any s w1 hsl).mono ?_; rintro e w3 ⟨ho, hb3⟩
    have hB3 := below_tr hal hb3
    have hres3 : w3.heap[w.heap.size]? = _ := (hb3.block _ HZ1.out).trans HRES.out
    have s0 : w3.cell? ⟨w.heap.size, 0, none⟩ = some (.int .i64 0) := by rw [Go.Lib.cell_of_heap hres3]; rfl
    have s1 : w3.cell? ⟨w.heap.size, 1, none⟩ = some (.slice none 0 0) := by rw [Go.Lib.cell_of_heap hres3]; rfl
    have s2 : w3.frozen? ⟨w.heap.size, 0, none⟩ = false := Go.Lib.frozen_of_heap hres3 0
    have s3 : w3.frozen? ⟨w.heap.size, 1, none⟩ = false := Go.Lib.frozen_of_heap hres3 1
    clear r0 r1 r2 r3 hres3
    rcases ho with ⟨hp, rfl⟩ | ⟨lv, l, v, hp, rfl, hown⟩
    · have HP := hid hp
      clear hp
      go_wp2
      refine bodyPost_ret (v := .tuple #[.agg #[.int .i64 0, .slice none 0 0], .bool false]) ((results_cell_tmp rfl _ _ _).trans ?_) rfl ?_
      · go_simp
      exact ⟨.inl ⟨by rw [HA.out, HP.out], rfl⟩, (hB3.setCell (p := ⟨w.heap.size, 0, none⟩) (Nat.le_refl _) _).setCell (p := ⟨w.heap.size, 1, none⟩) (Nat.le_refl _) _⟩
    · have HP := hid hp
      obtain ⟨A, c, rfl⟩ := own_succ hown
      have HOWN := hid hown
      clear hp hown
      go_wp2
      refine bodyPost_ret (v := .tuple #[.agg #[.int .i64 (lv : Int), .slice A l.length c], .bool true]) ((results_cell_tmp rfl _ _ _).trans ?_) rfl ?_
      · go_simp
      have hne : ∀ q : Addr, q.block = w.heap.size → (Value.slice A l.length c).ownBlock ≠ some q.block := by
        intro q hq e
        have h1 := own_block_base HOWN.out _ e
        have h2 := HZ1.out
        omega
      exact ⟨.inr ⟨lv, l, _, by rw [HA.out, HP.out], rfl, own_setCell (own_setCell (own_base HOWN.out hal.size) ⟨w.heap.size, 0, none⟩ _ (hne _ rfl)) ⟨w.heap.size, 1, none⟩ _ (hne _ rfl)⟩, (hB3.setCell (p := ⟨w.heap.size, 0, none⟩) (Nat.le_refl _) _).setCell (p := ⟨w.heap.size, 1, none⟩) (Nat.le_refl _) _⟩
end Go.Proofs.Ytoidbgedpakjmaa.W08
