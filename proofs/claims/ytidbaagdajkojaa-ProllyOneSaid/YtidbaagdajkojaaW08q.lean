/- The walks of layer 8: what is found in a tree of one node. -/
import Derived.Test.YtidbaagdajkojaaW08z
import Derived.Test.YtidbaagdajkojaaW08p
set_option linter.unusedVariables false
set_option linter.unusedSimpArgs false
namespace Go.Proofs.Ytidbaagdajkojaa.W08
open Go.RowKit Go.Proofs.Ytidbaagdajkojaa.Lib Go.Proofs.Ytidbaagdajkojaa.Sha Go.Proofs.Ytidbaagdajkojaa.T08 Go.Proofs.Ytidbaagdajkojaa.QTail Go.Proofs.Ytidbaagdajkojaa.Itms Go.Proofs.Ytidbaagdajkojaa.WSeq Go.Proofs.Ytidbaagdajkojaa.Bld Go.Proofs.Ytidbaagdajkojaa.Mp Go.Proofs.Ytidbaagdajkojaa.Ord
attribute [local go_sem] Str_size Str_toList Str_extract Str_append Str_get bt_nn bt_lt List.length_append take_rest
theorem parse_right {s : List UInt8} {lv : Nat} {l : List Itm} (h : parseS s = some (lv, l)) : rightS l = true ∧ l.length ≤ 1000000000 ∨ 1000000000 < l.length := by
  unfold parseS at h
  split at h
  · split at h
    · cases h
    · split at h
      · rename_i hh
        injection h with h; injection h with h1 h2
        subst h2
        rcases Nat.lt_or_ge 1000000000 _ with h3 | h3
        · exact .inr h3
        · exact .inl ⟨hh.2.2, h3⟩
      · cases h
  · cases h
theorem right_ok {l : List Itm} (h : rightS l = true) : okS l = true := by
  unfold rightS at h
  simp only [Bool.and_eq_true] at h
  exact h.1
set_option maxRecDepth 100000 in
set_option maxHeartbeats 1600000 in
theorem find_leaf (hb mb n : Nat) (f : List UInt8 → Option (List UInt8)) (hf : ∀ k s, f k = some s → s.length ≤ 1000000000) (root key : List UInt8) (hk : root.length ≤ 1000000000) (l : List Itm) (hat : atS f root = some (0, l)) (hok : okS l = true) (hll : l.length ≤ 1000000) (i : Nat) (hi : i < l.length) (hp : PlaceAt l key i) (hke : (itm l i).1 = key) (w : World) (hH : HeapT w hb mb n f) :
    Calls Try.prog 20 #[.iface 45 (.pointer (some ⟨hb, 0, none⟩)), .string (Str root), .string (Str key)] w fun e w' => e = .returned (.tuple #[.string (Str (itm l i).2), .bool true, .int .i64 0]) ∧ Below w.heap.size w w' := by
  have HP := hid hp
  have HOK := hid hok
  have HKE := hid hke
  clear hp hok hke
  go_enter Try.func20, Try.ntmps20
  go_wp2_with fail
  refine (at_any hb mb n f hf root hk w hH).mono ?_; rintro e w1 ⟨ho, hb1⟩
  rcases ho with ⟨h0, _⟩ | ⟨lv, l', v, h0, rfl, hown⟩
  · rw [hat] at h0; cases h0
  · rw [hat] at h0
    injection h0 with h0; injection h0 with e1 e2
    subst e1; subst e2
    obtain ⟨A, c, rfl, hcc, hrd, _, _⟩ := Rd.own' hown
    have HRD := hid hrd
    have HB1 := hid hb1
    clear hown hrd hat
    obtain ⟨w2, hw2⟩ : ∃ w2, w2 = w1.alloc (Obj.cells #[.int .i64 0, .slice A l.length c] 58) := ⟨_, rfl⟩
    have hal : Below w1.heap.size w1 w2 := by rw [hw2]; exact below_al (below_rf w1) _
    have hnod : w2.heap[w1.heap.size]? = some (Obj.cells #[.int .i64 0, .slice A l.length c] 58 (0, 0)) := by rw [hw2]; exact heap_new w1 _
    have n0 : w2.cell? ⟨w1.heap.size, 0, none⟩ = some (.int .i64 0) := by rw [Go.Lib.cell_of_heap hnod]; rfl
    have n1 : w2.cell? ⟨w1.heap.size, 1, none⟩ = some (.slice A l.length c) := by rw [Go.Lib.cell_of_heap hnod]; rfl
    have HNOD := hid hnod
    have hz : w1.heap.size < w2.heap.size := by rw [hw2]; simp
    have HZ := hid hz
    have hpl := place_any 0 A c l key (by omega) HOK.out w2 (HRD.out.below hal)
    have HPL := hid hpl
    have HAL := hid hal
    clear hpl hz hnod hb1 hal
    go_wp2
    rw [← hw2]
    clear hw2
    go_loopw [10] (fun x wr => x = .bool true ∧ wr = w2) (fun _ _ => 0)
    case atStart => exact ⟨rfl, rfl⟩
    case round =>
      obtain ⟨rfl, rfl⟩ := hrel
      go_wp2_with fail
      refine HPL.out.mono ?_; rintro e w3 ⟨⟨j, rfl, hj⟩, hb3⟩
      have hij : j = i := place_one l key j i hj HP.out
      subst hij
      have hnod3 := (hb3.block _ HZ.out).trans HNOD.out
      have m0 : w3.cell? ⟨w1.heap.size, 0, none⟩ = some (.int .i64 0) := by rw [Go.Lib.cell_of_heap hnod3]; rfl
      have m1 : w3.cell? ⟨w1.heap.size, 1, none⟩ = some (.slice A l.length c) := by rw [Go.Lib.cell_of_heap hnod3]; rfl
      have hrd3 := (HRD.out.below HAL.out).below hb3
      obtain ⟨b, o, rfl, hc1, hc2⟩ := rd_itm hrd3 hi
      rw [HKE.out] at hc1
      have hne : ((j : Int) == (l.length : Int)) = false := beq_eq_false_iff_ne.2 (by omega)
      have hkk : (key == key) = true := beq_self_eq_true key
      have HB3 := hid (below_tr HB1.out (below_tr HAL.out hb3))
      clear hj hnod3 hrd3 hb3
      go_wp2
      go_ret3
      exact ⟨rfl, HB3.out⟩
end Go.Proofs.Ytidbaagdajkojaa.W08
