/- The walks of layer 8: where a key stands in a node. The walks of layer 8: what is found in a tree of one node. -/
import Derived.Test.YteeonfnaikndfaaOrd
import Derived.Test.YteeonfnaikndfaaW08
import Derived.Test.YteeonfnaikndfaaW08z
set_option linter.unusedVariables false
set_option linter.unusedSimpArgs false
namespace Go.Proofs.Yteeonfnaikndfaa.W08
open Go.RowKit Go.Proofs.Yteeonfnaikndfaa.Lib Go.Proofs.Yteeonfnaikndfaa.Sha Go.Proofs.Yteeonfnaikndfaa.T08 Go.Proofs.Yteeonfnaikndfaa.QTail Go.Proofs.Yteeonfnaikndfaa.Itms Go.Proofs.Yteeonfnaikndfaa.WSeq Go.Proofs.Yteeonfnaikndfaa.Ord
attribute [local go_sem] Str_size Str_toList Str_extract Str_append Str_get bt_nn bt_lt List.length_append take_rest
theorem cmp_any (x : Itm) (k : List UInt8) (w : World) :
    Calls Try.prog 83 #[.agg #[.string (Str x.1), .string (Str x.2)], .string (Str k)] w fun e w' => e = .returned (.int .i64 (Go.Lib.compareBytes x.1 k)) ∧ Below w.heap.size w w' := by
  go_enter Try.func83, Try.ntmps83
  go_wp2_with fail
  refine (Try.strings_Compare (Str x.1) (Str k) _).mono ?_; rintro e w1 ⟨rfl, rfl⟩
  rw [Str_data, Str_data]
  go_wp2
  go_ret
  exact ⟨rfl, below_al (below_rf w) _⟩
set_option maxRecDepth 100000 in
set_option maxHeartbeats 1600000 in
theorem search_any (A : Option Addr) (c : Nat) (l : List Itm) (key : List UInt8) (hl : l.length ≤ 1000000000) (hok : okS l = true) (w : World) (hrd : Rd w A (its l)) :
    Calls Try.prog 82 #[.slice A l.length c, .string (Str key), .func (.func 83) #[] #[]] w fun e w' => (∃ (i : Nat) (b : Bool), e = .returned (.tuple #[.int .i64 (i : Int), .bool b]) ∧ PlaceAt l key i) ∧ Below w.heap.size w w' := by
  have H0 := hid hrd
  have HOK := hid hok
  clear hrd hok
  go_enter Try.func82, Try.ntmps82
  go_wp2
  go_loopw [9, 10] (fun iv jv wr => ∃ i j : Nat, i ≤ j ∧ j ≤ l.length ∧ iv = .int .i64 (i : Int) ∧ jv = .int .i64 (j : Int) ∧ Hid (∀ t, t < i → ltS (itm l t).1 key = true) ∧ Hid (∀ t, j ≤ t → t < l.length → ltS (itm l t).1 key = false) ∧ Below w.heap.size w wr) (fun iv jv _ => (intOf jv - intOf iv).toNat)
  case atStart => exact ⟨0, l.length, by omega, by omega, rfl, rfl, hid (fun t h => by omega), hid (fun t h h2 => by omega), below_rf w⟩
  case round =>
    obtain ⟨i, j, hij, hj, rfl, rfl, HI, HJ, hB⟩ := hrel
    by_cases hlt : i < j
    · obtain ⟨m, hm⟩ : ∃ m, m = (i + j) / 2 := ⟨_, rfl⟩
      have hm1 : i ≤ m := by omega
      have hm2 : m < j := by omega
      have hme : ((i : Int) + (j : Int)) / 2 = (m : Int) := by omega
      obtain ⟨b, o, rfl, hc1, hc2⟩ := rd_itm (Rd.below H0.out hB) (j := m) (by omega)
      have HM := hid hm
      clear hm
      go_wp2_with fail
      refine (cmp_any (itm l m) key wr).mono ?_; rintro e w1 ⟨rfl, hb1⟩
      have hcn := cmp_neg (itm l m).1 key
      obtain ⟨q, hq⟩ : ∃ q, q = Go.Lib.compareBytes (itm l m).1 key := ⟨_, rfl⟩
      rw [← hq] at hcn ⊢
      clear hq
      cases hlt2 : ltS (itm l m).1 key with
      | true =>
        rw [hlt2] at hcn
        have HNI := hid (show ∀ t, t < m + 1 → ltS (itm l t).1 key = true from fun t ht => place_lo l key HOK.out m t (by omega) (by omega) hlt2)
        clear hlt2
        go_wp2
        go_roundw
        case rel => exact ⟨m + 1, j, by omega, hj, by go_num, rfl, HNI, HJ, below_tr hB hb1⟩
        case measure => simp [intOf]; omega
      | false =>
        rw [hlt2] at hcn
        have HNJ := hid (show ∀ t, m ≤ t → t < l.length → ltS (itm l t).1 key = false from fun t ht ht2 => place_hi l key HOK.out m t ht ht2 hlt2)
        clear hlt2
        go_wp2
        go_roundw
        case rel => exact ⟨i, m, by omega, by omega, rfl, by go_num, HI, HNJ, below_tr hB hb1⟩
        case measure => simp [intOf]; omega
    · obtain rfl : i = j := by omega
      by_cases hil : i < l.length
      · obtain ⟨b, o, rfl, hc1, hc2⟩ := rd_itm (Rd.below H0.out hB) (j := i) hil
        go_wp2_with fail
        refine (cmp_any (itm l i) key wr).mono ?_; rintro e w1 ⟨rfl, hb1⟩
        obtain ⟨q, hq⟩ : ∃ q, q = Go.Lib.compareBytes (itm l i).1 key := ⟨_, rfl⟩
        rw [← hq]
        clear hq
        go_wp2
        go_ret2
        exact ⟨⟨i, _, rfl, hj, HI.out, HJ.out⟩, below_tr hB hb1⟩
      · obtain rfl : i = l.length := by omega
        go_wp2
        go_ret2
        exact ⟨⟨l.length, _, rfl, Nat.le_refl _, HI.out, HJ.out⟩, hB⟩
set_option maxRecDepth 100000 in
theorem place_any (level : Int) (A : Option Addr) (c : Nat) (l : List Itm) (key : List UInt8) (hl : l.length ≤ 1000000000) (hok : okS l = true) (w : World) (hrd : Rd w A (its l)) :
    Calls Try.prog 53 #[.agg #[.int .i64 level, .slice A l.length c], .string (Str key)] w fun e w' => (∃ i : Nat, e = .returned (.int .i64 (i : Int)) ∧ PlaceAt l key i) ∧ Below w.heap.size w w' := by
  have hal := below_al (below_rf w) (Obj.cells #[.int .i64 level, .slice A l.length c] 77)
  have hse := search_any A c l key hl hok (w.alloc (Obj.cells #[.int .i64 level, .slice A l.length c] 77)) (hrd.below hal)
  have HSE := hid hse
  clear hse hrd
  go_enter Try.func53, Try.ntmps53
  go_wp2_with fail
  refine HSE.out.mono ?_; rintro e w1 ⟨⟨i, b, rfl, hp⟩, hb1⟩
  have HP := hid hp
  clear hp
  go_wp2
  go_ret
  exact ⟨⟨i, rfl, HP.out⟩, below_tr hal hb1⟩
end Go.Proofs.Yteeonfnaikndfaa.W08
namespace Go.Proofs.Yteeonfnaikndfaa.W08
open Go.RowKit Go.Proofs.Yteeonfnaikndfaa.Lib Go.Proofs.Yteeonfnaikndfaa.Sha Go.Proofs.Yteeonfnaikndfaa.T08 Go.Proofs.Yteeonfnaikndfaa.QTail Go.Proofs.Yteeonfnaikndfaa.Itms Go.Proofs.Yteeonfnaikndfaa.WSeq Go.Proofs.Yteeonfnaikndfaa.Bld Go.Proofs.Yteeonfnaikndfaa.Mp Go.Proofs.Yteeonfnaikndfaa.Ord
attribute [local go_sem] Str_size Str_toList Str_extract Str_append Str_get bt_nn bt_lt List.length_append take_rest
theorem parse_right {s : List UInt8} {lv : Nat} {l : List Itm} (h : parseS s = some (lv, l)) : rightS l = true ∧ l.length ≤ 1000000000 ∨ 1000000000 < l.length := by
  unfold parseS at h
  split at h
  · split at h
    · cases h
    · split at h
      · rename_i hh
        injection h with h; injection h with h1 h2
        subst h2
        rcases Nat.lt_or_ge 1000000000 _ with h3 | h3
        · exact .inr h3
        · exact .inl ⟨hh.2.2, h3⟩
      · cases h
  · cases h
theorem right_ok {l : List Itm} (h : rightS l = true) : okS l = true := by
  unfold rightS at h
  simp only [Bool.and_eq_true] at h
  exact h.1
set_option maxRecDepth 100000 in
set_option maxHeartbeats 1600000 in
theorem find_leaf (hb mb n : Nat) (f : List UInt8 → Option (List UInt8)) (hf : ∀ k s, f k = some s → s.length ≤ 1000000000) (root key : List UInt8) (hk : root.length ≤ 1000000000) (l : List Itm) (hat : atS f root = some (0, l)) (hok : okS l = true) (hll : l.length ≤ 1000000) (i : Nat) (hi : i < l.length) (hp : PlaceAt l key i) (hke : (itm l i).1 = key) (w : World) (hH : HeapT w hb mb n f) :
    Calls Try.prog 24 #[.iface 43 (.pointer (some ⟨hb, 0, none⟩)), .string (Str root), .string (Str key)] w fun e w' => e = .returned (.tuple #[.string (Str (itm l i).2), .bool true, .int .i64 0]) ∧ Below w.heap.size w w' := by
  have HP := hid hp
  have HOK := hid hok
  have HKE := hid hke
  clear hp hok hke
  go_enter Try.func24, Try.ntmps24
  go_wp2_with fail
  refine (at_any hb mb n f hf root hk w hH).mono ?_; rintro e w1 ⟨ho, hb1⟩
  rcases ho with ⟨h0, _⟩ | ⟨lv, l', v, h0, rfl, hown⟩
  · rw [hat] at h0; cases h0
  · rw [hat] at h0
    injection h0 with h0; injection h0 with e1 e2
    subst e1; subst e2
    obtain ⟨A, c, rfl, hcc, hrd, _, _⟩ := Rd.own' hown
    have HRD := hid hrd
    have HB1 := hid hb1
    clear hown hrd hat
    obtain ⟨w2, hw2⟩ : ∃ w2, w2 = w1.alloc (Obj.cells #[.int .i64 0, .slice A l.length c] 77) := ⟨_, rfl⟩
    have hal : Below w1.heap.size w1 w2 := by rw [hw2]; exact below_al (below_rf w1) _
    have hnod : w2.heap[w1.heap.size]? = some (Obj.cells #[.int .i64 0, .slice A l.length c] 77 (0, 0)) := by rw [hw2]; exact heap_new w1 _
    have n0 : w2.cell? ⟨w1.heap.size, 0, none⟩ = some (.int .i64 0) := by rw [Go.Lib.cell_of_heap hnod]; rfl
    have n1 : w2.cell? ⟨w1.heap.size, 1, none⟩ = some (.slice A l.length c) := by rw [Go.Lib.cell_of_heap hnod]; rfl
    have HNOD := hid hnod
    have hz : w1.heap.size < w2.heap.size := by rw [hw2]; simp
    have HZ := hid hz
    have hpl := place_any 0 A c l key (by omega) HOK.out w2 (HRD.out.below hal)
    have HPL := hid hpl
    have HAL := hid hal
    clear hpl hz hnod hb1 hal
    go_wp2
    rw [← hw2]
    clear hw2
    go_loopw [10] (fun x wr => x = .bool true ∧ wr = w2) (fun _ _ => 0)
    case atStart => exact ⟨rfl, rfl⟩
    case round =>
      obtain ⟨rfl, rfl⟩ := hrel
      go_wp2_with fail
      refine HPL.out.mono ?_; rintro e w3 ⟨⟨j, rfl, hj⟩, hb3⟩
      have hij : j = i := place_one l key j i hj HP.out
      subst hij
      have hnod3 := (hb3.block _ HZ.out).trans HNOD.out
      have m0 : w3.cell? ⟨w1.heap.size, 0, none⟩ = some (.int .i64 0) := by rw [Go.Lib.cell_of_heap hnod3]; rfl
      have m1 : w3.cell? ⟨w1.heap.size, 1, none⟩ = some (.slice A l.length c) := by rw [Go.Lib.cell_of_heap hnod3]; rfl
      have hrd3 := (HRD.out.below HAL.out).below hb3
      obtain ⟨b, o, rfl, hc1, hc2⟩ := rd_itm hrd3 hi
      rw [HKE.out] at hc1
      have hne : ((j : Int) == (l.length : Int)) = false := beq_eq_false_iff_ne.2 (by omega)
      have hkk : (key == key) = true := beq_self_eq_true key
      have HB3 := hid (below_tr HB1.out (below_tr HAL.out hb3))
      clear hj hnod3 hrd3 hb3
      go_wp2
      go_ret3
      exact ⟨rfl, HB3.out⟩
end Go.Proofs.Yteeonfnaikndfaa.W08
