/- The walks of layer 8: where a key stands in a node. -/
import Derived.Test.YtidbaagdajkojaaOrd
import Derived.Test.YtidbaagdajkojaaW08b
set_option linter.unusedVariables false
set_option linter.unusedSimpArgs false
namespace Go.Proofs.Ytidbaagdajkojaa.W08
open Go.RowKit Go.Proofs.Ytidbaagdajkojaa.Lib Go.Proofs.Ytidbaagdajkojaa.Sha Go.Proofs.Ytidbaagdajkojaa.T08 Go.Proofs.Ytidbaagdajkojaa.QTail Go.Proofs.Ytidbaagdajkojaa.Itms Go.Proofs.Ytidbaagdajkojaa.WSeq Go.Proofs.Ytidbaagdajkojaa.Ord
attribute [local go_sem] Str_size Str_toList Str_extract Str_append Str_get bt_nn bt_lt List.length_append take_rest
theorem cmp_any (x : Itm) (k : List UInt8) (w : World) :
    Calls Try.prog 65 #[.agg #[.string (Str x.1), .string (Str x.2)], .string (Str k)] w fun e w' => e = .returned (.int .i64 (Go.Lib.compareBytes x.1 k)) ∧ Below w.heap.size w w' := by
  go_enter Try.func65, Try.ntmps65
  go_wp2_with fail
  refine (Try.strings_Compare (Str x.1) (Str k) _).mono ?_; rintro e w1 ⟨rfl, rfl⟩
  rw [Str_data, Str_data]
  go_wp2
  go_ret
  exact ⟨rfl, below_al (below_rf w) _⟩
set_option maxRecDepth 100000 in
set_option maxHeartbeats 1600000 in
theorem search_any (A : Option Addr) (c : Nat) (l : List Itm) (key : List UInt8) (hl : l.length ≤ 1000000000) (hok : okS l = true) (w : World) (hrd : Rd w A (its l)) :
    Calls Try.prog 64 #[.slice A l.length c, .string (Str key), .func (.func 65) #[] #[]] w fun e w' => (∃ (i : Nat) (b : Bool), e = .returned (.tuple #[.int .i64 (i : Int), .bool b]) ∧ PlaceAt l key i) ∧ Below w.heap.size w w' := by
  have H0 := hid hrd
  have HOK := hid hok
  clear hrd hok
  go_enter Try.func64, Try.ntmps64
  go_wp2
  go_loopw [9, 10] (fun iv jv wr => ∃ i j : Nat, i ≤ j ∧ j ≤ l.length ∧ iv = .int .i64 (i : Int) ∧ jv = .int .i64 (j : Int) ∧ Hid (∀ t, t < i → ltS (itm l t).1 key = true) ∧ Hid (∀ t, j ≤ t → t < l.length → ltS (itm l t).1 key = false) ∧ Below w.heap.size w wr) (fun iv jv _ => (intOf jv - intOf iv).toNat)
  case atStart => exact ⟨0, l.length, by omega, by omega, rfl, rfl, hid (fun t h => by omega), hid (fun t h h2 => by omega), below_rf w⟩
  case round =>
    obtain ⟨i, j, hij, hj, rfl, rfl, HI, HJ, hB⟩ := hrel
    by_cases hlt : i < j
    · obtain ⟨m, hm⟩ : ∃ m, m = (i + j) / 2 := ⟨_, rfl⟩
      have hm1 : i ≤ m := by omega
      have hm2 : m < j := by omega
      have hme : ((i : Int) + (j : Int)) / 2 = (m : Int) := by omega
      obtain ⟨b, o, rfl, hc1, hc2⟩ := rd_itm (Rd.below H0.out hB) (j := m) (by omega)
      have HM := hid hm
      clear hm
      go_wp2_with fail
      refine (cmp_any (itm l m) key wr).mono ?_; rintro e w1 ⟨rfl, hb1⟩
      have hcn := cmp_neg (itm l m).1 key
      obtain ⟨q, hq⟩ : ∃ q, q = Go.Lib.compareBytes (itm l m).1 key := ⟨_, rfl⟩
      rw [← hq] at hcn ⊢
      clear hq
      cases hlt2 : ltS (itm l m).1 key with
      | true =>
        rw [hlt2] at hcn
        have HNI := hid (show ∀ t, t < m + 1 → ltS (itm l t).1 key = true from fun t ht => place_lo l key HOK.out m t (by omega) (by omega) hlt2)
        clear hlt2
        go_wp2
        go_roundw
        case rel => exact ⟨m + 1, j, by omega, hj, by go_num, rfl, HNI, HJ, below_tr hB hb1⟩
        case measure => simp [intOf]; omega
      | false =>
        rw [hlt2] at hcn
        have HNJ := hid (show ∀ t, m ≤ t → t < l.length → ltS (itm l t).1 key = false from fun t ht ht2 => place_hi l key HOK.out m t ht ht2 hlt2)
        clear hlt2
        go_wp2
        go_roundw
        case rel => exact ⟨i, m, by omega, by omega, rfl, by go_num, HI, HNJ, below_tr hB hb1⟩
        case measure => simp [intOf]; omega
    · obtain rfl : i = j := by omega
      by_cases hil : i < l.length
      · obtain ⟨b, o, rfl, hc1, hc2⟩ := rd_itm (Rd.below H0.out hB) (j := i) hil
        go_wp2_with fail
        refine (cmp_any (itm l i) key wr).mono ?_; rintro e w1 ⟨rfl, hb1⟩
        obtain ⟨q, hq⟩ : ∃ q, q = Go.Lib.compareBytes (itm l i).1 key := ⟨_, rfl⟩
        rw [← hq]
        clear hq
        go_wp2
        go_ret2
        exact ⟨⟨i, _, rfl, hj, HI.out, HJ.out⟩, below_tr hB hb1⟩
      · obtain rfl : i = l.length := by omega
        go_wp2
        go_ret2
        exact ⟨⟨l.length, _, rfl, Nat.le_refl _, HI.out, HJ.out⟩, hB⟩
set_option maxRecDepth 100000 in
theorem place_any (level : Int) (A : Option Addr) (c : Nat) (l : List Itm) (key : List UInt8) (hl : l.length ≤ 1000000000) (hok : okS l = true) (w : World) (hrd : Rd w A (its l)) :
    Calls Try.prog 39 #[.agg #[.int .i64 level, .slice A l.length c], .string (Str key)] w fun e w' => (∃ i : Nat, e = .returned (.int .i64 (i : Int)) ∧ PlaceAt l key i) ∧ Below w.heap.size w w' := by
  have hal := below_al (below_rf w) (Obj.cells #[.int .i64 level, .slice A l.length c] 58)
  have hse := search_any A c l key hl hok (w.alloc (Obj.cells #[.int .i64 level, .slice A l.length c] 58)) (hrd.below hal)
  have HSE := hid hse
  clear hse hrd
  go_enter Try.func39, Try.ntmps39
  go_wp2_with fail
  refine HSE.out.mono ?_; rintro e w1 ⟨⟨i, b, rfl, hp⟩, hb1⟩
  have HP := hid hp
  clear hp
  go_wp2
  go_ret
  exact ⟨⟨i, rfl, HP.out⟩, below_tr hal hb1⟩
end Go.Proofs.Ytidbaagdajkojaa.W08
