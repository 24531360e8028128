/- The walks of layer 8: the document's items, nodes, counts, right pairs. The walks of layer 8: the document's counts and right pairs. The walks of layer 8: the document's right pairs. -/
import Derived.Test.YteeonfnaikndfaaW08f
set_option linter.unusedVariables false
set_option linter.unusedSimpArgs false
namespace Go.Proofs.Yteeonfnaikndfaa.W08
open Go.RowKit Go.Proofs.Yteeonfnaikndfaa.Lib Go.Proofs.Yteeonfnaikndfaa.Sha Go.Proofs.Yteeonfnaikndfaa.T07 Go.Proofs.Yteeonfnaikndfaa.T08 Go.Proofs.Yteeonfnaikndfaa.QTail Go.Proofs.Yteeonfnaikndfaa.Bld Go.Proofs.Yteeonfnaikndfaa.Itms Go.Proofs.Yteeonfnaikndfaa.W07 Go.Proofs.Yteeonfnaikndfaa.WSeq
attribute [local go_sem] Str_size Str_toList Str_extract Str_append Str_get bt_nn bt_lt List.length_append take_rest sha_len two_len
end Go.Proofs.Yteeonfnaikndfaa.W08
namespace Go.Proofs.Yteeonfnaikndfaa.W08
open Go.RowKit Go.Proofs.Yteeonfnaikndfaa.Lib Go.Proofs.Yteeonfnaikndfaa.Sha Go.Proofs.Yteeonfnaikndfaa.T07 Go.Proofs.Yteeonfnaikndfaa.T08 Go.Proofs.Yteeonfnaikndfaa.QTail Go.Proofs.Yteeonfnaikndfaa.Bld Go.Proofs.Yteeonfnaikndfaa.Itms Go.Proofs.Yteeonfnaikndfaa.W07 Go.Proofs.Yteeonfnaikndfaa.WSeq
attribute [local go_sem] Str_size Str_toList Str_extract Str_append Str_get bt_nn bt_lt List.length_append take_rest sha_len two_len
theorem toldGo_mono (v : List UInt8) (k : Nat) : toldGo v k ≤ toldGo v (k + 1) := by rw [toldGo]; omega
theorem toldGo_le (v : List UInt8) : ∀ d k, toldGo v k ≤ toldGo v (k + d)
  | 0, k => Nat.le_refl _
  | d + 1, k => Nat.le_trans (toldGo_le v d k) (toldGo_mono v (k + d))
theorem bt_drop' (v : List UInt8) (a i : Nat) : bt (v.drop a) i = bt v (a + i) := by unfold bt; simp [List.getD_eq_getElem?_getD]
theorem rcount_any (v : List UInt8) (w : World) (hv : v.length = 40) (ht : told v ≤ 1099511627776) :
    Calls Try.prog 67 #[.string (Str (v.drop 32))] w fun e w' => e = .returned (.int .i64 (told v : Nat)) ∧ w' = w := by
  have hdl : (v.drop 32).length = 8 := by simp [hv]
  go_enter Try.func67, Try.ntmps67
  go_wp2
  go_loopw [3, 4] (fun n i wr => ∃ k : Nat, k ≤ 8 ∧ i = .int .i64 (k : Int) ∧ n = .int .i64 (toldGo v k : Nat) ∧ wr = w) (fun _ i _ => 8 - (intOf i).toNat)
  case atStart => exact ⟨0, by omega, rfl, rfl, rfl⟩
  case round =>
    obtain ⟨k, hk, rfl, rfl, rfl⟩ := hrel
    by_cases hlt : k < 8
    · have hm : toldGo v (k + 1) ≤ 1099511627776 := by
        have := toldGo_le v (7 - k) (k + 1)
        rw [show k + 1 + (7 - k) = 8 by omega] at this
        exact Nat.le_trans this ht
      have hst : toldGo v (k + 1) = toldGo v k * 256 + (bat v (32 + k)).toNat := rfl
      have hbb : bt (v.drop 32) k = ((bat v (32 + k)).toNat : Int) := by rw [bt_drop']; rfl
      have h0 := (bat v (32 + k)).toNat_lt
      have hj : ((toldGo v k : Nat) : Int) * 256 + bt (v.drop 32) k = ((toldGo v (k + 1) : Nat) : Int) := by rw [hbb, hst]; omega
      have hb0 := bt_nn (v.drop 32) k
      obtain ⟨t1, ht1⟩ : ∃ t1, t1 = toldGo v (k + 1) := ⟨_, rfl⟩
      obtain ⟨t0, ht0⟩ : ∃ t0, t0 = toldGo v k := ⟨_, rfl⟩
      rw [← ht1, ← ht0] at hst hj
      rw [← ht1] at hm
      rw [← ht0]
      have hgt : decide (1099511627776 < (t1 : Int)) = false := decide_eq_false (by omega)
      have HT1 := hid ht1
      clear ht1 ht0 hst hbb
      go_wp2
      go_roundw
      case rel => exact ⟨k + 1, by omega, by go_num, by rw [HT1.out], trivial⟩
      case measure => simp [intOf]; omega
    · obtain rfl : k = 8 := by omega
      go_wp2
      go_ret
      exact ⟨rfl, rfl⟩
theorem sum_le (l : List Itm) (h : ∀ i, i < l.length → told (itm l i).2 ≤ 1099511627776) : ∀ k, k ≤ l.length → ((l.take k).map fun x => told x.2).sum ≤ 1099511627776 * k := by
  intro k
  induction k with
  | zero => intro _; simp
  | succ k ih =>
    intro hk
    have h1 := ih (by omega)
    have h2 := h k (by omega)
    rw [sum_snoc l k (by omega)]
    omega
set_option maxRecDepth 100000 in
set_option maxHeartbeats 1600000 in
theorem rtotal_any (level : Nat) (l : List Itm) (A : Option Addr) (c : Nat) (w : World) (hl : l.length ≤ 1000000) (hrd : Rd w A (its l)) (hs : 0 < level → ∀ i, i < l.length → (itm l i).2.length = 40 ∧ told (itm l i).2 ≤ 1099511627776) :
    Calls Try.prog 69 #[.int .i64 (level : Int), .slice A l.length c] w fun e w' => e = .returned (.int .i64 (countS level l : Nat)) ∧ w' = w := by
  go_enter Try.func69, Try.ntmps69
  by_cases h0 : level = 0
  · subst h0
    go_wp2
    go_loopw [5, 6] (fun n i wr => ∃ k : Nat, k ≤ l.length ∧ i = .int .i64 (k : Int) ∧ n = .int .i64 (k : Int) ∧ wr = w) (fun _ i _ => l.length - (intOf i).toNat)
    case atStart => exact ⟨0, by omega, rfl, rfl, rfl⟩
    case round =>
      obtain ⟨k, hk, rfl, rfl, rfl⟩ := hrel
      by_cases hlt : k < l.length
      · go_wp2
        go_roundw
        case rel => exact ⟨k + 1, by omega, by go_num, by go_num, trivial⟩
        case measure => simp [intOf]; omega
      · obtain rfl : k = l.length := by omega
        go_wp2
        go_ret
        exact ⟨rfl, rfl⟩
  · have hb0 : ((level : Int) == 0) = false := beq_eq_false_iff_ne.2 (by omega)
    have hs' := hs (by omega)
    have HS := hid hs'
    clear hs hs'
    go_wp2
    go_loopw [5, 6] (fun n i wr => ∃ k : Nat, k ≤ l.length ∧ i = .int .i64 (k : Int) ∧ n = .int .i64 ((((l.take k).map fun x => told x.2).sum : Nat) : Int) ∧ wr = w) (fun _ i _ => l.length - (intOf i).toNat)
    case atStart => exact ⟨0, by omega, rfl, rfl, rfl⟩
    case round =>
      obtain ⟨k, hk, rfl, rfl, rfl⟩ := hrel
      have hsl := sum_le l (fun i hi => (HS.out i hi).2) k hk
      by_cases hlt : k < l.length
      · obtain ⟨b, o, rfl, hc1, hc2⟩ := rd_itm hrd hlt
        obtain ⟨hv40, hvt⟩ := HS.out k hlt
        have hsn := sum_snoc l k hlt
        obtain ⟨S, hS⟩ : ∃ S, S = ((l.take k).map fun x => told x.2).sum := ⟨_, rfl⟩
        obtain ⟨S', hS'⟩ : ∃ S', S' = ((l.take (k + 1)).map fun x => told x.2).sum := ⟨_, rfl⟩
        rw [← hS, ← hS'] at hsn
        rw [← hS] at hsl ⊢
        have HS2 := hid hS'
        have HSN := hid hsn
        clear hS hS' hsn
        have hrc := rcount_any (itm l k).2 wr hv40 hvt
        obtain ⟨vv, hvv⟩ : ∃ vv, vv = (itm l k).2 := ⟨_, rfl⟩
        rw [← hvv] at hv40 hvt hrc HSN hc2
        obtain ⟨tv, htv⟩ : ∃ tv, tv = told vv := ⟨_, rfl⟩
        rw [← htv] at hvt hrc HSN
        have HRC := hid hrc
        have hv32 : 32 ≤ vv.length := by omega
        have HV40 := hid hv40
        clear hrc hvv htv hv40
        go_wp2_with fail
        with_reducible refine HRC.out.mono ?_; rintro e w1 ⟨rfl, rfl⟩
        go_wp2
        go_roundw
        case rel => exact ⟨k + 1, by omega, by go_num, by rw [← HS2.out, HSN.out]; rfl, trivial⟩
        case measure => simp [intOf]; omega
      · obtain rfl : k = l.length := by omega
        rw [List.take_length] at hsl ⊢
        go_wp2
        go_ret
        refine ⟨?_, rfl⟩
        rw [countS, if_neg h0, Nat.mod_eq_of_lt (by omega)]
        rfl
end Go.Proofs.Yteeonfnaikndfaa.W08
namespace Go.Proofs.Yteeonfnaikndfaa.W08
open Go.RowKit Go.Proofs.Yteeonfnaikndfaa.Lib Go.Proofs.Yteeonfnaikndfaa.Sha Go.Proofs.Yteeonfnaikndfaa.T07 Go.Proofs.Yteeonfnaikndfaa.T08 Go.Proofs.Yteeonfnaikndfaa.QTail Go.Proofs.Yteeonfnaikndfaa.Bld Go.Proofs.Yteeonfnaikndfaa.Itms Go.Proofs.Yteeonfnaikndfaa.W07 Go.Proofs.Yteeonfnaikndfaa.WSeq
attribute [local go_sem] Str_size Str_toList Str_extract Str_append Str_get bt_nn bt_lt List.length_append take_rest sha_len two_len
theorem lastS_take (l : List Itm) (k : Nat) (h : k < l.length) : lastS (l.take (k + 1)) = (itm l k).1 := by
  rw [take_itm l k h, lastS_snoc]
theorem take_empty (l : List Itm) (k : Nat) (h : k < l.length) : (l.take k).isEmpty = decide (k = 0) := by
  cases k with
  | zero => simp
  | succ k => rw [take_itm l k (by omega), isEmpty_snoc]; simp
theorem right_take (l : List Itm) (k : Nat) (h : k < l.length) : rightS (l.take (k + 1)) = (rightS (l.take k) && (decide (k = 0) || ltS (itm l (k - 1)).1 (itm l k).1) && !badS (itm l k)) := by
  unfold rightS
  rw [take_itm l k h, okS_snoc, take_empty l k h, List.any_append]
  have e : k = 0 ∨ lastS (l.take k) = (itm l (k - 1)).1 := by
    cases k with
    | zero => exact .inl rfl
    | succ k => exact .inr (lastS_take l k (by omega))
  rcases e with rfl | e
  · simp
  · rw [e]
    cases okS (l.take k) <;> cases (l.take k).any badS <;> cases hb : badS (itm l k) <;> cases (decide (k = 0) || ltS (itm l (k - 1)).1 (itm l k).1) <;> simp [hb]
theorem right_prefix (l : List Itm) (k : Nat) (hf : rightS (l.take k) = false) : rightS l = false := by
  unfold rightS at hf ⊢
  rw [Bool.and_eq_false_iff] at hf ⊢
  rcases hf with h | h
  · exact .inl (okS_prefix (List.take_prefix k l) h)
  · refine .inr ?_
    simp only [Bool.not_eq_false'] at h ⊢
    obtain ⟨x, hx, hb⟩ := List.any_eq_true.1 h
    exact List.any_eq_true.2 ⟨x, List.mem_of_mem_take hx, hb⟩
end Go.Proofs.Yteeonfnaikndfaa.W08
