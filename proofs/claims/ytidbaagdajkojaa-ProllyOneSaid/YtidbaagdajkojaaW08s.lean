/- The walks of layer 8: the document's counts and right pairs. -/
import Derived.Test.YtidbaagdajkojaaW08r
set_option linter.unusedVariables false
set_option linter.unusedSimpArgs false
namespace Go.Proofs.Ytidbaagdajkojaa.W08
open Go.RowKit Go.Proofs.Ytidbaagdajkojaa.Lib Go.Proofs.Ytidbaagdajkojaa.Sha Go.Proofs.Ytidbaagdajkojaa.T07 Go.Proofs.Ytidbaagdajkojaa.T08 Go.Proofs.Ytidbaagdajkojaa.QTail Go.Proofs.Ytidbaagdajkojaa.Bld Go.Proofs.Ytidbaagdajkojaa.Itms Go.Proofs.Ytidbaagdajkojaa.W07 Go.Proofs.Ytidbaagdajkojaa.WSeq
attribute [local go_sem] Str_size Str_toList Str_extract Str_append Str_get bt_nn bt_lt List.length_append take_rest sha_len two_len
theorem toldGo_mono (v : List UInt8) (k : Nat) : toldGo v k ≤ toldGo v (k + 1) := by rw [toldGo]; omega
theorem toldGo_le (v : List UInt8) : ∀ d k, toldGo v k ≤ toldGo v (k + d)
  | 0, k => Nat.le_refl _
  | d + 1, k => Nat.le_trans (toldGo_le v d k) (toldGo_mono v (k + d))
theorem bt_drop' (v : List UInt8) (a i : Nat) : bt (v.drop a) i = bt v (a + i) := by unfold bt; simp [List.getD_eq_getElem?_getD]
theorem rcount_any (v : List UInt8) (w : World) (hv : v.length = 40) (ht : told v ≤ 1099511627776) :
    Calls Try.prog 58 #[.string (Str (v.drop 32))] w fun e w' => e = .returned (.int .i64 (told v : Nat)) ∧ w' = w := by
  have hdl : (v.drop 32).length = 8 := by simp [hv]
  go_enter Try.func58, Try.ntmps58
  go_wp2
  go_loopw [3, 4] (fun n i wr => ∃ k : Nat, k ≤ 8 ∧ i = .int .i64 (k : Int) ∧ n = .int .i64 (toldGo v k : Nat) ∧ wr = w) (fun _ i _ => 8 - (intOf i).toNat)
  case atStart => exact ⟨0, by omega, rfl, rfl, rfl⟩
  case round =>
    obtain ⟨k, hk, rfl, rfl, rfl⟩ := hrel
    by_cases hlt : k < 8
    · have hm : toldGo v (k + 1) ≤ 1099511627776 := by
        have := toldGo_le v (7 - k) (k + 1)
        rw [show k + 1 + (7 - k) = 8 by omega] at this
        exact Nat.le_trans this ht
      have hst : toldGo v (k + 1) = toldGo v k * 256 + (bat v (32 + k)).toNat := rfl
      have hbb : bt (v.drop 32) k = ((bat v (32 + k)).toNat : Int) := by rw [bt_drop']; rfl
      have h0 := (bat v (32 + k)).toNat_lt
      have hj : ((toldGo v k : Nat) : Int) * 256 + bt (v.drop 32) k = ((toldGo v (k + 1) : Nat) : Int) := by rw [hbb, hst]; omega
      have hb0 := bt_nn (v.drop 32) k
      obtain ⟨t1, ht1⟩ : ∃ t1, t1 = toldGo v (k + 1) := ⟨_, rfl⟩
      obtain ⟨t0, ht0⟩ : ∃ t0, t0 = toldGo v k := ⟨_, rfl⟩
      rw [← ht1, ← ht0] at hst hj
      rw [← ht1] at hm
      rw [← ht0]
      have hgt : decide (1099511627776 < (t1 : Int)) = false := decide_eq_false (by omega)
      have HT1 := hid ht1
      clear ht1 ht0 hst hbb
      go_wp2
      go_roundw
      case rel => exact ⟨k + 1, by omega, by go_num, by rw [HT1.out], trivial⟩
      case measure => simp [intOf]; omega
    · obtain rfl : k = 8 := by omega
      go_wp2
      go_ret
      exact ⟨rfl, rfl⟩
theorem sum_le (l : List Itm) (h : ∀ i, i < l.length → told (itm l i).2 ≤ 1099511627776) : ∀ k, k ≤ l.length → ((l.take k).map fun x => told x.2).sum ≤ 1099511627776 * k := by
  intro k
  induction k with
  | zero => intro _; simp
  | succ k ih =>
    intro hk
    have h1 := ih (by omega)
    have h2 := h k (by omega)
    rw [sum_snoc l k (by omega)]
    omega
set_option maxRecDepth 100000 in
set_option maxHeartbeats 1600000 in
theorem rtotal_any (level : Nat) (l : List Itm) (A : Option Addr) (c : Nat) (w : World) (hl : l.length ≤ 1000000) (hrd : Rd w A (its l)) (hs : 0 < level → ∀ i, i < l.length → (itm l i).2.length = 40 ∧ told (itm l i).2 ≤ 1099511627776) :
    Calls Try.prog 33 #[.int .i64 (level : Int), .slice A l.length c] w fun e w' => e = .returned (.int .i64 (countS level l : Nat)) ∧ w' = w := by
  go_enter Try.func33, Try.ntmps33
  by_cases h0 : level = 0
  · subst h0
    go_wp2
    go_loopw [5, 6] (fun n i wr => ∃ k : Nat, k ≤ l.length ∧ i = .int .i64 (k : Int) ∧ n = .int .i64 (k : Int) ∧ wr = w) (fun _ i _ => l.length - (intOf i).toNat)
    case atStart => exact ⟨0, by omega, rfl, rfl, rfl⟩
    case round =>
      obtain ⟨k, hk, rfl, rfl, rfl⟩ := hrel
      by_cases hlt : k < l.length
      · go_wp2
        go_roundw
        case rel => exact ⟨k + 1, by omega, by go_num, by go_num, trivial⟩
        case measure => simp [intOf]; omega
      · obtain rfl : k = l.length := by omega
        go_wp2
        go_ret
        exact ⟨rfl, rfl⟩
  · have hb0 : ((level : Int) == 0) = false := beq_eq_false_iff_ne.2 (by omega)
    have hs' := hs (by omega)
    have HS := hid hs'
    clear hs hs'
    go_wp2
    go_loopw [5, 6] (fun n i wr => ∃ k : Nat, k ≤ l.length ∧ i = .int .i64 (k : Int) ∧ n = .int .i64 ((((l.take k).map fun x => told x.2).sum : Nat) : Int) ∧ wr = w) (fun _ i _ => l.length - (intOf i).toNat)
    case atStart => exact ⟨0, by omega, rfl, rfl, rfl⟩
    case round =>
      obtain ⟨k, hk, rfl, rfl, rfl⟩ := hrel
      have hsl := sum_le l (fun i hi => (HS.out i hi).2) k hk
      by_cases hlt : k < l.length
      · obtain ⟨b, o, rfl, hc1, hc2⟩ := rd_itm hrd hlt
        obtain ⟨hv40, hvt⟩ := HS.out k hlt
        have hsn := sum_snoc l k hlt
        obtain ⟨S, hS⟩ : ∃ S, S = ((l.take k).map fun x => told x.2).sum := ⟨_, rfl⟩
        obtain ⟨S', hS'⟩ : ∃ S', S' = ((l.take (k + 1)).map fun x => told x.2).sum := ⟨_, rfl⟩
        rw [← hS, ← hS'] at hsn
        rw [← hS] at hsl ⊢
        have HS2 := hid hS'
        have HSN := hid hsn
        clear hS hS' hsn
        have hrc := rcount_any (itm l k).2 wr hv40 hvt
        obtain ⟨vv, hvv⟩ : ∃ vv, vv = (itm l k).2 := ⟨_, rfl⟩
        rw [← hvv] at hv40 hvt hrc HSN hc2
        obtain ⟨tv, htv⟩ : ∃ tv, tv = told vv := ⟨_, rfl⟩
        rw [← htv] at hvt hrc HSN
        have HRC := hid hrc
        have hv32 : 32 ≤ vv.length := by omega
        have HV40 := hid hv40
        clear hrc hvv htv hv40
        go_wp2_with fail
        with_reducible refine HRC.out.mono ?_; rintro e w1 ⟨rfl, rfl⟩
        go_wp2
        go_roundw
        case rel => exact ⟨k + 1, by omega, by go_num, by rw [← HS2.out, HSN.out]; rfl, trivial⟩
        case measure => simp [intOf]; omega
      · obtain rfl : k = l.length := by omega
        rw [List.take_length] at hsl ⊢
        go_wp2
        go_ret
        refine ⟨?_, rfl⟩
        rw [countS, if_neg h0, Nat.mod_eq_of_lt (by omega)]
        rfl
set_option maxRecDepth 100000 in
set_option maxHeartbeats 800000 in
theorem reight_any (n : Nat) (w : World) (hn : n ≤ 4611686018427387904) :
    Calls Try.prog 32 #[.int .i64 (n : Int)] w fun e w' => e = .returned (.string (Str (be n 8))) ∧ Below w.heap.size w w' := by
  go_enter Try.func32, Try.ntmps32
  go_wp2
  go_loopw [3, 4] (fun v i wr => ∃ m : Nat, m ≤ 8 ∧ i = .int .i64 ((m : Int) - 1) ∧ wr.ownsRow w.heap.size 5 1 v (8 - m) (byts ((be n 8).take (8 - m))) ∧ Below w.heap.size w wr) (fun _ i _ => (intOf i + 1).toNat)
  case atStart => exact ⟨8, by omega, rfl, own_nil _ _ _ _, below_rf w⟩
  case round =>
    obtain ⟨m, hm8, rfl, hown, hB⟩ := hrel
    rcases m with _ | j
    · have e0 : ((0 : Nat) : Int) - 1 = -1 := rfl
      rw [e0]
      have hpt : (be n 8).take (8 - 0) = be n 8 := by rw [List.take_of_length_le (by rw [be_len]; omega)]
      rw [hpt] at hown
      obtain ⟨A, c, rfl, hc, hrd⟩ := Rd.own hown
      rcases hrd with h0 | ⟨b, o, rfl, hcl⟩
      · exact absurd (congrArg List.length h0) (by simp [byts, be_len])
      have hcl2 : ∀ j, j < (be n 8).length → wr.cell? ⟨b, o + j, none⟩ = some (.int .u8 (bt (be n 8) j)) := fun j hj => hcl j _ (by
        simp [byts, bt, List.getElem?_eq_getElem hj, List.getD_eq_getElem?_getD])
      clear hcl hpt e0
      go_wp2_with ((refine wpList_tostr 91 9 5 (.tmp 17) ?g1 ?g2 Try.underlying91 Try.underlying9 Try.underlying5 (be n 8) b o c ?g3 hcl2 ?_; (case g1 => rfl); (case g2 => rfl); (case g3 => rfl)))
      go_wp2
      go_ret
      exact ⟨rfl, hB⟩
    · have e1 : ((j + 1 : Nat) : Int) - 1 = (j : Int) := by omega
      rw [e1]
      have e2 : min (8 * j) 64 = 8 * j := by omega
      clear e1
      have e4 : ((n : Int) / 2 ^ (8 * j)) = (((n / 2 ^ (8 * j) : Nat)) : Int) := by
        rw [Int.natCast_ediv, Int.natCast_pow]; rfl
      obtain ⟨x, hx⟩ : ∃ x, x = n / 2 ^ (8 * j) := ⟨_, rfl⟩
      rw [← hx] at e4
      have HX := hid hx
      clear hx
      go_wp2_with (at_builtin; (refine wpList_appN ti_u8 (.tmp 9) (.tmp 15) (by rfl) (by rfl) w.heap.size [.int .u8 ((x : Int) % 256)] 5 1 1 (by rfl) (by rfl) hown (by rfl) (by simp [Value.oneCell']) hB hB.size (by omega) ?_; intro A2 c2 w6 ho6 hg6 hB6 hsz6))
      go_wp2
      go_roundw
      case rel =>
        refine ⟨j, by omega, rfl, ?_, hB6⟩
        have e5 : [Value.int .u8 ((x : Int) % 256)] = byts [Go.Proofs.Ytidbaagdajkojaa.Lib.u8 (x : Int)] := by
          simp only [byts, List.map_cons, List.map_nil]; rw [u8_toNat _ (Int.natCast_nonneg x)]
        rw [be_succ n j (by omega), ← HX.out, ← byts_app, ← e5, show 7 - j = 8 - (j + 1) by omega, show 8 - j = 8 - (j + 1) + 1 by omega]
        exact ho6
      case measure => simp only [intOf]; omega
end Go.Proofs.Ytidbaagdajkojaa.W08
