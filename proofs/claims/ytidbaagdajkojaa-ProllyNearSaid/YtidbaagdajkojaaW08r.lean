/- The walks of layer 8: the document's items, nodes, counts, right pairs. The walks of layer 8: the document's counts and right pairs. The walks of layer 8: the document's right pairs. -/
import Derived.Test.YtidbaagdajkojaaW08f
set_option linter.unusedVariables false
set_option linter.unusedSimpArgs false
namespace Go.Proofs.Ytidbaagdajkojaa.W08
open Go.RowKit Go.Proofs.Ytidbaagdajkojaa.Lib Go.Proofs.Ytidbaagdajkojaa.Sha Go.Proofs.Ytidbaagdajkojaa.T07 Go.Proofs.Ytidbaagdajkojaa.T08 Go.Proofs.Ytidbaagdajkojaa.QTail Go.Proofs.Ytidbaagdajkojaa.Bld Go.Proofs.Ytidbaagdajkojaa.Itms Go.Proofs.Ytidbaagdajkojaa.W07 Go.Proofs.Ytidbaagdajkojaa.WSeq
attribute [local go_sem] Str_size Str_toList Str_extract Str_append Str_get bt_nn bt_lt List.length_append take_rest sha_len two_len
set_option maxRecDepth 100000 in
theorem rtwo_any (n : Nat) (w : World) (hn : n ≤ 1000000000) :
    Calls Try.prog 56 #[.int .i64 (n : Int)] w fun e w' => e = .returned (.string (Str (two n))) ∧ Below w.heap.size w w' := by
  go_enter Try.func56, Try.ntmps56
  go_wp2_with (rw [conv2 _ 91 5 9 5 Try.underlying91 Try.underlying5 Try.underlying9])
  go_ret
  refine ⟨?_, below_al (below_rf w) _⟩
  have e1 : Go.Proofs.Ytidbaagdajkojaa.Lib.u8 ((n : Int) / 256 % 256) = Go.Proofs.Ytidbaagdajkojaa.Lib.u8 ((n / 256 : Nat) : Int) := by rw [u8_mod _ (by omega)]; rfl
  have e2 : Go.Proofs.Ytidbaagdajkojaa.Lib.u8 ((n : Int) % 256) = Go.Proofs.Ytidbaagdajkojaa.Lib.u8 (n : Int) := u8_mod _ (by omega)
  have e3 : two n = [Go.Proofs.Ytidbaagdajkojaa.Lib.u8 ((n : Int) / 256 % 256), Go.Proofs.Ytidbaagdajkojaa.Lib.u8 ((n : Int) % 256)] := by rw [e1, e2]; rfl
  rw [e3]
  rfl
set_option maxHeartbeats 1600000 in
set_option maxRecDepth 100000 in
theorem rform_any (x : Itm) (w : World) (h1 : x.1.length ≤ 1000000000) (h2 : x.2.length ≤ 1000000000) :
    Calls Try.prog 30 #[.agg #[.string (Str x.1), .string (Str x.2)]] w fun e w' => e = .returned (.string (Str (form x))) ∧ Below w.heap.size w w' := by
  go_enter Try.func30, Try.ntmps30
  obtain ⟨w1, hw1⟩ : ∃ w1, w1 = w.alloc (Obj.cells #[Value.string (Str x.1), Value.string (Str x.2)] 38) := ⟨_, rfl⟩
  have hsz : w1.heap.size = w.heap.size + 1 := by rw [hw1]; exact Array.size_push _
  have hl1 : ∀ W, Below w1.heap.size w1 W → W.cell? ⟨w.heap.size, 0, none⟩ = some (.string (Str x.1)) := fun W h => by
    rw [h.cell (p := ⟨w.heap.size, 0, none⟩) (by rw [hsz]; exact Nat.lt_succ_self _), hw1]
    exact World.cell?_alloc_at _ _ _ _ rfl
  have hl2 : ∀ W, Below w1.heap.size w1 W → W.cell? ⟨w.heap.size, 1, none⟩ = some (.string (Str x.2)) := fun W h => by
    rw [h.cell (p := ⟨w.heap.size, 1, none⟩) (by rw [hsz]; exact Nat.lt_succ_self _), hw1]
    exact World.cell?_alloc_at _ _ _ _ rfl
  have hm1 : ∀ W, Below w1.heap.size w1 W → Calls Try.prog 56 #[.int .i64 (x.1.length : Int)] W fun e w' => e = .returned (.string (Str (two x.1.length))) ∧ Below w1.heap.size w1 w' := fun W hW => (rtwo_any _ W h1).mono fun e w' h => ⟨h.1, hW.trans (h.2.mono hW.size)⟩
  have hm2 : ∀ W, Below w1.heap.size w1 W → Calls Try.prog 56 #[.int .i64 (x.2.length : Int)] W fun e w' => e = .returned (.string (Str (two x.2.length))) ∧ Below w1.heap.size w1 w' := fun W hW => (rtwo_any _ W h2).mono fun e w' h => ⟨h.1, hW.trans (h.2.mono hW.size)⟩
  have hbl : Below w.heap.size w w1 := by rw [hw1]; exact below_al (below_rf w) _
  have HSZ := hid hsz
  clear hsz
  go_wp2
  rw [← hw1]
  have HW1 := hid hw1
  clear hw1
  refine wp_region_mild w1.heap.size (by kernel_rfl) (by kernel_rfl) ?_
  repeat (
    refine wpQuiet_step (fun K hK => ?_)
    first
      | (refine mild_skip (by rfl) (hK _ ?_)
         clear hK K)
      | (refine mild_read (by rfl) ?_
         apply Exists.intro
         refine ⟨fun W hW => ?_, hK _ ?_⟩
         (go_simp; first | rfl | (rw [if_neg (by omega)]) | (rw [if_pos (by omega)]))
         clear hK K)
      | (refine mild_call (by rfl) ?_
         apply Exists.intro
         apply Exists.intro
         refine ⟨fun W hW => ?_, ?_⟩
         (go_simp; exact ⟨rfl, rfl⟩)
         apply Exists.intro
         refine ⟨fun W hW => ?_, hK _ ?_⟩
         (first | with_reducible exact (hm1 W hW) | with_reducible exact (hm2 W hW))
         clear hK K)
    go_simp)
  refine wpQuiet_nil ?_
  intro W hW
  go_wp2
  go_ret
  refine ⟨?_, hbl.trans (hW.mono (by rw [HSZ.out]; omega))⟩
  simp [form]
set_option maxRecDepth 100000 in
set_option maxHeartbeats 1600000 in
theorem rnode_any (level : Nat) (l : List Itm) (A : Option Addr) (c : Nat) (w : World) (hv : level ≤ 1000000000) (hl : l.length ≤ 1000000) (hrd : Rd w A (its l)) (hs : Fine l) :
    Calls Try.prog 28 #[.int .i64 (level : Int), .slice A l.length c] w fun e w' => e = .returned (.string (Str (nodeB level l))) ∧ Below w.heap.size w w' := by
  have HS := hid hs
  have H0 := hid hrd
  clear hs hrd
  have hh : [Go.Proofs.Ytidbaagdajkojaa.Lib.u8 80, Go.Proofs.Ytidbaagdajkojaa.Lib.u8 ((level : Int) % 256), Go.Proofs.Ytidbaagdajkojaa.Lib.u8 ((l.length : Int) % 256)] = nodeHead level l.length := by
    rw [u8_mod _ (by omega), u8_mod _ (by omega)]; rfl
  have HH := hid hh
  have hhl : (nodeHead level l.length).length = 3 := rfl
  have hcv := fun W a b d => conv3 (P := Try.prog) W 91 5 9 5 Try.underlying91 Try.underlying5 Try.underlying9 a b d 3
  go_enter Try.func28, Try.ntmps28
  go_wp2
  go_loopw [5, 6] (fun s i wr => ∃ k : Nat, k ≤ l.length ∧ i = .int .i64 (k : Int) ∧ s = .string (Str (nodeHead level l.length ++ ((l.take k).map form).flatten)) ∧ Below w.heap.size w wr) (fun _ i _ => l.length - (intOf i).toNat)
  case atStart =>
    exact ⟨0, by omega, rfl, by simp, below_al (below_rf w) _⟩
  case round =>
    obtain ⟨k, hk, rfl, rfl, hB⟩ := hrel
    by_cases hlt : k < l.length
    · obtain ⟨b, o, rfl, hc1, hc2⟩ := rd_itm (Rd.below H0.out hB) hlt
      obtain ⟨f1, f2⟩ := HS.out k hlt
      have hfl := flat_len l HS.out k hk
      have hfo := form_len (itm l k)
      go_wp2_with fail
      refine (rform_any (itm l k) _ (by omega) (by omega)).mono ?_; rintro e w5 ⟨rfl, hb5⟩
      have hsn := flat_snoc l k hlt
      have HSN := hid hsn
      clear hsn
      obtain ⟨fl, hfle⟩ : ∃ fl, fl = ((l.take k).map form).flatten := ⟨_, rfl⟩
      obtain ⟨fm, hfme⟩ : ∃ fm, fm = form (itm l k) := ⟨_, rfl⟩
      rw [← hfle] at hfl ⊢
      rw [← hfme] at hfo ⊢
      rw [← hfle, ← hfme] at HSN
      have hfo2 : fm.length ≤ 2000004 := by omega
      clear hfle hfme hfo
      go_wp2
      go_roundw
      case rel => exact ⟨k + 1, by omega, by go_num, by rw [HSN.out], below_tr hB hb5⟩
      case measure => simp [intOf]; omega
    · obtain rfl : k = l.length := by omega
      rw [List.take_length]
      go_wp2
      go_ret
      exact ⟨rfl, hB⟩
end Go.Proofs.Ytidbaagdajkojaa.W08
namespace Go.Proofs.Ytidbaagdajkojaa.W08
open Go.RowKit Go.Proofs.Ytidbaagdajkojaa.Lib Go.Proofs.Ytidbaagdajkojaa.Sha Go.Proofs.Ytidbaagdajkojaa.T07 Go.Proofs.Ytidbaagdajkojaa.T08 Go.Proofs.Ytidbaagdajkojaa.QTail Go.Proofs.Ytidbaagdajkojaa.Bld Go.Proofs.Ytidbaagdajkojaa.Itms Go.Proofs.Ytidbaagdajkojaa.W07 Go.Proofs.Ytidbaagdajkojaa.WSeq
attribute [local go_sem] Str_size Str_toList Str_extract Str_append Str_get bt_nn bt_lt List.length_append take_rest sha_len two_len
theorem toldGo_mono (v : List UInt8) (k : Nat) : toldGo v k ≤ toldGo v (k + 1) := by rw [toldGo]; omega
theorem toldGo_le (v : List UInt8) : ∀ d k, toldGo v k ≤ toldGo v (k + d)
  | 0, k => Nat.le_refl _
  | d + 1, k => Nat.le_trans (toldGo_le v d k) (toldGo_mono v (k + d))
theorem bt_drop' (v : List UInt8) (a i : Nat) : bt (v.drop a) i = bt v (a + i) := by unfold bt; simp [List.getD_eq_getElem?_getD]
theorem rcount_any (v : List UInt8) (w : World) (hv : v.length = 40) (ht : told v ≤ 1099511627776) :
    Calls Try.prog 58 #[.string (Str (v.drop 32))] w fun e w' => e = .returned (.int .i64 (told v : Nat)) ∧ w' = w := by
  have hdl : (v.drop 32).length = 8 := by simp [hv]
  go_enter Try.func58, Try.ntmps58
  go_wp2
  go_loopw [3, 4] (fun n i wr => ∃ k : Nat, k ≤ 8 ∧ i = .int .i64 (k : Int) ∧ n = .int .i64 (toldGo v k : Nat) ∧ wr = w) (fun _ i _ => 8 - (intOf i).toNat)
  case atStart => exact ⟨0, by omega, rfl, rfl, rfl⟩
  case round =>
    obtain ⟨k, hk, rfl, rfl, rfl⟩ := hrel
    by_cases hlt : k < 8
    · have hm : toldGo v (k + 1) ≤ 1099511627776 := by
        have := toldGo_le v (7 - k) (k + 1)
        rw [show k + 1 + (7 - k) = 8 by omega] at this
        exact Nat.le_trans this ht
      have hst : toldGo v (k + 1) = toldGo v k * 256 + (bat v (32 + k)).toNat := rfl
      have hbb : bt (v.drop 32) k = ((bat v (32 + k)).toNat : Int) := by rw [bt_drop']; rfl
      have h0 := (bat v (32 + k)).toNat_lt
      have hj : ((toldGo v k : Nat) : Int) * 256 + bt (v.drop 32) k = ((toldGo v (k + 1) : Nat) : Int) := by rw [hbb, hst]; omega
      have hb0 := bt_nn (v.drop 32) k
      obtain ⟨t1, ht1⟩ : ∃ t1, t1 = toldGo v (k + 1) := ⟨_, rfl⟩
      obtain ⟨t0, ht0⟩ : ∃ t0, t0 = toldGo v k := ⟨_, rfl⟩
      rw [← ht1, ← ht0] at hst hj
      rw [← ht1] at hm
      rw [← ht0]
      have hgt : decide (1099511627776 < (t1 : Int)) = false := decide_eq_false (by omega)
      have HT1 := hid ht1
      clear ht1 ht0 hst hbb
      go_wp2
      go_roundw
      case rel => exact ⟨k + 1, by omega, by go_num, by rw [HT1.out], trivial⟩
      case measure => simp [intOf]; omega
    · obtain rfl : k = 8 := by omega
      go_wp2
      go_ret
      exact ⟨rfl, rfl⟩
theorem sum_le (l : List Itm) (h : ∀ i, i < l.length → told (itm l i).2 ≤ 1099511627776) : ∀ k, k ≤ l.length → ((l.take k).map fun x => told x.2).sum ≤ 1099511627776 * k := by
  intro k
  induction k with
  | zero => intro _; simp
  | succ k ih =>
    intro hk
    have h1 := ih (by omega)
    have h2 := h k (by omega)
    rw [sum_snoc l k (by omega)]
    omega
set_option maxRecDepth 100000 in
set_option maxHeartbeats 1600000 in
theorem rtotal_any (level : Nat) (l : List Itm) (A : Option Addr) (c : Nat) (w : World) (hl : l.length ≤ 1000000) (hrd : Rd w A (its l)) (hs : 0 < level → ∀ i, i < l.length → (itm l i).2.length = 40 ∧ told (itm l i).2 ≤ 1099511627776) :
    Calls Try.prog 33 #[.int .i64 (level : Int), .slice A l.length c] w fun e w' => e = .returned (.int .i64 (countS level l : Nat)) ∧ w' = w := by
  go_enter Try.func33, Try.ntmps33
  by_cases h0 : level = 0
  · subst h0
    go_wp2
    go_loopw [5, 6] (fun n i wr => ∃ k : Nat, k ≤ l.length ∧ i = .int .i64 (k : Int) ∧ n = .int .i64 (k : Int) ∧ wr = w) (fun _ i _ => l.length - (intOf i).toNat)
    case atStart => exact ⟨0, by omega, rfl, rfl, rfl⟩
    case round =>
      obtain ⟨k, hk, rfl, rfl, rfl⟩ := hrel
      by_cases hlt : k < l.length
      · go_wp2
        go_roundw
        case rel => exact ⟨k + 1, by omega, by go_num, by go_num, trivial⟩
        case measure => simp [intOf]; omega
      · obtain rfl : k = l.length := by omega
        go_wp2
        go_ret
        exact ⟨rfl, rfl⟩
  · have hb0 : ((level : Int) == 0) = false := beq_eq_false_iff_ne.2 (by omega)
    have hs' := hs (by omega)
    have HS := hid hs'
    clear hs hs'
    go_wp2
    go_loopw [5, 6] (fun n i wr => ∃ k : Nat, k ≤ l.length ∧ i = .int .i64 (k : Int) ∧ n = .int .i64 ((((l.take k).map fun x => told x.2).sum : Nat) : Int) ∧ wr = w) (fun _ i _ => l.length - (intOf i).toNat)
    case atStart => exact ⟨0, by omega, rfl, rfl, rfl⟩
    case round =>
      obtain ⟨k, hk, rfl, rfl, rfl⟩ := hrel
      have hsl := sum_le l (fun i hi => (HS.out i hi).2) k hk
      by_cases hlt : k < l.length
      · obtain ⟨b, o, rfl, hc1, hc2⟩ := rd_itm hrd hlt
        obtain ⟨hv40, hvt⟩ := HS.out k hlt
        have hsn := sum_snoc l k hlt
        obtain ⟨S, hS⟩ : ∃ S, S = ((l.take k).map fun x => told x.2).sum := ⟨_, rfl⟩
        obtain ⟨S', hS'⟩ : ∃ S', S' = ((l.take (k + 1)).map fun x => told x.2).sum := ⟨_, rfl⟩
        rw [← hS, ← hS'] at hsn
        rw [← hS] at hsl ⊢
        have HS2 := hid hS'
        have HSN := hid hsn
        clear hS hS' hsn
        have hrc := rcount_any (itm l k).2 wr hv40 hvt
        obtain ⟨vv, hvv⟩ : ∃ vv, vv = (itm l k).2 := ⟨_, rfl⟩
        rw [← hvv] at hv40 hvt hrc HSN hc2
        obtain ⟨tv, htv⟩ : ∃ tv, tv = told vv := ⟨_, rfl⟩
        rw [← htv] at hvt hrc HSN
        have HRC := hid hrc
        have hv32 : 32 ≤ vv.length := by omega
        have HV40 := hid hv40
        clear hrc hvv htv hv40
        go_wp2_with fail
        with_reducible refine HRC.out.mono ?_; rintro e w1 ⟨rfl, rfl⟩
        go_wp2
        go_roundw
        case rel => exact ⟨k + 1, by omega, by go_num, by rw [← HS2.out, HSN.out]; rfl, trivial⟩
        case measure => simp [intOf]; omega
      · obtain rfl : k = l.length := by omega
        rw [List.take_length] at hsl ⊢
        go_wp2
        go_ret
        refine ⟨?_, rfl⟩
        rw [countS, if_neg h0, Nat.mod_eq_of_lt (by omega)]
        rfl
set_option maxRecDepth 100000 in
set_option maxHeartbeats 800000 in
theorem reight_any (n : Nat) (w : World) (hn : n ≤ 4611686018427387904) :
    Calls Try.prog 32 #[.int .i64 (n : Int)] w fun e w' => e = .returned (.string (Str (be n 8))) ∧ Below w.heap.size w w' := by
  go_enter Try.func32, Try.ntmps32
  go_wp2
  go_loopw [3, 4] (fun v i wr => ∃ m : Nat, m ≤ 8 ∧ i = .int .i64 ((m : Int) - 1) ∧ wr.ownsRow w.heap.size 5 1 v (8 - m) (byts ((be n 8).take (8 - m))) ∧ Below w.heap.size w wr) (fun _ i _ => (intOf i + 1).toNat)
  case atStart => exact ⟨8, by omega, rfl, own_nil _ _ _ _, below_rf w⟩
  case round =>
    obtain ⟨m, hm8, rfl, hown, hB⟩ := hrel
    rcases m with _ | j
    · have e0 : ((0 : Nat) : Int) - 1 = -1 := rfl
      rw [e0]
      have hpt : (be n 8).take (8 - 0) = be n 8 := by rw [List.take_of_length_le (by rw [be_len]; omega)]
      rw [hpt] at hown
      obtain ⟨A, c, rfl, hc, hrd⟩ := Rd.own hown
      rcases hrd with h0 | ⟨b, o, rfl, hcl⟩
      · exact absurd (congrArg List.length h0) (by simp [byts, be_len])
      have hcl2 : ∀ j, j < (be n 8).length → wr.cell? ⟨b, o + j, none⟩ = some (.int .u8 (bt (be n 8) j)) := fun j hj => hcl j _ (by
        simp [byts, bt, List.getElem?_eq_getElem hj, List.getD_eq_getElem?_getD])
      clear hcl hpt e0
      go_wp2_with ((refine wpList_tostr 91 9 5 (.tmp 17) ?g1 ?g2 Try.underlying91 Try.underlying9 Try.underlying5 (be n 8) b o c ?g3 hcl2 ?_; (case g1 => rfl); (case g2 => rfl); (case g3 => rfl)))
      go_wp2
      go_ret
      exact ⟨rfl, hB⟩
    · have e1 : ((j + 1 : Nat) : Int) - 1 = (j : Int) := by omega
      rw [e1]
      have e2 : min (8 * j) 64 = 8 * j := by omega
      clear e1
      have e4 : ((n : Int) / 2 ^ (8 * j)) = (((n / 2 ^ (8 * j) : Nat)) : Int) := by
        rw [Int.natCast_ediv, Int.natCast_pow]; rfl
      obtain ⟨x, hx⟩ : ∃ x, x = n / 2 ^ (8 * j) := ⟨_, rfl⟩
      rw [← hx] at e4
      have HX := hid hx
      clear hx
      go_wp2_with (at_builtin; (refine wpList_appN ti_u8 (.tmp 9) (.tmp 15) (by rfl) (by rfl) w.heap.size [.int .u8 ((x : Int) % 256)] 5 1 1 (by rfl) (by rfl) hown (by rfl) (by simp [Value.oneCell']) hB hB.size (by omega) ?_; intro A2 c2 w6 ho6 hg6 hB6 hsz6))
      go_wp2
      go_roundw
      case rel =>
        refine ⟨j, by omega, rfl, ?_, hB6⟩
        have e5 : [Value.int .u8 ((x : Int) % 256)] = byts [Go.Proofs.Ytidbaagdajkojaa.Lib.u8 (x : Int)] := by
          simp only [byts, List.map_cons, List.map_nil]; rw [u8_toNat _ (Int.natCast_nonneg x)]
        rw [be_succ n j (by omega), ← HX.out, ← byts_app, ← e5, show 7 - j = 8 - (j + 1) by omega, show 8 - j = 8 - (j + 1) + 1 by omega]
        exact ho6
      case measure => simp only [intOf]; omega
end Go.Proofs.Ytidbaagdajkojaa.W08
namespace Go.Proofs.Ytidbaagdajkojaa.W08
open Go.RowKit Go.Proofs.Ytidbaagdajkojaa.Lib Go.Proofs.Ytidbaagdajkojaa.Sha Go.Proofs.Ytidbaagdajkojaa.T07 Go.Proofs.Ytidbaagdajkojaa.T08 Go.Proofs.Ytidbaagdajkojaa.QTail Go.Proofs.Ytidbaagdajkojaa.Bld Go.Proofs.Ytidbaagdajkojaa.Itms Go.Proofs.Ytidbaagdajkojaa.W07 Go.Proofs.Ytidbaagdajkojaa.WSeq
attribute [local go_sem] Str_size Str_toList Str_extract Str_append Str_get bt_nn bt_lt List.length_append take_rest sha_len two_len
theorem lastS_take (l : List Itm) (k : Nat) (h : k < l.length) : lastS (l.take (k + 1)) = (itm l k).1 := by
  rw [take_itm l k h, lastS_snoc]
theorem take_empty (l : List Itm) (k : Nat) (h : k < l.length) : (l.take k).isEmpty = decide (k = 0) := by
  cases k with
  | zero => simp
  | succ k => rw [take_itm l k (by omega), isEmpty_snoc]; simp
theorem right_take (l : List Itm) (k : Nat) (h : k < l.length) : rightS (l.take (k + 1)) = (rightS (l.take k) && (decide (k = 0) || ltS (itm l (k - 1)).1 (itm l k).1) && !badS (itm l k)) := by
  unfold rightS
  rw [take_itm l k h, okS_snoc, take_empty l k h, List.any_append]
  have e : k = 0 ∨ lastS (l.take k) = (itm l (k - 1)).1 := by
    cases k with
    | zero => exact .inl rfl
    | succ k => exact .inr (lastS_take l k (by omega))
  rcases e with rfl | e
  · simp
  · rw [e]
    cases okS (l.take k) <;> cases (l.take k).any badS <;> cases hb : badS (itm l k) <;> cases (decide (k = 0) || ltS (itm l (k - 1)).1 (itm l k).1) <;> simp [hb]
theorem right_prefix (l : List Itm) (k : Nat) (hf : rightS (l.take k) = false) : rightS l = false := by
  unfold rightS at hf ⊢
  rw [Bool.and_eq_false_iff] at hf ⊢
  rcases hf with h | h
  · exact .inl (okS_prefix (List.take_prefix k l) h)
  · refine .inr ?_
    simp only [Bool.not_eq_false'] at h ⊢
    obtain ⟨x, hx, hb⟩ := List.any_eq_true.1 h
    exact List.any_eq_true.2 ⟨x, List.mem_of_mem_take hx, hb⟩
set_option maxRecDepth 100000 in
set_option maxHeartbeats 1600000 in
theorem rright_any (A : Option Addr) (c : Nat) (l : List Itm) (hl : l.length ≤ 1000000) (w : World) (hrd : Rd w A (its l)) :
    Calls Try.prog 27 #[.slice A l.length c] w fun e w' => e = .returned (.bool (rightS l)) ∧ Below w.heap.size w w' := by
  have H0 := hid hrd
  clear hrd
  go_enter Try.func27, Try.ntmps27
  go_wp2
  go_loopw [3] (fun i wr => ∃ k : Nat, k ≤ l.length ∧ i = .int .i64 (k : Int) ∧ Hid (rightS (l.take k) = true) ∧ Below w.heap.size w wr) (fun i _ => l.length - (intOf i).toNat)
  case atStart => exact ⟨0, by omega, rfl, hid rfl, below_rf w⟩
  case round =>
    obtain ⟨k, hk, rfl, HA, hB⟩ := hrel
    by_cases hlt : k < l.length
    · obtain ⟨b, o, rfl, hc1, hc2⟩ := rd_itm (Rd.below H0.out hB) hlt
      have hst := right_take l k hlt
      rw [HA.out, Bool.true_and] at hst
      have hpf := fun h => right_prefix l (k + 1) h
      have hbad : badS (itm l k) = (decide (2000 < (itm l k).1.length) || decide (8000 < (itm l k).2.length)) := rfl
      rw [hbad] at hst
      have hprev : k ≠ 0 → wr.cell? ⟨b, o + (k - 1) * 2, none⟩ = some (.string (Str (itm l (k - 1)).1)) := by
        intro h0
        obtain ⟨b', o', e, h1, _⟩ := rd_itm (Rd.below H0.out hB) (j := k - 1) (by omega)
        injection e with e; injection e with e1 e2; subst e1; subst e2
        exact h1
      obtain ⟨kx, hkx⟩ : ∃ kx, kx = (itm l k).1 := ⟨_, rfl⟩
      obtain ⟨vx, hvx⟩ : ∃ vx, vx = (itm l k).2 := ⟨_, rfl⟩
      obtain ⟨ky, hky⟩ : ∃ ky, ky = (itm l (k - 1)).1 := ⟨_, rfl⟩
      rw [← hkx, ← hvx, ← hky] at hst
      rw [← hkx] at hc1
      rw [← hvx] at hc2
      rw [← hky] at hprev
      have HPF := hid hpf
      have HST := hid hst
      have HPREV := hid hprev
      clear hkx hvx hky hst hpf hprev hbad
      have h2 : (0 : Int) ≤ kx.length := Int.natCast_nonneg _
      by_cases h1 : 2000 < kx.length
      · have h1b : decide ((2000 : Int) < (kx.length : Int)) = true := decide_eq_true (by omega)
        have hf : rightS (l.take (k + 1)) = false := by rw [HST.out, decide_eq_true h1]; simp
        have HF := hid (HPF.out hf)
        clear hf h1
        go_wp2
        go_quiet (fail)
        go_wp2
        go_ret
        exact ⟨by rw [HF.out]; rfl, below_drewN hB _⟩
      · have h1b : decide ((2000 : Int) < (kx.length : Int)) = false := decide_eq_false (by omega)
        by_cases h3 : 8000 < vx.length
        · have h3b : decide ((8000 : Int) < (vx.length : Int)) = true := decide_eq_true (by omega)
          have hf : rightS (l.take (k + 1)) = false := by rw [HST.out, decide_eq_true h3]; simp
          have HF := hid (HPF.out hf)
          clear hf h1 h3
          go_wp2
          go_quiet (fail)
          go_wp2
          go_ret
          exact ⟨by rw [HF.out]; rfl, below_drewN hB _⟩
        · have h3b : decide ((8000 : Int) < (vx.length : Int)) = false := decide_eq_false (by omega)
          have hs2 := HST.out
          rw [decide_eq_false h1, decide_eq_false h3] at hs2
          simp only [Bool.or_self, Bool.not_false, Bool.and_true] at hs2
          have HS2 := hid hs2
          clear hs2 h1 h3
          by_cases h0 : k = 0
          · subst h0
            have hgo : rightS (l.take (0 + 1)) = true := by rw [HS2.out]; simp
            have HG := hid hgo
            clear hgo
            rw [Nat.zero_mul, Nat.add_zero] at hc1 hc2
            go_wp2
            go_quiet (fail)
            go_wp2
            go_roundw
            case rel => exact ⟨1, by omega, rfl, HG, below_drewN hB _⟩
            case measure => simp [intOf]; omega
          · have hp := HPREV.out h0
            have h0b : decide ((0 : Int) < (k : Int)) = true := decide_eq_true (by omega)
            have hs3 := HS2.out
            rw [decide_eq_false h0, Bool.false_or] at hs3
            obtain ⟨p, rfl⟩ : ∃ p, k = p + 1 := ⟨k - 1, by omega⟩
            rw [Nat.add_sub_cancel] at hp
            clear h0
            cases hcm : ltS ky kx with
            | true =>
              rw [hcm] at hs3
              have HG := hid hs3
              have hcm' : Op.bytesLess ky kx = true := hcm
              clear hs3
              go_wp2
              go_quiet (fail)
              go_wp2
              go_roundw
              case rel => exact ⟨p + 1 + 1, by omega, by go_num, HG, below_drewN hB _⟩
              case measure => simp [intOf]; omega
            | false =>
              rw [hcm] at hs3
              have HF := hid (HPF.out hs3)
              have hcm' : Op.bytesLess ky kx = false := hcm
              clear hs3
              go_wp2
              go_quiet (fail)
              go_wp2
              go_ret
              exact ⟨by rw [HF.out]; rfl, below_drewN hB _⟩
    · obtain rfl : k = l.length := by omega
      rw [List.take_length] at HA
      go_wp2
      go_ret
      exact ⟨by rw [HA.out]; rfl, hB⟩
end Go.Proofs.Ytidbaagdajkojaa.W08
