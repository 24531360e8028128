/- The walks of the document's answers of layer 8: counts, totals, what a heap tells. -/
import Derived.Test.YteeonfnaikndfaaTree
import Derived.Test.YteeonfnaikndfaaTreed
set_option linter.unusedVariables false
set_option linter.unusedSimpArgs false
namespace Go.Proofs.Yteeonfnaikndfaa.P08
open Go Go.RowKit Go.Proofs.Yteeonfnaikndfaa Go.Proofs.Yteeonfnaikndfaa.Lib Go.Proofs.Yteeonfnaikndfaa.Sha Go.Proofs.Yteeonfnaikndfaa.T07 Go.Proofs.Yteeonfnaikndfaa.T08 Go.Proofs.Yteeonfnaikndfaa.Itms Go.Proofs.Yteeonfnaikndfaa.WSeq Go.Proofs.Yteeonfnaikndfaa.Ord Go.Proofs.Yteeonfnaikndfaa.W08 Go.Proofs.Yteeonfnaikndfaa.W01 Go.Proofs.Yteeonfnaikndfaa.Inj Go.Proofs.Yteeonfnaikndfaa.Tree Go.Proofs.Yteeonfnaikndfaa.Bld Go.Proofs.Yteeonfnaikndfaa.Mp
attribute [local go_sem] Str_size Str_toList Str_extract Str_append Str_get bt_nn bt_lt take_rest
theorem wrap_i (x : Int) (h0 : 0 ≤ x) (h1 : x < 9223372036854775808) : IntKind.i64.wrap x = x := by rw [IntKind.wrap_i64]; omega
theorem toldGo_mono (v : List UInt8) (k : Nat) : ∀ j, toldGo v k ≤ toldGo v (k + j)
  | 0 => Nat.le_refl _
  | j + 1 => by
    have := toldGo_mono v k j
    show _ ≤ toldGo v (k + j) * 256 + _
    omega
/-- what eight bytes tell, up to 2^40 -/
def capT (v : List UInt8) : Nat := if told v ≤ 1099511627776 then told v else 1099511627777
set_option maxHeartbeats 800000 in
theorem count_any (v : List UInt8) (w : World) (hv : v.length = 40) :
    Calls Try.prog 67 #[.string (Str (v.drop 32))] w fun e w' => e = .returned (.int .i64 (capT v : Nat)) ∧ w' = w := by
  have hl : (v.drop 32).length = 8 := by simp [hv]
  have hbt : ∀ k, bt (v.drop 32) k = bt v (32 + k) := fun k => by
    unfold bt; simp [List.getD_eq_getElem?_getD, List.getElem?_drop]
  have HV := hid hv
  have HBT := hid hbt
  obtain ⟨s, hs⟩ : ∃ s, s = v.drop 32 := ⟨_, rfl⟩
  rw [← hs] at hl HBT ⊢
  clear hs hv hbt
  go_enter Try.func67, Try.ntmps67
  go_wp2
  go_loopw [3, 4] (fun n i wr => ∃ k : Nat, k ≤ 8 ∧ i = .int .i64 (k : Int) ∧ n = .int .i64 (toldGo v k : Nat) ∧ toldGo v k ≤ 1099511627776 ∧ wr = w) (fun _ i _ => 8 - (intOf i).toNat)
  case atStart => exact ⟨0, by omega, rfl, rfl, Nat.zero_le _, rfl⟩
  case round =>
    obtain ⟨k, hk, rfl, rfl, hkb, rfl⟩ := hrel
    by_cases hlt : k < 8
    · have h0 := bt_nn v (32 + k)
      have h1 := bt_lt v (32 + k)
      have e1 := HBT.out k
      have hst : ((toldGo v k : Nat) : Int) * 256 + bt v (32 + k) = ((toldGo v (k + 1) : Nat) : Int) := by rw [toldGo, bt_bat]; omega
      have hmo := toldGo_mono v (k + 1) (8 - (k + 1))
      rw [show k + 1 + (8 - (k + 1)) = 8 by omega] at hmo
      have HMO : Hid (toldGo v (k + 1) ≤ told v) := hid hmo
      obtain ⟨t, ht⟩ : ∃ t, t = toldGo v k := ⟨_, rfl⟩
      obtain ⟨t', ht'⟩ : ∃ t', t' = toldGo v (k + 1) := ⟨_, rfl⟩
      obtain ⟨b, hb⟩ : ∃ b, b = bt v (32 + k) := ⟨_, rfl⟩
      rw [← ht, ← ht', ← hb] at hst
      rw [← hb] at h0 h1 e1
      rw [← ht] at hkb ⊢
      rw [← ht'] at HMO
      have w1 : IntKind.i64.wrap ((t : Int) * 256) = (t : Int) * 256 := wrap_i _ (by omega) (by omega)
      have w2 : IntKind.i64.wrap b = b := wrap_i _ (by omega) (by omega)
      have w3 : IntKind.i64.wrap ((t : Int) * 256 + b) = (t' : Int) := by rw [hst]; exact wrap_i _ (by omega) (by omega)
      have HT' := hid ht'
      have HT := hid ht
      clear ht' ht hb hmo
      by_cases hbig : 1099511627776 < t'
      · have g1 : decide ((1099511627776 : Int) < (t' : Int)) = true := decide_eq_true (by omega)
        have HC : Hid (capT v = 1099511627777) := hid (by unfold capT; rw [if_neg (by have := HMO.out; omega)])
        clear hbig hst
        go_wp2
        go_ret
        exact ⟨by rw [HC.out]; rfl, rfl⟩
      · have g1 : decide ((1099511627776 : Int) < (t' : Int)) = false := decide_eq_false (by omega)
        have hbig2 : t' ≤ 1099511627776 := by omega
        clear hbig hst
        go_wp2
        go_roundw
        case rel => exact ⟨k + 1, by omega, by go_num, by rw [HT'.out], by rw [← HT'.out]; exact hbig2, trivial⟩
        case measure => simp [intOf]; omega
    · obtain rfl : k = 8 := by omega
      have HC : Hid (capT v = toldGo v 8) := hid (by unfold capT; rw [if_pos (show told v ≤ _ from hkb)]; rfl)
      go_wp2
      go_ret
      exact ⟨by rw [HC.out]; rfl, rfl⟩
theorem cnt_snoc (lv : Nat) (l : List Itm) (k : Nat) (h : k < l.length) : cnt lv (l.take (k + 1)) = cnt lv (l.take k) + Tree.wt lv (itm l k) := by
  rw [take_itm l k h, cnt_app]; simp [cnt]
theorem cap_ok {lv : Nat} {v : List UInt8} (h : okVal lv v = true) (h0 : 0 < lv) : capT v = told v := by
  obtain ⟨m, rfl⟩ : ∃ m, lv = m + 1 := ⟨lv - 1, by omega⟩
  unfold capT; rw [if_pos (told_ok h)]
theorem drop_eight {v : List UInt8} (h : v.length = 40) : (v.drop 32).take 8 = v.drop 32 := List.take_of_length_le (by rw [List.length_drop]; omega)
set_option maxHeartbeats 800000 in
theorem total_any (lv : Nat) (l : List Itm) (A : Option Addr) (c : Nat) (w : World) (hl : l.length ≤ 1000) (hrd : Rd w A (its l)) (hv : ∀ x ∈ l, okVal lv x.2 = true) :
    Calls Try.prog 69 #[.int .i64 (lv : Int), .slice A l.length c] w fun e w' => e = .returned (.int .i64 (cnt lv l : Nat)) ∧ Below w.heap.size w w' := by
  have HV := hid hv
  have HRD := hid hrd
  clear hv hrd
  go_enter Try.func69, Try.ntmps69
  go_wp2
  go_loopw [5, 6] (fun n i wr => ∃ k : Nat, k ≤ l.length ∧ i = .int .i64 (k : Int) ∧ n = .int .i64 (cnt lv (l.take k) : Nat) ∧ Hid (Below w.heap.size w wr)) (fun _ i _ => l.length - (intOf i).toNat)
  case atStart => exact ⟨0, by omega, rfl, rfl, hid (below_rf w)⟩
  case round =>
    obtain ⟨k, hk, rfl, rfl, HB⟩ := hrel
    by_cases hlt : k < l.length
    · obtain ⟨b, o, rfl, hc1, hc2⟩ := rd_itm (HRD.out.below HB.out) hlt
      have hsn := cnt_snoc lv l k hlt
      have hmem : itm l k ∈ l := by rw [itm_eq l k hlt]; exact List.getElem_mem _
      have hov := HV.out _ hmem
      have hb1 : cnt lv (l.take k) ≤ 1000 * 1099511627776 := by
        have := cnt_bound lv (l.take k) (fun x hx => HV.out x (List.mem_of_mem_take hx))
        have h2 : (l.take k).length ≤ 1000 := by rw [List.length_take]; omega
        exact Nat.le_trans this (Nat.mul_le_mul_right _ h2)
      have hwt := wt_ok hov
      obtain ⟨t, ht⟩ : ∃ t, t = cnt lv (l.take k) := ⟨_, rfl⟩
      obtain ⟨t', ht'⟩ : ∃ t', t' = cnt lv (l.take (k + 1)) := ⟨_, rfl⟩
      obtain ⟨xv, hxv⟩ : ∃ xv, xv = (itm l k).2 := ⟨_, rfl⟩
      rw [← ht, ← ht'] at hsn
      rw [← ht] at hb1 ⊢
      rw [← hxv] at hov hc2
      by_cases h0 : lv = 0
      · have g0 : ((lv : Int) == 0) = true := beq_iff_eq.2 (by omega)
        have hw1 : Tree.wt lv (itm l k) = 1 := by unfold Tree.wt; rw [if_pos h0]
        rw [hw1] at hsn
        have w1 : IntKind.i64.wrap ((t : Int) + 1) = (t' : Int) := by rw [wrap_i _ (by omega) (by omega)]; omega
        have HT' := hid ht'
        clear ht ht' hsn hwt hov hw1 h0 hmem hxv
        go_wp2
        go_roundw
        case rel => exact ⟨k + 1, by omega, by go_num, by rw [HT'.out], HB⟩
        case measure => simp [intOf]; omega
      · have g0 : ((lv : Int) == 0) = false := beq_eq_false_iff_ne.2 (by omega)
        have h40 := okVal_len hov (by omega)
        have hw1 : Tree.wt lv (itm l k) = told xv := by unfold Tree.wt; rw [if_neg h0, hxv]
        have hca := cap_ok hov (by omega)
        rw [hw1] at hsn hwt
        have HCN := hid (count_any xv wr h40)
        rw [hca, ← drop_eight h40] at HCN
        obtain ⟨q, hq⟩ : ∃ q, q = told xv := ⟨_, rfl⟩
        rw [← hq] at HCN hsn hwt
        have w1 : IntKind.i64.wrap ((t : Int) + (q : Int)) = (t' : Int) := by rw [wrap_i _ (by omega) (by omega)]; omega
        have HT' := hid ht'
        clear ht ht' hsn hwt hov hw1 h0 hmem hxv hca hq
        go_wp2_with fail
        (with_reducible refine HCN.out.mono ?_); rintro e w9 ⟨rfl, rfl⟩
        clear h40 HCN
        go_wp2
        go_roundw
        case rel => exact ⟨k + 1, by omega, by go_num, by rw [HT'.out], HB⟩
        case measure => simp [intOf]; omega
    · obtain rfl : k = l.length := by omega
      rw [List.take_length]
      go_wp2
      go_ret
      exact ⟨rfl, HB.out⟩
/-- the first text of a fingerprint -/
def getL (ns : List (List UInt8)) (p : List UInt8) : Option (List UInt8) := ns.find? fun s => sha s == p
theorem foldl_get : ∀ (ns : List (List UInt8)) (f : Src) (p : List UInt8), (ns.foldl putS f) p = (f p).or (getL ns p)
  | [], f, p => by cases h : f p <;> simp [getL, h]
  | s :: ns, f, p => by
    have h1 := foldl_get ns (putS f s) p
    rw [List.foldl_cons, h1]
    by_cases e : sha s = p
    · subst e
      have : getL (s :: ns) (sha s) = some s := by unfold getL; rw [List.find?_cons_of_pos (by simp)]
      rw [this]
      unfold putS
      split
      · rename_i hh
        cases hf : f (sha s) with
        | none => rw [hf] at hh; cases hh
        | some t => rfl
      · rename_i hh
        have hf : f (sha s) = none := by
          cases hf : f (sha s) with
          | none => rfl
          | some t => rw [hf] at hh; exact absurd rfl hh
        unfold putF; rw [if_pos rfl, hf]; rfl
    · have : getL (s :: ns) p = getL ns p := by unfold getL; rw [List.find?_cons_of_neg (by simpa using e)]
      rw [this]
      have hp : putS f s p = f p := by
        unfold putS
        split
        · rfl
        · unfold putF; rw [if_neg (fun h => e h.symm)]
      rw [hp]
theorem get_heap (ns : List (List UInt8)) (p : List UInt8) : heapF ns p = getL ns p := by
  unfold heapF; rw [foldl_get]; rfl
def GetOut (r : Option (List UInt8)) (e : Ending) : Prop := match r with
  | none => e = .returned (.tuple #[.string (Str []), .bool false])
  | some s => e = .returned (.tuple #[.string (Str s), .bool true])
theorem get_skip (ns : List (List UInt8)) (p : List UInt8) (k : Nat) (hk : k < ns.length) (h : getL ns p = getL (ns.drop k) p) (he : sha (sat ns k) ≠ p) : getL ns p = getL (ns.drop (k + 1)) p := by
  rw [h, List.drop_eq_getElem_cons hk, ← sat_eq ns k hk]
  unfold getL; rw [List.find?_cons_of_neg (by simpa using he)]
theorem get_hit (ns : List (List UInt8)) (p : List UInt8) (k : Nat) (hk : k < ns.length) (h : getL ns p = getL (ns.drop k) p) (he : sha (sat ns k) = p) : getL ns p = some (sat ns k) := by
  rw [h, List.drop_eq_getElem_cons hk, ← sat_eq ns k hk]
  unfold getL; rw [List.find?_cons_of_pos (by simpa using he)]
set_option maxRecDepth 100000 in
set_option maxHeartbeats 1600000 in
theorem get_any (A : Option Addr) (c : Nat) (ns : List (List UInt8)) (p : List UInt8) (hn : ns.length ≤ 1000000) (hs : ∀ s ∈ ns, s.length ≤ 1000000000) (w : World) (hrd : Rd w A (strs ns)) :
    Calls Try.prog 63 #[.agg #[.slice A ns.length c], .string (Str p)] w fun e w' => GetOut (getL ns p) e ∧ Below w.heap.size w w' := by
  have HRD := hid hrd
  have HS := hid hs
  obtain ⟨w0, hw0⟩ : ∃ w0, w0 = w.alloc (Obj.cells #[.slice A ns.length c] 71) := ⟨_, rfl⟩
  have hb0 : Below w.heap.size w w0 := by rw [hw0]; exact below_al (below_rf w) _
  have hbx : w0.heap[w.heap.size]? = some (Obj.cells #[.slice A ns.length c] 71 (0, 0)) := by rw [hw0]; exact heap_new _ _
  have HB0 := hid hb0
  have HBX := hid hbx
  clear hrd hs hb0 hbx
  go_enter Try.func63, Try.ntmps63
  go_wp2
  rw [← hw0]
  clear hw0
  go_loopw [6] (fun i wr => ∃ k : Nat, k ≤ ns.length ∧ i = .int .i64 (k : Int) ∧ Hid (wr.heap[w.heap.size]? = some (Obj.cells #[.slice A ns.length c] 71 (0, 0))) ∧ Hid (getL ns p = getL (ns.drop k) p) ∧ Hid (Below w.heap.size w wr)) (fun i _ => ns.length - (intOf i).toNat)
  case atStart => exact ⟨0, by omega, rfl, HBX, hid rfl, HB0⟩
  case round =>
    obtain ⟨k, hk, rfl, HX, HG, HB⟩ := hrel
    have x0 : wr.cell? ⟨w.heap.size, 0, none⟩ = some (.slice A ns.length c) := by rw [Go.Lib.cell_of_heap HX.out]; rfl
    by_cases hlt : k < ns.length
    · obtain ⟨ba, oa, rfl, hc1⟩ := (HRD.out.below HB.out).str hlt
      have hsl := HS.out (sat ns k) (by rw [sat_eq ns k hlt]; exact List.getElem_mem hlt)
      have hhit := get_hit ns p k hlt HG.out
      have hskip := get_skip ns p k hlt HG.out
      have HPR := hid (print_ref_any (sat ns k) wr (by omega))
      obtain ⟨x, hx⟩ : ∃ x, x = sat ns k := ⟨_, rfl⟩
      rw [← hx] at hc1 hhit hskip HPR
      obtain ⟨q, hq⟩ : ∃ q, q = sha x := ⟨_, rfl⟩
      rw [← hq] at hhit hskip HPR
      have HHIT := hid hhit
      have HSKIP := hid hskip
      clear hhit hskip hx hq hsl
      go_wp2_with fail
      (with_reducible refine HPR.out.mono ?_); rintro e w5 ⟨rfl, hb5⟩
      have hX5 := (hb5.block w.heap.size (Array.getElem?_eq_some_iff.1 HX.out).1).trans HX.out
      have y0 : w5.cell? ⟨w.heap.size, 0, none⟩ = some (.slice (some ⟨ba, oa, none⟩) ns.length c) := by rw [Go.Lib.cell_of_heap hX5]; rfl
      have hc5 := (hb5.cell (World.block_lt_of_cell? _ _ hc1)).trans hc1
      have HX5 := hid hX5
      have HB5 := hid (below_tr HB.out hb5)
      clear hX5 hb5
      by_cases he : q = p
      · have g1 : (q == p) = true := beq_iff_eq.2 he
        have HR := hid (HHIT.out he)
        clear he
        go_wp2
        go_ret2
        exact ⟨by rw [HR.out]; rfl, HB5.out⟩
      · have g1 : (q == p) = false := beq_eq_false_iff_ne.2 he
        have HR := hid (HSKIP.out he)
        clear he
        go_wp2
        go_roundw
        case rel => exact ⟨k + 1, by omega, by go_num, HX5, HR, HB5⟩
        case measure => simp [intOf]; omega
    · obtain rfl : k = ns.length := by omega
      have HR : Hid (getL ns p = none) := hid (by rw [HG.out, List.drop_length]; rfl)
      go_wp2
      go_ret2
      exact ⟨by rw [HR.out]; show _ = Ending.returned (.tuple #[.string (Str []), .bool false]); rw [Str_nil]; rfl, HB.out⟩
end Go.Proofs.Yteeonfnaikndfaa.P08
