/- The walks of the document's answers of layer 8: counts, totals, what a heap tells. The walk of the document's answer: what bytes are a node. The walks of the document's answers of layer 8: a root's node, the node below an item. -/
import Derived.Test.YteeonfnaikndfaaTree
import Derived.Test.YteeonfnaikndfaaTreed
import Derived.Test.YteeonfnaikndfaaW08u
set_option linter.unusedVariables false
set_option linter.unusedSimpArgs false
namespace Go.Proofs.Yteeonfnaikndfaa.P08
open Go Go.RowKit Go.Proofs.Yteeonfnaikndfaa Go.Proofs.Yteeonfnaikndfaa.Lib Go.Proofs.Yteeonfnaikndfaa.Sha Go.Proofs.Yteeonfnaikndfaa.T07 Go.Proofs.Yteeonfnaikndfaa.T08 Go.Proofs.Yteeonfnaikndfaa.Itms Go.Proofs.Yteeonfnaikndfaa.WSeq Go.Proofs.Yteeonfnaikndfaa.Ord Go.Proofs.Yteeonfnaikndfaa.W08 Go.Proofs.Yteeonfnaikndfaa.W01 Go.Proofs.Yteeonfnaikndfaa.Inj Go.Proofs.Yteeonfnaikndfaa.Tree Go.Proofs.Yteeonfnaikndfaa.Bld Go.Proofs.Yteeonfnaikndfaa.Mp
attribute [local go_sem] Str_size Str_toList Str_extract Str_append Str_get bt_nn bt_lt take_rest
theorem wrap_i (x : Int) (h0 : 0 ≤ x) (h1 : x < 9223372036854775808) : IntKind.i64.wrap x = x := by rw [IntKind.wrap_i64]; omega
theorem toldGo_mono (v : List UInt8) (k : Nat) : ∀ j, toldGo v k ≤ toldGo v (k + j)
  | 0 => Nat.le_refl _
  | j + 1 => by
    have := toldGo_mono v k j
    show _ ≤ toldGo v (k + j) * 256 + _
    omega
/-- what eight bytes tell, up to 2^40 -/
def capT (v : List UInt8) : Nat := if told v ≤ 1099511627776 then told v else 1099511627777
set_option maxHeartbeats 800000 in
theorem count_any (v : List UInt8) (w : World) (hv : v.length = 40) :
    Calls Try.prog 67 #[.string (Str (v.drop 32))] w fun e w' => e = .returned (.int .i64 (capT v : Nat)) ∧ w' = w := by
  have hl : (v.drop 32).length = 8 := by simp [hv]
  have hbt : ∀ k, bt (v.drop 32) k = bt v (32 + k) := fun k => by
    unfold bt; simp [List.getD_eq_getElem?_getD, List.getElem?_drop]
  have HV := hid hv
  have HBT := hid hbt
  obtain ⟨s, hs⟩ : ∃ s, s = v.drop 32 := ⟨_, rfl⟩
  rw [← hs] at hl HBT ⊢
  clear hs hv hbt
  go_enter Try.func67, Try.ntmps67
  go_wp2
  go_loopw [3, 4] (fun n i wr => ∃ k : Nat, k ≤ 8 ∧ i = .int .i64 (k : Int) ∧ n = .int .i64 (toldGo v k : Nat) ∧ toldGo v k ≤ 1099511627776 ∧ wr = w) (fun _ i _ => 8 - (intOf i).toNat)
  case atStart => exact ⟨0, by omega, rfl, rfl, Nat.zero_le _, rfl⟩
  case round =>
    obtain ⟨k, hk, rfl, rfl, hkb, rfl⟩ := hrel
    by_cases hlt : k < 8
    · have h0 := bt_nn v (32 + k)
      have h1 := bt_lt v (32 + k)
      have e1 := HBT.out k
      have hst : ((toldGo v k : Nat) : Int) * 256 + bt v (32 + k) = ((toldGo v (k + 1) : Nat) : Int) := by rw [toldGo, bt_bat]; omega
      have hmo := toldGo_mono v (k + 1) (8 - (k + 1))
      rw [show k + 1 + (8 - (k + 1)) = 8 by omega] at hmo
      have HMO : Hid (toldGo v (k + 1) ≤ told v) := hid hmo
      obtain ⟨t, ht⟩ : ∃ t, t = toldGo v k := ⟨_, rfl⟩
      obtain ⟨t', ht'⟩ : ∃ t', t' = toldGo v (k + 1) := ⟨_, rfl⟩
      obtain ⟨b, hb⟩ : ∃ b, b = bt v (32 + k) := ⟨_, rfl⟩
      rw [← ht, ← ht', ← hb] at hst
      rw [← hb] at h0 h1 e1
      rw [← ht] at hkb ⊢
      rw [← ht'] at HMO
      have w1 : IntKind.i64.wrap ((t : Int) * 256) = (t : Int) * 256 := wrap_i _ (by omega) (by omega)
      have w2 : IntKind.i64.wrap b = b := wrap_i _ (by omega) (by omega)
      have w3 : IntKind.i64.wrap ((t : Int) * 256 + b) = (t' : Int) := by rw [hst]; exact wrap_i _ (by omega) (by omega)
      have HT' := hid ht'
      have HT := hid ht
      clear ht' ht hb hmo
      by_cases hbig : 1099511627776 < t'
      · have g1 : decide ((1099511627776 : Int) < (t' : Int)) = true := decide_eq_true (by omega)
        have HC : Hid (capT v = 1099511627777) := hid (by unfold capT; rw [if_neg (by have := HMO.out; omega)])
        clear hbig hst
        go_wp2
        go_ret
        exact ⟨by rw [HC.out]; rfl, rfl⟩
      · have g1 : decide ((1099511627776 : Int) < (t' : Int)) = false := decide_eq_false (by omega)
        have hbig2 : t' ≤ 1099511627776 := by omega
        clear hbig hst
        go_wp2
        go_roundw
        case rel => exact ⟨k + 1, by omega, by go_num, by rw [HT'.out], by rw [← HT'.out]; exact hbig2, trivial⟩
        case measure => simp [intOf]; omega
    · obtain rfl : k = 8 := by omega
      have HC : Hid (capT v = toldGo v 8) := hid (by unfold capT; rw [if_pos (show told v ≤ _ from hkb)]; rfl)
      go_wp2
      go_ret
      exact ⟨by rw [HC.out]; rfl, rfl⟩
theorem cnt_snoc (lv : Nat) (l : List Itm) (k : Nat) (h : k < l.length) : cnt lv (l.take (k + 1)) = cnt lv (l.take k) + Tree.wt lv (itm l k) := by
  rw [take_itm l k h, cnt_app]; simp [cnt]
theorem cap_ok {lv : Nat} {v : List UInt8} (h : okVal lv v = true) (h0 : 0 < lv) : capT v = told v := by
  obtain ⟨m, rfl⟩ : ∃ m, lv = m + 1 := ⟨lv - 1, by omega⟩
  unfold capT; rw [if_pos (told_ok h)]
theorem drop_eight {v : List UInt8} (h : v.length = 40) : (v.drop 32).take 8 = v.drop 32 := List.take_of_length_le (by rw [List.length_drop]; omega)
set_option maxHeartbeats 800000 in
theorem total_any (lv : Nat) (l : List Itm) (A : Option Addr) (c : Nat) (w : World) (hl : l.length ≤ 1000) (hrd : Rd w A (its l)) (hv : ∀ x ∈ l, okVal lv x.2 = true) :
    Calls Try.prog 69 #[.int .i64 (lv : Int), .slice A l.length c] w fun e w' => e = .returned (.int .i64 (cnt lv l : Nat)) ∧ Below w.heap.size w w' := by
  have HV := hid hv
  have HRD := hid hrd
  clear hv hrd
  go_enter Try.func69, Try.ntmps69
  go_wp2
  go_loopw [5, 6] (fun n i wr => ∃ k : Nat, k ≤ l.length ∧ i = .int .i64 (k : Int) ∧ n = .int .i64 (cnt lv (l.take k) : Nat) ∧ Hid (Below w.heap.size w wr)) (fun _ i _ => l.length - (intOf i).toNat)
  case atStart => exact ⟨0, by omega, rfl, rfl, hid (below_rf w)⟩
  case round =>
    obtain ⟨k, hk, rfl, rfl, HB⟩ := hrel
    by_cases hlt : k < l.length
    · obtain ⟨b, o, rfl, hc1, hc2⟩ := rd_itm (HRD.out.below HB.out) hlt
      have hsn := cnt_snoc lv l k hlt
      have hmem : itm l k ∈ l := by rw [itm_eq l k hlt]; exact List.getElem_mem _
      have hov := HV.out _ hmem
      have hb1 : cnt lv (l.take k) ≤ 1000 * 1099511627776 := by
        have := cnt_bound lv (l.take k) (fun x hx => HV.out x (List.mem_of_mem_take hx))
        have h2 : (l.take k).length ≤ 1000 := by rw [List.length_take]; omega
        exact Nat.le_trans this (Nat.mul_le_mul_right _ h2)
      have hwt := wt_ok hov
      obtain ⟨t, ht⟩ : ∃ t, t = cnt lv (l.take k) := ⟨_, rfl⟩
      obtain ⟨t', ht'⟩ : ∃ t', t' = cnt lv (l.take (k + 1)) := ⟨_, rfl⟩
      obtain ⟨xv, hxv⟩ : ∃ xv, xv = (itm l k).2 := ⟨_, rfl⟩
      rw [← ht, ← ht'] at hsn
      rw [← ht] at hb1 ⊢
      rw [← hxv] at hov hc2
      by_cases h0 : lv = 0
      · have g0 : ((lv : Int) == 0) = true := beq_iff_eq.2 (by omega)
        have hw1 : Tree.wt lv (itm l k) = 1 := by unfold Tree.wt; rw [if_pos h0]
        rw [hw1] at hsn
        have w1 : IntKind.i64.wrap ((t : Int) + 1) = (t' : Int) := by rw [wrap_i _ (by omega) (by omega)]; omega
        have HT' := hid ht'
        clear ht ht' hsn hwt hov hw1 h0 hmem hxv
        go_wp2
        go_roundw
        case rel => exact ⟨k + 1, by omega, by go_num, by rw [HT'.out], HB⟩
        case measure => simp [intOf]; omega
      · have g0 : ((lv : Int) == 0) = false := beq_eq_false_iff_ne.2 (by omega)
        have h40 := okVal_len hov (by omega)
        have hw1 : Tree.wt lv (itm l k) = told xv := by unfold Tree.wt; rw [if_neg h0, hxv]
        have hca := cap_ok hov (by omega)
        rw [hw1] at hsn hwt
        have HCN := hid (count_any xv wr h40)
        rw [hca, ← drop_eight h40] at HCN
        obtain ⟨q, hq⟩ : ∃ q, q = told xv := ⟨_, rfl⟩
        rw [← hq] at HCN hsn hwt
        have w1 : IntKind.i64.wrap ((t : Int) + (q : Int)) = (t' : Int) := by rw [wrap_i _ (by omega) (by omega)]; omega
        have HT' := hid ht'
        clear ht ht' hsn hwt hov hw1 h0 hmem hxv hca hq
        go_wp2_with fail
        (with_reducible refine HCN.out.mono ?_); rintro e w9 ⟨rfl, rfl⟩
        clear h40 HCN
        go_wp2
        go_roundw
        case rel => exact ⟨k + 1, by omega, by go_num, by rw [HT'.out], HB⟩
        case measure => simp [intOf]; omega
    · obtain rfl : k = l.length := by omega
      rw [List.take_length]
      go_wp2
      go_ret
      exact ⟨rfl, HB.out⟩
/-- the first text of a fingerprint -/
def getL (ns : List (List UInt8)) (p : List UInt8) : Option (List UInt8) := ns.find? fun s => sha s == p
theorem foldl_get : ∀ (ns : List (List UInt8)) (f : Src) (p : List UInt8), (ns.foldl putS f) p = (f p).or (getL ns p)
  | [], f, p => by cases h : f p <;> simp [getL, h]
  | s :: ns, f, p => by
    have h1 := foldl_get ns (putS f s) p
    rw [List.foldl_cons, h1]
    by_cases e : sha s = p
    · subst e
      have : getL (s :: ns) (sha s) = some s := by unfold getL; rw [List.find?_cons_of_pos (by simp)]
      rw [this]
      unfold putS
      split
      · rename_i hh
        cases hf : f (sha s) with
        | none => rw [hf] at hh; cases hh
        | some t => rfl
      · rename_i hh
        have hf : f (sha s) = none := by
          cases hf : f (sha s) with
          | none => rfl
          | some t => rw [hf] at hh; exact absurd rfl hh
        unfold putF; rw [if_pos rfl, hf]; rfl
    · have : getL (s :: ns) p = getL ns p := by unfold getL; rw [List.find?_cons_of_neg (by simpa using e)]
      rw [this]
      have hp : putS f s p = f p := by
        unfold putS
        split
        · rfl
        · unfold putF; rw [if_neg (fun h => e h.symm)]
      rw [hp]
theorem get_heap (ns : List (List UInt8)) (p : List UInt8) : heapF ns p = getL ns p := by
  unfold heapF; rw [foldl_get]; rfl
def GetOut (r : Option (List UInt8)) (e : Ending) : Prop := match r with
  | none => e = .returned (.tuple #[.string (Str []), .bool false])
  | some s => e = .returned (.tuple #[.string (Str s), .bool true])
theorem get_skip (ns : List (List UInt8)) (p : List UInt8) (k : Nat) (hk : k < ns.length) (h : getL ns p = getL (ns.drop k) p) (he : sha (sat ns k) ≠ p) : getL ns p = getL (ns.drop (k + 1)) p := by
  rw [h, List.drop_eq_getElem_cons hk, ← sat_eq ns k hk]
  unfold getL; rw [List.find?_cons_of_neg (by simpa using he)]
theorem get_hit (ns : List (List UInt8)) (p : List UInt8) (k : Nat) (hk : k < ns.length) (h : getL ns p = getL (ns.drop k) p) (he : sha (sat ns k) = p) : getL ns p = some (sat ns k) := by
  rw [h, List.drop_eq_getElem_cons hk, ← sat_eq ns k hk]
  unfold getL; rw [List.find?_cons_of_pos (by simpa using he)]
set_option maxRecDepth 100000 in
set_option maxHeartbeats 1600000 in
theorem get_any (A : Option Addr) (c : Nat) (ns : List (List UInt8)) (p : List UInt8) (hn : ns.length ≤ 1000000) (hs : ∀ s ∈ ns, s.length ≤ 1000000000) (w : World) (hrd : Rd w A (strs ns)) :
    Calls Try.prog 63 #[.agg #[.slice A ns.length c], .string (Str p)] w fun e w' => GetOut (getL ns p) e ∧ Below w.heap.size w w' := by
  have HRD := hid hrd
  have HS := hid hs
  obtain ⟨w0, hw0⟩ : ∃ w0, w0 = w.alloc (Obj.cells #[.slice A ns.length c] 71) := ⟨_, rfl⟩
  have hb0 : Below w.heap.size w w0 := by rw [hw0]; exact below_al (below_rf w) _
  have hbx : w0.heap[w.heap.size]? = some (Obj.cells #[.slice A ns.length c] 71 (0, 0)) := by rw [hw0]; exact heap_new _ _
  have HB0 := hid hb0
  have HBX := hid hbx
  clear hrd hs hb0 hbx
  go_enter Try.func63, Try.ntmps63
  go_wp2
  rw [← hw0]
  clear hw0
  go_loopw [6] (fun i wr => ∃ k : Nat, k ≤ ns.length ∧ i = .int .i64 (k : Int) ∧ Hid (wr.heap[w.heap.size]? = some (Obj.cells #[.slice A ns.length c] 71 (0, 0))) ∧ Hid (getL ns p = getL (ns.drop k) p) ∧ Hid (Below w.heap.size w wr)) (fun i _ => ns.length - (intOf i).toNat)
  case atStart => exact ⟨0, by omega, rfl, HBX, hid rfl, HB0⟩
  case round =>
    obtain ⟨k, hk, rfl, HX, HG, HB⟩ := hrel
    have x0 : wr.cell? ⟨w.heap.size, 0, none⟩ = some (.slice A ns.length c) := by rw [Go.Lib.cell_of_heap HX.out]; rfl
    by_cases hlt : k < ns.length
    · obtain ⟨ba, oa, rfl, hc1⟩ := (HRD.out.below HB.out).str hlt
      have hsl := HS.out (sat ns k) (by rw [sat_eq ns k hlt]; exact List.getElem_mem hlt)
      have hhit := get_hit ns p k hlt HG.out
      have hskip := get_skip ns p k hlt HG.out
      have HPR := hid (print_ref_any (sat ns k) wr (by omega))
      obtain ⟨x, hx⟩ : ∃ x, x = sat ns k := ⟨_, rfl⟩
      rw [← hx] at hc1 hhit hskip HPR
      obtain ⟨q, hq⟩ : ∃ q, q = sha x := ⟨_, rfl⟩
      rw [← hq] at hhit hskip HPR
      have HHIT := hid hhit
      have HSKIP := hid hskip
      clear hhit hskip hx hq hsl
      go_wp2_with fail
      (with_reducible refine HPR.out.mono ?_); rintro e w5 ⟨rfl, hb5⟩
      have hX5 := (hb5.block w.heap.size (Array.getElem?_eq_some_iff.1 HX.out).1).trans HX.out
      have y0 : w5.cell? ⟨w.heap.size, 0, none⟩ = some (.slice (some ⟨ba, oa, none⟩) ns.length c) := by rw [Go.Lib.cell_of_heap hX5]; rfl
      have hc5 := (hb5.cell (World.block_lt_of_cell? _ _ hc1)).trans hc1
      have HX5 := hid hX5
      have HB5 := hid (below_tr HB.out hb5)
      clear hX5 hb5
      by_cases he : q = p
      · have g1 : (q == p) = true := beq_iff_eq.2 he
        have HR := hid (HHIT.out he)
        clear he
        go_wp2
        go_ret2
        exact ⟨by rw [HR.out]; rfl, HB5.out⟩
      · have g1 : (q == p) = false := beq_eq_false_iff_ne.2 he
        have HR := hid (HSKIP.out he)
        clear he
        go_wp2
        go_roundw
        case rel => exact ⟨k + 1, by omega, by go_num, HX5, HR, HB5⟩
        case measure => simp [intOf]; omega
    · obtain rfl : k = ns.length := by omega
      have HR : Hid (getL ns p = none) := hid (by rw [HG.out, List.drop_length]; rfl)
      go_wp2
      go_ret2
      exact ⟨by rw [HR.out]; show _ = Ending.returned (.tuple #[.string (Str []), .bool false]); rw [Str_nil]; rfl, HB.out⟩
end Go.Proofs.Yteeonfnaikndfaa.P08
namespace Go.Proofs.Yteeonfnaikndfaa.P08
open Go Go.RowKit Go.Proofs.Yteeonfnaikndfaa Go.Proofs.Yteeonfnaikndfaa.Lib Go.Proofs.Yteeonfnaikndfaa.Sha Go.Proofs.Yteeonfnaikndfaa.T07 Go.Proofs.Yteeonfnaikndfaa.T08 Go.Proofs.Yteeonfnaikndfaa.Itms Go.Proofs.Yteeonfnaikndfaa.WSeq Go.Proofs.Yteeonfnaikndfaa.Ord Go.Proofs.Yteeonfnaikndfaa.W08 Go.Proofs.Yteeonfnaikndfaa.W01 Go.Proofs.Yteeonfnaikndfaa.Inj Go.Proofs.Yteeonfnaikndfaa.Tree Go.Proofs.Yteeonfnaikndfaa.Bld Go.Proofs.Yteeonfnaikndfaa.QTail
attribute [local go_sem] Str_size Str_toList Str_extract Str_append Str_get bt_nn bt_lt take_rest List.length_append
/-- the fields that were read of a pair -/
def FldsAt (r : List UInt8) (k : Nat) (r' a b : List UInt8) : Prop :=
  if k = 0 then r' = r ∧ a = [] ∧ b = [] else if k = 1 then fieldS r = some (a, r') ∧ b = [] else ∃ r1, fieldS r = some (a, r1) ∧ fieldS r1 = some (b, r')
theorem flds_0 (r : List UInt8) : FldsAt r 0 r [] [] := by unfold FldsAt; rw [if_pos rfl]; exact ⟨rfl, rfl, rfl⟩
theorem flds_1 {r a r1 : List UInt8} (h : fieldS r = some (a, r1)) : FldsAt r 1 r1 a [] := by unfold FldsAt; rw [if_neg (by decide), if_pos rfl]; exact ⟨h, rfl⟩
theorem flds_2 {r a b r1 r2 : List UInt8} (h1 : fieldS r = some (a, r1)) (h2 : fieldS r1 = some (b, r2)) : FldsAt r 2 r2 a b := by unfold FldsAt; rw [if_neg (by decide), if_neg (by decide)]; exact ⟨r1, h1, h2⟩
theorem right_snoc (acc : List Itm) (x : Itm) : rightS (acc ++ [x]) = (rightS acc && !badS x && (acc.isEmpty || ltS (lastS acc) x.1)) := by
  unfold rightS
  rw [okS_snoc, List.any_append]
  simp
  cases okS acc <;> cases acc.any badS <;> cases badS x <;> cases acc.isEmpty <;> cases ltS (lastS acc) x.1 <;> rfl
theorem right_front (acc l : List Itm) (h : rightS (acc ++ l) = true) : rightS acc = true := by
  unfold rightS at h ⊢
  rw [List.any_append] at h
  simp only [Bool.and_eq_true] at h ⊢
  have h1 := okS_take (acc ++ l) acc.length h.1
  rw [List.take_left] at h1
  refine ⟨h1, ?_⟩
  have h2 := h.2
  cases ha : acc.any badS with
  | false => rfl
  | true => rw [ha] at h2; simp at h2
/-- one of a node's texts: what is read of it, pair by pair -/
structure PHead (s : List UInt8) (lv N : Nat) : Prop where
  len : 3 ≤ s.length
  e0 : bt s 0 = 80
  e1 : bt s 1 = (lv : Int)
  e2 : bt s 2 = (N : Int)
  lv32 : lv ≤ 32
  n16 : N ≤ 16
  says : parseS s = (match parseGo lv N (s.drop 3) with | none => none | some (l, r) => if r = [] ∧ ¬ (0 < lv ∧ l.length = 0) ∧ rightS l = true then some (lv, l) else none)
theorem parse_bad {s : List UInt8} {lv N : Nat} (h : PHead s lv N) (acc : List Itm) (hr : rightS acc = false) (hg : ∀ l r, parseGo lv N (s.drop 3) = some (l, r) → ∃ l', l = acc ++ l') : parseS s = none := by
  rw [h.says]
  cases hp : parseGo lv N (s.drop 3) with
  | none => rfl
  | some q =>
    obtain ⟨l, r⟩ := q
    obtain ⟨l', rfl⟩ := hg l r hp
    dsimp only
    rw [if_neg]
    intro hh
    rw [right_front _ _ hh.2.2] at hr; cases hr
theorem flds_none {γ : Type} {r r' a b : List UInt8} {k : Nat} (F : List UInt8 → List UInt8 → List UInt8 → Option γ) (h : FldsAt r k r' a b) (hk : k < 2) (hf : fieldS r' = none) : (match fieldS r with
    | none => none
    | some (a, r1) => match fieldS r1 with
      | none => none
      | some (b, r2) => F a b r2) = none := by
  rcases (by omega : k = 0 ∨ k = 1) with rfl | rfl
  · unfold FldsAt at h
    rw [if_pos rfl] at h
    obtain ⟨rfl, _, _⟩ := h
    rw [hf]
  · unfold FldsAt at h
    rw [if_neg (by decide), if_pos rfl] at h
    rw [h.1]
    dsimp only
    rw [hf]
theorem flds_two {γ : Type} {r r' a b : List UInt8} (F : List UInt8 → List UInt8 → List UInt8 → Option γ) (h : FldsAt r 2 r' a b) : (match fieldS r with
    | none => none
    | some (a, r1) => match fieldS r1 with
      | none => none
      | some (b, r2) => F a b r2) = F a b r' := by
  unfold FldsAt at h
  rw [if_neg (by decide), if_neg (by decide)] at h
  obtain ⟨r1, h1, h2⟩ := h
  rw [h1]
  dsimp only
  rw [h2]
theorem flds_at0 {r r' a b : List UInt8} (h : FldsAt r 0 r' a b) : r' = r ∧ a = [] ∧ b = [] := by
  unfold FldsAt at h; rw [if_pos rfl] at h; exact h
theorem flds_at1 {r r' a b : List UInt8} (h : FldsAt r 1 r' a b) : fieldS r = some (a, r') ∧ b = [] := by
  unfold FldsAt at h; rw [if_neg (by decide), if_pos rfl] at h; exact h
/-- what the document's answer tells of a text -/
def ParseRef (B : Nat) (s : List UInt8) (e : Ending) (W : World) : Prop :=
  (parseS s = none ∧ e = .returned (.tuple #[.int .i64 0, .slice none 0 0, .bool false])) ∨
  ∃ lv l v, parseS s = some (lv, l) ∧ e = .returned (.tuple #[.int .i64 (lv : Int), v, .bool true]) ∧ W.ownsRow B 27 2 v l.length (its l)
theorem lastS_itm (l : List Itm) (h : 0 < l.length) : lastS l = (itm l (l.length - 1)).1 := by
  unfold lastS itm
  rw [List.getLast?_eq_getElem?, List.getD_eq_getElem?_getD, List.getElem?_eq_getElem (by omega)]; rfl
set_option maxRecDepth 100000 in
set_option maxHeartbeats 6400000 in
theorem parse_ref_any (s : List UInt8) (w : World) (hs : s.length ≤ 1000000000) :
    Calls Try.prog 41 #[.string (Str s)] w fun e w' => ParseRef w.heap.size s e w' ∧ Below w.heap.size w w' := by
  go_enter Try.func41, Try.ntmps41
  cases hh : headOk s with
  | false =>
    have hp : parseS s = none := by unfold parseS; rw [hh]; rfl
    have HP := hid hp
    have b0 := bt_nn s 0; have b1 := bt_nn s 1; have b2 := bt_nn s 2
    clear hp
    by_cases h3 : s.length < 3
    · have g3 : decide ((s.length : Int) < 3) = true := decide_eq_true (by omega)
      clear hh h3
      go_wp2
      go_ret3
      exact ⟨.inl ⟨HP.out, rfl⟩, below_rf w⟩
    · have g3 : decide ((s.length : Int) < 3) = false := decide_eq_false (by omega)
      by_cases h0 : bt s 0 = 80
      · have g0 : (bt s 0 == 80) = true := beq_iff_eq.2 h0
        have g0' : (bt s 0 != 80) = false := by rw [bne, g0]; rfl
        by_cases h1 : 32 < bt s 1
        · have g1 : decide ((32 : Int) < bt s 1) = true := decide_eq_true h1
          clear hh h0 h1
          go_wp2
          go_ret3
          exact ⟨.inl ⟨HP.out, rfl⟩, below_rf w⟩
        · have g1 : decide ((32 : Int) < bt s 1) = false := decide_eq_false h1
          have h2 : 16 < bt s 2 := by
            rcases Int.lt_or_le 16 (bt s 2) with h | h
            · exact h
            · have : headOk s = true := by simp only [headOk, Bool.and_eq_true, decide_eq_true_eq]; exact ⟨⟨⟨by omega, h0⟩, by omega⟩, h⟩
              rw [this] at hh; cases hh
          have g2 : decide ((16 : Int) < bt s 2) = true := decide_eq_true h2
          clear hh h0 h1 h2
          go_wp2
          go_ret3
          exact ⟨.inl ⟨HP.out, rfl⟩, below_rf w⟩
      · have g0 : (bt s 0 == 80) = false := beq_eq_false_iff_ne.2 h0
        have g0' : (bt s 0 != 80) = true := by rw [bne, g0]; rfl
        clear hh h0
        go_wp2
        go_ret3
        exact ⟨.inl ⟨HP.out, rfl⟩, below_rf w⟩
  | true =>
    simp only [headOk, Bool.and_eq_true, decide_eq_true_eq] at hh
    obtain ⟨⟨⟨h3, h0⟩, h1⟩, h2⟩ := hh
    have g0 : (bt s 0 == 80) = true := beq_iff_eq.2 h0
    have g0' : (bt s 0 != 80) = false := by rw [bne, g0]; rfl
    have g1 : decide ((32 : Int) < bt s 1) = false := decide_eq_false (by omega)
    have g2 : decide ((16 : Int) < bt s 2) = false := decide_eq_false (by omega)
    have g3 : decide ((s.length : Int) < 3) = false := decide_eq_false (by omega)
    obtain ⟨lv, hlv⟩ : ∃ lv, lv = (bat s 1).toNat := ⟨_, rfl⟩
    obtain ⟨N, hN⟩ : ∃ N, N = (bat s 2).toNat := ⟨_, rfl⟩
    have e1 : bt s 1 = (lv : Int) := by rw [hlv]; rfl
    have e2 : bt s 2 = (N : Int) := by rw [hN]; rfl
    have hlv2 : lv ≤ 32 := by omega
    have hN2 : N ≤ 16 := by omega
    have HH := hid (show PHead s lv N from ⟨h3, h0, e1, e2, hlv2, hN2, by
      unfold parseS headOk
      rw [if_pos (by simp only [Bool.and_eq_true, decide_eq_true_eq]; exact ⟨⟨⟨h3, h0⟩, h1⟩, h2⟩), ← hlv, ← hN]
      rcases parseGo lv N (s.drop 3) with _ | ⟨l, r⟩ <;> rfl⟩)
    rw [e1] at h1 g1
    rw [e2] at h2 g2
    have wl : IntKind.i64.wrap (lv : Int) = (lv : Int) := wrap_i _ (by omega) (by omega)
    have wn : IntKind.i64.wrap (N : Int) = (N : Int) := wrap_i _ (by omega) (by omega)
    have hs3 : (s.drop 3).length ≤ 1000000000 := by rw [List.length_drop]; omega
    clear h0 hlv hN
    go_wp2
    go_loopw [7, 8, 9] (fun rs v i wr => ∃ (k : Nat) (acc : List Itm) (r : List UInt8), k ≤ N ∧ i = .int .i64 (k : Int) ∧ rs = .string (Str r) ∧ r.length ≤ 1000000000 ∧ acc.length = k ∧ Hid (parseGo lv N (s.drop 3) = (match parseGo lv (N - k) r with | none => none | some (l, r') => some (acc ++ l, r'))) ∧ Hid (rightS acc = true) ∧ wr.ownsRow w.heap.size 27 2 v acc.length (its acc) ∧ Hid (Below w.heap.size w wr)) (fun _ _ i _ => N - (intOf i).toNat)
    case atStart => exact ⟨0, [], s.drop 3, by omega, rfl, rfl, hs3, rfl, hid (by rw [Nat.sub_zero]; cases parseGo lv N (s.drop 3) with | none => rfl | some q => rfl), hid rfl, own_nil _ _ _ _, hid (below_rf w)⟩
    case round =>
      obtain ⟨k, acc, r, hk, rfl, rfl, hrl, hal, HG, HRI, hown, HB⟩ := hrel
      have HAL := hid hal
      have hacc : acc.length ≤ 16 := by omega
      by_cases hlt : k < N
      · obtain ⟨A0, c0, rfl⟩ := own_succ hown
        obtain ⟨w1, hw1⟩ : ∃ w1, w1 = wr.alloc (Obj.cells #[Value.string (Str []), Value.string (Str [])] 47) := ⟨_, rfl⟩
        have hb1 : Below wr.heap.size wr w1 := by rw [hw1]; exact below_al (below_rf wr) _
        have hx1 : w1.heap[wr.heap.size]? = some (Obj.cells #[Value.string (Str []), Value.string (Str [])] 47 (0, 0)) := by rw [hw1]; exact heap_new _ _
        have hne : (Value.slice A0 acc.length c0).ownBlock ≠ some wr.heap.size := fun e => by
          have := own_lt hown wr.heap.size e
          omega
        have HNE := hid hne
        have HX1 := hid hx1
        have HB1 := hid (below_tr HB.out hb1)
        have HOWN1 := hid (own_of_below hown hb1)
        have HSZ := hid (HB.out.size)
        have hstep : parseGo lv (N - k) r = (match fieldS r with
            | none => none
            | some (a, r1) => match fieldS r1 with
              | none => none
              | some (b, r2) => if okVal lv b = true then (match parseGo lv (N - (k + 1)) r2 with | none => none | some (l, r3) => some ((a, b) :: l, r3)) else none) := by
          rw [show N - k = (N - (k + 1)) + 1 by omega]; rfl
        have HST := hid hstep
        have HRL := hid hrl
        rw [Str_nil] at hw1
        have HGG := hid HG.out
        clear hstep hown hb1 hx1 hne hal HG
        go_wp2
        rw [← hw1]
        clear hw1
        obtain ⟨wo, rfl⟩ : ∃ wo, wo = wr := ⟨_, rfl⟩
        go_loopw [7, 11] (fun rs2 i2 wi => ∃ (k2 : Nat) (r2 a b : List UInt8), k2 ≤ 2 ∧ i2 = .int .i64 (k2 : Int) ∧ rs2 = .string (Str r2) ∧ r2.length ≤ 1000000000 ∧ a.length ≤ 1000000000 ∧ b.length ≤ 1000000000 ∧ Hid (FldsAt r k2 r2 a b) ∧ Hid (wi.heap[wo.heap.size]? = some (Obj.cells #[.string (Str a), .string (Str b)] 47 (0, 0))) ∧ Hid (wi.ownsRow w.heap.size 27 2 (.slice A0 acc.length c0) acc.length (its acc)) ∧ Hid (Below w.heap.size w wi)) (fun _ i2 _ => 2 - (intOf i2).toNat)
        case atStart => exact ⟨0, r, [], [], by omega, rfl, rfl, HRL.out, by simp, by simp, hid (flds_0 r), HX1, HOWN1, HB1⟩
        case round =>
          obtain ⟨k2, r2, a, b, hk2, rfl, rfl, hr2, hal2, hbl2, HFL, HX, HOW, HB2⟩ := hrel
          have b0 := bt_nn r2 0
          have b1 := bt_nn r2 1
          have b2 := bt_lt r2 0
          have b3 := bt_lt r2 1
          by_cases hlt2 : k2 < 2
          · by_cases hl2 : r2.length < 2
            · have g1 : decide ((r2.length : Int) < 2) = true := decide_eq_true (by omega)
              have hf : fieldS r2 = none := by unfold fieldS; rw [if_pos hl2]
              have HN : Hid (parseS s = none) := hid (by rw [HH.out.says, HGG.out, HST.out, flds_none _ HFL.out hlt2 hf])
              clear hf hl2
              go_wp2
              go_ret3
              exact ⟨.inl ⟨HN.out, rfl⟩, HB2.out⟩
            · have g1 : decide ((r2.length : Int) < 2) = false := decide_eq_false (by omega)
              obtain ⟨n, hn⟩ : ∃ n, n = n2 r2 := ⟨_, rfl⟩
              have hnb : bt r2 0 * 256 + bt r2 1 = (n : Int) := by rw [hn, bt_bat, bt_bat]; unfold n2; omega
              have hn1 : n < 65536 := by omega
              have v0 : IntKind.i64.wrap (bt r2 0) = bt r2 0 := wrap_i _ (by omega) (by omega)
              have v1 : IntKind.i64.wrap (bt r2 1) = bt r2 1 := wrap_i _ (by omega) (by omega)
              have v2 : IntKind.i64.wrap (bt r2 0 * 256) = bt r2 0 * 256 := wrap_i _ (by omega) (by omega)
              have v3 : IntKind.i64.wrap (bt r2 0 * 256 + bt r2 1) = (n : Int) := by rw [hnb]; exact wrap_i _ (by omega) (by omega)
              have v4 : IntKind.i64.wrap (2 + (n : Int)) = 2 + (n : Int) := wrap_i _ (by omega) (by omega)
              by_cases hl3 : r2.length - 2 < n
              · have g2 : decide ((r2.length : Int) < 2 + (n : Int)) = true := decide_eq_true (by omega)
                have hf : fieldS r2 = none := by unfold fieldS; rw [if_neg hl2, ← hn, if_pos hl3]
                have HN : Hid (parseS s = none) := hid (by rw [HH.out.says, HGG.out, HST.out, flds_none _ HFL.out hlt2 hf])
                have hl2' : 2 ≤ r2.length := by omega
                clear hf hl2 hl3 hn hnb
                go_wp2
                go_quiet (fail)
                go_wp2
                go_ret3
                exact ⟨.inl ⟨HN.out, rfl⟩, below_drewN HB2.out _⟩
              · have g2 : decide ((r2.length : Int) < 2 + (n : Int)) = false := decide_eq_false (by omega)
                have hf : fieldS r2 = some ((r2.drop 2).take n, (r2.drop 2).drop n) := by unfold fieldS; rw [if_neg hl2, ← hn, if_neg hl3]
                have HF := hid hf
                have hl2' : 2 ≤ r2.length := by omega
                have hl3' : 2 + n ≤ r2.length := by omega
                clear hf hl2 hl3 hn hnb
                rcases (by omega : k2 = 0 ∨ k2 = 1) with rfl | rfl
                · obtain ⟨rfl, rfl, rfl⟩ := flds_at0 HFL.out
                  have q0 : wr.cell? ⟨wo.heap.size, 0, none⟩ = some (.string (Str [])) := by rw [Go.Lib.cell_of_heap HX.out]; rfl
                  have q1 : wr.frozen? ⟨wo.heap.size, 0, none⟩ = false := Go.Lib.frozen_of_heap HX.out 0
                  go_wp2
                  go_quiet (fail)
                  go_wp2
                  go_roundw
                  case rel => exact ⟨1, r2.drop (2 + n), (r2.drop 2).take n, [], by omega, rfl, rfl, by rw [List.length_drop]; omega, by rw [List.length_take, List.length_drop]; omega, by simp, hid (flds_1 (by rw [HF.out, List.drop_drop])), hid (heap_setCell_same (wr.drewN nq) wo.heap.size 0 _ _ _ HX.out), hid (own_setCell (show (wr.drewN nq).ownsRow _ _ _ _ _ _ from HOW.out) ⟨wo.heap.size, 0, none⟩ _ HNE.out), hid ((below_drewN HB2.out nq).setCell (p := ⟨wo.heap.size, 0, none⟩) HSZ.out _)⟩
                  case measure => simp [intOf]
                · obtain ⟨hf1, rfl⟩ := flds_at1 HFL.out
                  have HF1 := hid hf1
                  clear hf1
                  have q0 : wr.cell? ⟨wo.heap.size, 1, none⟩ = some (.string (Str [])) := by rw [Go.Lib.cell_of_heap HX.out]; rfl
                  have q1 : wr.frozen? ⟨wo.heap.size, 1, none⟩ = false := Go.Lib.frozen_of_heap HX.out 1
                  go_wp2
                  go_quiet (fail)
                  go_wp2
                  go_roundw
                  case rel => exact ⟨2, r2.drop (2 + n), a, (r2.drop 2).take n, by omega, rfl, rfl, by rw [List.length_drop]; omega, hal2, by rw [List.length_take, List.length_drop]; omega, hid (flds_2 HF1.out (by rw [HF.out, List.drop_drop])), hid (heap_setCell_same (wr.drewN nq) wo.heap.size 1 _ _ _ HX.out), hid (own_setCell (show (wr.drewN nq).ownsRow _ _ _ _ _ _ from HOW.out) ⟨wo.heap.size, 1, none⟩ _ HNE.out), hid ((below_drewN HB2.out nq).setCell (p := ⟨wo.heap.size, 1, none⟩) HSZ.out _)⟩
                  case measure => simp [intOf]
          · obtain rfl : k2 = 2 := by omega
            have hst2 : parseGo lv (N - k) r = (if okVal lv b = true then (match parseGo lv (N - (k + 1)) r2 with | none => none | some (l, r3) => some ((a, b) :: l, r3)) else none) := by rw [HST.out, flds_two _ HFL.out]
            have hgo : okVal lv b = true → parseGo lv N (s.drop 3) = (match parseGo lv (N - (k + 1)) r2 with | none => none | some (l, r') => some (acc ++ [(a, b)] ++ l, r')) := by
              intro h
              rw [HGG.out, hst2, if_pos h]
              cases parseGo lv (N - (k + 1)) r2 with
              | none => rfl
              | some q => obtain ⟨l, r3⟩ := q; simp
            have hno : okVal lv b = false → parseS s = none := by
              intro h
              rw [HH.out.says, HGG.out, hst2, if_neg (by rw [h]; decide)]
            have hbad : rightS (acc ++ [(a, b)]) = false → parseS s = none := by
              intro h
              cases ho : okVal lv b with
              | false => exact hno ho
              | true => exact parse_bad HH.out _ h (fun l r' hg => by
                  rw [hgo ho] at hg
                  cases hq : parseGo lv (N - (k + 1)) r2 with
                  | none => rw [hq] at hg; cases hg
                  | some q => rw [hq] at hg; injection hg with hg; injection hg with hg1 hg2; exact ⟨q.1, hg1.symm⟩)
            have HGO := hid hgo
            have HNO := hid hno
            have HBAD := hid hbad
            have HRS : Hid (rightS (acc ++ [(a, b)]) = (!badS (a, b) && (acc.isEmpty || ltS (lastS acc) a))) := hid (by rw [right_snoc, HRI.out, Bool.true_and])
            have p0 : wr.cell? ⟨wo.heap.size, 0, none⟩ = some (.string (Str a)) := by rw [Go.Lib.cell_of_heap HX.out]; rfl
            have p1 : wr.cell? ⟨wo.heap.size, 1, none⟩ = some (.string (Str b)) := by rw [Go.Lib.cell_of_heap HX.out]; rfl
            obtain ⟨w5, hw5⟩ : ∃ w5, w5 = wr.alloc (Obj.cells #[.string (Str a), .string (Str b)] 27) := ⟨_, rfl⟩
            have hb5 : Below wr.heap.size wr w5 := by rw [hw5]; exact below_al (below_rf wr) _
            have hy5 : w5.heap[wr.heap.size]? = some (Obj.cells #[.string (Str a), .string (Str b)] 27 (0, 0)) := by rw [hw5]; exact heap_new _ _
            have y0 : w5.cell? ⟨wr.heap.size, 0, none⟩ = some (.string (Str a)) := by rw [Go.Lib.cell_of_heap hy5]; rfl
            have y1 : w5.cell? ⟨wr.heap.size, 1, none⟩ = some (.string (Str b)) := by rw [Go.Lib.cell_of_heap hy5]; rfl
            have HB5 := hid (below_tr HB2.out hb5)
            have HOW5 := hid (own_of_below HOW.out hb5)
            have HZ5 : Hid (wr.heap.size < w5.heap.size) := hid (by rw [hw5]; simp)
            clear hst2 hgo hno hbad hb5 hy5
            go_wp2
            rw [← hw5]
            clear hw5
            by_cases c1 : 2000 < a.length
            · have g4 : decide ((2000 : Int) < (a.length : Int)) = true := decide_eq_true (by omega)
              have HN : Hid (parseS s = none) := hid (HBAD.out (by rw [HRS.out, show badS (a, b) = true by unfold badS; rw [decide_eq_true (show 2000 < (a, b).1.length from c1)]; rfl]; rfl))
              clear c1
              go_quiet (fail)
              go_wp2
              go_ret3
              exact ⟨.inl ⟨HN.out, rfl⟩, below_drewN HB5.out _⟩
            · have g4 : decide ((2000 : Int) < (a.length : Int)) = false := decide_eq_false (by omega)
              by_cases c2 : 8000 < b.length
              · have g5 : decide ((8000 : Int) < (b.length : Int)) = true := decide_eq_true (by omega)
                have HN : Hid (parseS s = none) := hid (HBAD.out (by rw [HRS.out, show badS (a, b) = true by unfold badS; rw [decide_eq_true (show 8000 < (a, b).2.length from c2), Bool.or_true]]; rfl))
                clear c1 c2
                go_quiet (fail)
                go_wp2
                go_ret3
                exact ⟨.inl ⟨HN.out, rfl⟩, below_drewN HB5.out _⟩
              · have g5 : decide ((8000 : Int) < (b.length : Int)) = false := decide_eq_false (by omega)
                have hnb : badS (a, b) = false := by unfold badS; rw [decide_eq_false (show ¬ 2000 < (a, b).1.length from c1), decide_eq_false (show ¬ 8000 < (a, b).2.length from c2)]; rfl
                have HRS2 : Hid (rightS (acc ++ [(a, b)]) = (acc.isEmpty || ltS (lastS acc) a)) := hid (by rw [HRS.out, hnb]; rfl)
                clear c1 c2 hnb HRS
                by_cases c3 : 0 < acc.length
                · have g6 : decide ((0 : Int) < (acc.length : Int)) = true := decide_eq_true (by omega)
                  have g6n : decide (0 < acc.length) = true := decide_eq_true c3
                  have hwl : IntKind.i64.wrap ((acc.length : Int) - 1) = (acc.length : Int) - 1 := by rw [IntKind.wrap_i64]; omega
                  have hnn : ((acc.length : Int) - 1).toNat = acc.length - 1 := by omega
                  have hn0 : (0 : Int) ≤ (acc.length : Int) - 1 := by omega
                  have hn1 : (acc.length : Int) - 1 < (acc.length : Int) := by omega
                  obtain ⟨bx, ox, rfl, hcx, _⟩ := rd_itm (rd_own HOW5.out) (j := acc.length - 1) (by omega)
                  have hls := lastS_itm acc c3
                  obtain ⟨lk, hlk⟩ : ∃ lk, lk = (itm acc (acc.length - 1)).1 := ⟨_, rfl⟩
                  rw [← hlk] at hcx hls
                  have hem : acc.isEmpty = false := by cases acc with | nil => simp at c3 | cons _ _ => rfl
                  have HRS3 : Hid (rightS (acc ++ [(a, b)]) = ltS lk a) := hid (by rw [HRS2.out, hem, hls]; rfl)
                  clear hls hlk hem HRS2 c3
                  cases hlt9 : ltS lk a with
                  | false =>
                    have HN : Hid (parseS s = none) := hid (HBAD.out (by rw [HRS3.out, hlt9]))
                    have hlt8 : Op.bytesLess lk a = false := hlt9
                    clear hlt9
                    go_quiet (fail)
                    go_wp2
                    go_ret3
                    exact ⟨.inl ⟨HN.out, rfl⟩, below_drewN HB5.out _⟩
                  | true =>
                    have HRN : Hid (rightS (acc ++ [(a, b)]) = true) := hid (by rw [HRS3.out, hlt9])
                    have hlt8 : Op.bytesLess lk a = true := hlt9
                    clear hlt9
                    go_quiet (fail)
                    have HOWN : Hid ((w5.drewN nq).ownsRow w.heap.size 27 2 (.slice (some ⟨bx, ox, none⟩) acc.length c0) acc.length (its acc)) := hid (show w5.ownsRow _ _ _ _ _ _ from HOW5.out)
                    have HBN : Hid (Below w.heap.size w (w5.drewN nq)) := hid (below_drewN HB5.out nq)
                    clear hwl hnn hn0 hn1
                    by_cases hl0 : lv = 0
                    · have hz : decide ((0 : Int) < (lv : Int)) = false := decide_eq_false (by omega)
                      have hz2 : decide (0 < lv) = false := decide_eq_false (by omega)
                      have hov : okVal lv b = true := by unfold okVal; rw [decide_eq_true hl0]; rfl
                      have HG2 := hid (HGO.out hov)
                      clear hov hl0
                      go_wp2_with (at_builtin; (refine wpList_appN ti_ritem (.tmp 129) (.tmp 131) (by rfl) (by rfl) w.heap.size [.string (Str a), .string (Str b)] 27 1 1 (by rfl) (by rfl) HOWN.out (by rfl) (by simp [Value.oneCell']) HBN.out HBN.out.size (by omega) ?_; intro A7 c7 w7 ho7 hg7 hB7 hs7))
                      go_wp2
                      go_roundw
                      case rel => exact ⟨k + 1, acc ++ [(a, b)], r2, by omega, by go_num, rfl, hr2, by have := HAL.out; simp; omega, HG2, HRN, by rw [its_app, List.length_append]; exact ho7, hid hB7⟩
                      case measure => simp [intOf]; omega
                    · have hz : decide ((0 : Int) < (lv : Int)) = true := decide_eq_true (by omega)
                      have hz2 : decide (0 < lv) = true := decide_eq_true (by omega)
                      have hov : okVal lv b = (decide (b.length = 40) && decide (1 ≤ told b) && decide (told b ≤ 1099511627776)) := by unfold okVal; rw [decide_eq_false hl0]; rfl
                      by_cases h40 : b.length = 40
                      · rw [decide_eq_true h40] at hov
                        have h40b : ((b.length : Int) == 40) = true := beq_iff_eq.2 (by omega)
                        have h40c : ((b.length : Int) != 40) = false := by rw [bne, h40b]; rfl
                        have h40d : 32 ≤ b.length := by omega
                        have h40e : (32 : Int) ≤ (b.length : Int) := by omega
                        have HCN := hid (fun W => count_any b W h40)
                        have hca : capT b = if told b ≤ 1099511627776 then told b else 1099511627777 := rfl
                        obtain ⟨t, ht⟩ : ∃ t, t = told b := ⟨_, rfl⟩
                        obtain ⟨q, hq⟩ : ∃ q, q = capT b := ⟨_, rfl⟩
                        rw [← ht] at hov hca
                        rw [← hq] at hca HCN
                        have HCA := hid hca
                        clear h40 ht hl0 hq hca
                        go_wp2_with fail
                        (with_reducible refine (HCN.out _).mono ?_); rintro e w9 ⟨rfl, rfl⟩
                        by_cases ht1 : 1 ≤ t
                        · have hq1 : 1 ≤ q := by rw [HCA.out]; split <;> omega
                          have g7 : decide ((q : Int) < 1) = false := decide_eq_false (by omega)
                          have g7n : decide (q < 1) = false := decide_eq_false (by omega)
                          go_wp2_with fail
                          (with_reducible refine (HCN.out _).mono ?_); rintro e w9 ⟨rfl, rfl⟩
                          by_cases ht2 : t ≤ 1099511627776
                          · have g8 : decide ((1099511627776 : Int) < (q : Int)) = false := decide_eq_false (by rw [HCA.out, if_pos ht2]; omega)
                            rw [decide_eq_true ht1, decide_eq_true ht2] at hov
                            have HG2 := hid (HGO.out hov)
                            clear hov ht1 ht2 hq1
                            go_wp2_with (at_builtin; (refine wpList_appN ti_ritem (.tmp 129) (.tmp 131) (by rfl) (by rfl) w.heap.size [.string (Str a), .string (Str b)] 27 1 1 (by rfl) (by rfl) HOWN.out (by rfl) (by simp [Value.oneCell']) HBN.out HBN.out.size (by omega) ?_; intro A7 c7 w7 ho7 hg7 hB7 hs7))
                            go_wp2
                            go_roundw
                            case rel => exact ⟨k + 1, acc ++ [(a, b)], r2, by omega, by go_num, rfl, hr2, by have := HAL.out; simp; omega, HG2, HRN, by rw [its_app, List.length_append]; exact ho7, hid hB7⟩
                            case measure => simp [intOf]; omega
                          · have g8 : decide ((1099511627776 : Int) < (q : Int)) = true := decide_eq_true (by rw [HCA.out, if_neg ht2]; omega)
                            have HN := hid (HNO.out (by rw [hov, decide_eq_false ht2, Bool.and_false]))
                            clear hov ht1 ht2 hq1
                            go_wp2
                            go_ret3
                            exact ⟨.inl ⟨HN.out, rfl⟩, HBN.out⟩
                        · have hq1 : q = 0 := by rw [HCA.out, if_pos (by omega)]; omega
                          have g7 : decide ((q : Int) < 1) = true := decide_eq_true (by omega)
                          have g7n : decide (q < 1) = true := decide_eq_true (by omega)
                          have HN := hid (HNO.out (by rw [hov, decide_eq_false ht1, Bool.and_false, Bool.false_and]))
                          clear hov ht1 hq1
                          go_wp2
                          go_ret3
                          exact ⟨.inl ⟨HN.out, rfl⟩, HBN.out⟩
                      · rw [decide_eq_false h40] at hov
                        have h40b : ((b.length : Int) == 40) = false := beq_eq_false_iff_ne.2 (by omega)
                        have h40c : ((b.length : Int) != 40) = true := by rw [bne, h40b]; rfl
                        have HN := hid (HNO.out (by rw [hov]; rfl))
                        clear hov h40 hl0
                        go_wp2
                        go_ret3
                        exact ⟨.inl ⟨HN.out, rfl⟩, HBN.out⟩
                · have g6 : decide ((0 : Int) < (acc.length : Int)) = false := decide_eq_false (by omega)
                  have g6n : decide (0 < acc.length) = false := decide_eq_false c3
                  have he0 : acc = [] := List.eq_nil_of_length_eq_zero (by omega)
                  have HRN : Hid (rightS (acc ++ [(a, b)]) = true) := hid (by rw [HRS2.out, he0]; rfl)
                  clear he0 c3 HRS2
                  go_quiet (fail)
                  have HOWN : Hid ((w5.drewN nq).ownsRow w.heap.size 27 2 (.slice A0 acc.length c0) acc.length (its acc)) := hid (show w5.ownsRow _ _ _ _ _ _ from HOW5.out)
                  have HBN : Hid (Below w.heap.size w (w5.drewN nq)) := hid (below_drewN HB5.out nq)
                  by_cases hl0 : lv = 0
                  · have hz : decide ((0 : Int) < (lv : Int)) = false := decide_eq_false (by omega)
                    have hz2 : decide (0 < lv) = false := decide_eq_false (by omega)
                    have hov : okVal lv b = true := by unfold okVal; rw [decide_eq_true hl0]; rfl
                    have HG2 := hid (HGO.out hov)
                    clear hov hl0
                    go_wp2_with (at_builtin; (refine wpList_appN ti_ritem (.tmp 129) (.tmp 131) (by rfl) (by rfl) w.heap.size [.string (Str a), .string (Str b)] 27 1 1 (by rfl) (by rfl) HOWN.out (by rfl) (by simp [Value.oneCell']) HBN.out HBN.out.size (by omega) ?_; intro A7 c7 w7 ho7 hg7 hB7 hs7))
                    go_wp2
                    go_roundw
                    case rel => exact ⟨k + 1, acc ++ [(a, b)], r2, by omega, by go_num, rfl, hr2, by have := HAL.out; simp; omega, HG2, HRN, by rw [its_app, List.length_append]; exact ho7, hid hB7⟩
                    case measure => simp [intOf]; omega
                  · have hz : decide ((0 : Int) < (lv : Int)) = true := decide_eq_true (by omega)
                    have hz2 : decide (0 < lv) = true := decide_eq_true (by omega)
                    have hov : okVal lv b = (decide (b.length = 40) && decide (1 ≤ told b) && decide (told b ≤ 1099511627776)) := by unfold okVal; rw [decide_eq_false hl0]; rfl
                    by_cases h40 : b.length = 40
                    · rw [decide_eq_true h40] at hov
                      have h40b : ((b.length : Int) == 40) = true := beq_iff_eq.2 (by omega)
                      have h40c : ((b.length : Int) != 40) = false := by rw [bne, h40b]; rfl
                      have h40d : 32 ≤ b.length := by omega
                      have h40e : (32 : Int) ≤ (b.length : Int) := by omega
                      have HCN := hid (fun W => count_any b W h40)
                      have hca : capT b = if told b ≤ 1099511627776 then told b else 1099511627777 := rfl
                      obtain ⟨t, ht⟩ : ∃ t, t = told b := ⟨_, rfl⟩
                      obtain ⟨q, hq⟩ : ∃ q, q = capT b := ⟨_, rfl⟩
                      rw [← ht] at hov hca
                      rw [← hq] at hca HCN
                      have HCA := hid hca
                      clear h40 ht hl0 hq hca
                      go_wp2_with fail
                      (with_reducible refine (HCN.out _).mono ?_); rintro e w9 ⟨rfl, rfl⟩
                      by_cases ht1 : 1 ≤ t
                      · have hq1 : 1 ≤ q := by rw [HCA.out]; split <;> omega
                        have g7 : decide ((q : Int) < 1) = false := decide_eq_false (by omega)
                        have g7n : decide (q < 1) = false := decide_eq_false (by omega)
                        go_wp2_with fail
                        (with_reducible refine (HCN.out _).mono ?_); rintro e w9 ⟨rfl, rfl⟩
                        by_cases ht2 : t ≤ 1099511627776
                        · have g8 : decide ((1099511627776 : Int) < (q : Int)) = false := decide_eq_false (by rw [HCA.out, if_pos ht2]; omega)
                          rw [decide_eq_true ht1, decide_eq_true ht2] at hov
                          have HG2 := hid (HGO.out hov)
                          clear hov ht1 ht2 hq1
                          go_wp2_with (at_builtin; (refine wpList_appN ti_ritem (.tmp 129) (.tmp 131) (by rfl) (by rfl) w.heap.size [.string (Str a), .string (Str b)] 27 1 1 (by rfl) (by rfl) HOWN.out (by rfl) (by simp [Value.oneCell']) HBN.out HBN.out.size (by omega) ?_; intro A7 c7 w7 ho7 hg7 hB7 hs7))
                          go_wp2
                          go_roundw
                          case rel => exact ⟨k + 1, acc ++ [(a, b)], r2, by omega, by go_num, rfl, hr2, by have := HAL.out; simp; omega, HG2, HRN, by rw [its_app, List.length_append]; exact ho7, hid hB7⟩
                          case measure => simp [intOf]; omega
                        · have g8 : decide ((1099511627776 : Int) < (q : Int)) = true := decide_eq_true (by rw [HCA.out, if_neg ht2]; omega)
                          have HN := hid (HNO.out (by rw [hov, decide_eq_false ht2, Bool.and_false]))
                          clear hov ht1 ht2 hq1
                          go_wp2
                          go_ret3
                          exact ⟨.inl ⟨HN.out, rfl⟩, HBN.out⟩
                      · have hq1 : q = 0 := by rw [HCA.out, if_pos (by omega)]; omega
                        have g7 : decide ((q : Int) < 1) = true := decide_eq_true (by omega)
                        have g7n : decide (q < 1) = true := decide_eq_true (by omega)
                        have HN := hid (HNO.out (by rw [hov, decide_eq_false ht1, Bool.and_false, Bool.false_and]))
                        clear hov ht1 hq1
                        go_wp2
                        go_ret3
                        exact ⟨.inl ⟨HN.out, rfl⟩, HBN.out⟩
                    · rw [decide_eq_false h40] at hov
                      have h40b : ((b.length : Int) == 40) = false := beq_eq_false_iff_ne.2 (by omega)
                      have h40c : ((b.length : Int) != 40) = true := by rw [bne, h40b]; rfl
                      have HN := hid (HNO.out (by rw [hov]; rfl))
                      clear hov h40 hl0
                      go_wp2
                      go_ret3
                      exact ⟨.inl ⟨HN.out, rfl⟩, HBN.out⟩
      · obtain rfl : k = N := by omega
        have hg := HG.out
        rw [Nat.sub_self] at hg
        have hps : parseS s = (if r = [] ∧ ¬ (0 < lv ∧ acc.length = 0) then some (lv, acc) else none) := by
          rw [HH.out.says, hg]
          simp [parseGo, HRI.out]
        have HPS := hid hps
        have HOWN := hid hown
        clear hg hps hown
        by_cases hr : r = []
        · have hrb : (r != []) = false := by rw [hr]; rfl
          have HR := hid hr
          by_cases hz : 0 < lv
          · have g4 : decide ((0 : Int) < (lv : Int)) = true := decide_eq_true (by omega)
            have g5 : decide (0 < lv) = true := decide_eq_true hz
            by_cases hk0 : acc.length = 0
            · have g6 : ((k : Int) == 0) = true := beq_iff_eq.2 (by omega)
              have HN : Hid (parseS s = none) := hid (by rw [HPS.out, if_neg (fun h => h.2 ⟨hz, hk0⟩)])
              clear hr hk0 hz hal
              go_wp2
              go_ret3
              exact ⟨.inl ⟨HN.out, rfl⟩, HB.out⟩
            · have g6 : ((k : Int) == 0) = false := beq_eq_false_iff_ne.2 (by omega)
              have HN : Hid (parseS s = some (lv, acc)) := hid (by rw [HPS.out, if_pos ⟨hr, fun h => hk0 h.2⟩])
              clear hr hk0 hz hal
              go_wp2
              go_ret3
              exact ⟨.inr ⟨lv, acc, _, HN.out, rfl, HOWN.out⟩, HB.out⟩
          · have g4 : decide ((0 : Int) < (lv : Int)) = false := decide_eq_false (by omega)
            have g5 : decide (0 < lv) = false := decide_eq_false hz
            have HN : Hid (parseS s = some (lv, acc)) := hid (by rw [HPS.out, if_pos ⟨hr, fun h => hz h.1⟩])
            clear hr hz hal
            go_wp2
            go_ret3
            exact ⟨.inr ⟨lv, acc, _, HN.out, rfl, HOWN.out⟩, HB.out⟩
        · have hrb : (r == []) = false := beq_eq_false_iff_ne.2 hr
          have HN : Hid (parseS s = none) := hid (by rw [HPS.out, if_neg (fun h => hr h.1)])
          clear hr hal
          go_wp2
          go_ret3
          exact ⟨.inl ⟨HN.out, rfl⟩, HB.out⟩
end Go.Proofs.Yteeonfnaikndfaa.P08
namespace Go.Proofs.Yteeonfnaikndfaa.P08
open Go Go.RowKit Go.Proofs.Yteeonfnaikndfaa Go.Proofs.Yteeonfnaikndfaa.Lib Go.Proofs.Yteeonfnaikndfaa.Sha Go.Proofs.Yteeonfnaikndfaa.T07 Go.Proofs.Yteeonfnaikndfaa.T08 Go.Proofs.Yteeonfnaikndfaa.Itms Go.Proofs.Yteeonfnaikndfaa.WSeq Go.Proofs.Yteeonfnaikndfaa.Ord Go.Proofs.Yteeonfnaikndfaa.W08 Go.Proofs.Yteeonfnaikndfaa.W01 Go.Proofs.Yteeonfnaikndfaa.Inj Go.Proofs.Yteeonfnaikndfaa.Tree Go.Proofs.Yteeonfnaikndfaa.Bld Go.Proofs.Yteeonfnaikndfaa.QTail
attribute [local go_sem] Str_size Str_toList Str_extract take_rest
/-- a node, or none, as three answers -/
def RootAt (B : Nat) (k : Int) (A : Option Addr) (n c : Nat) (ok : Bool) (r : Option (Nat × List Itm)) (W : World) : Prop :=
  if ok = true then ∃ (lv : Nat) (l : List Itm), r = some (lv, l) ∧ k = (lv : Int) ∧ n = l.length ∧ W.ownsRow B 27 2 (.slice A l.length c) l.length (its l) else r = none ∧ k = 0 ∧ A = none ∧ n = 0 ∧ c = 0
theorem rootAt_base {B B' : Nat} {k : Int} {A : Option Addr} {n c : Nat} {ok : Bool} {r : Option (Nat × List Itm)} {W : World} (h : RootAt B k A n c ok r W) (hb : B' ≤ B) : RootAt B' k A n c ok r W := by
  unfold RootAt at h ⊢
  cases ok with
  | false => rw [if_neg (by decide)] at h ⊢; exact h
  | true =>
    rw [if_pos rfl] at h ⊢
    obtain ⟨lv, l, h1, h2, h3, h4⟩ := h
    exact ⟨lv, l, h1, h2, h3, own_base h4 hb⟩
theorem parse_gen (s : List UInt8) (w : World) (hs : s.length ≤ 1000000000) :
    Calls Try.prog 41 #[.string (Str s)] w fun e w' => (∃ k A n c ok, e = .returned (.tuple #[.int .i64 k, .slice A n c, .bool ok]) ∧ RootAt w.heap.size k A n c ok (parseS s) w') ∧ Below w.heap.size w w' := by
  refine (parse_ref_any s w hs).mono ?_
  rintro e w' ⟨ho, hB⟩
  refine ⟨?_, hB⟩
  rcases ho with ⟨hn, rfl⟩ | ⟨lv, l, v, hp, rfl, hown⟩
  · exact ⟨0, none, 0, 0, false, rfl, by unfold RootAt; rw [if_neg (by decide)]; exact ⟨hn, rfl, rfl, rfl, rfl⟩⟩
  · obtain ⟨A, c, rfl⟩ := own_succ hown
    exact ⟨(lv : Int), A, l.length, c, true, rfl, by unfold RootAt; rw [if_pos rfl]; exact ⟨lv, l, hp, rfl, rfl, hown⟩⟩
theorem get_short {ns : List (List UInt8)} {p s : List UInt8} (hs : ∀ s ∈ ns, s.length ≤ 1000000000) (h : getL ns p = some s) : s.length ≤ 1000000000 := hs s (List.mem_of_find?_eq_some h)
set_option maxRecDepth 100000 in
set_option maxHeartbeats 800000 in
theorem root_any (A : Option Addr) (c : Nat) (ns : List (List UInt8)) (p : List UInt8) (hn : ns.length ≤ 1000000) (hs : ∀ s ∈ ns, s.length ≤ 1000000000) (w : World) (hrd : Rd w A (strs ns)) :
    Calls Try.prog 68 #[.agg #[.slice A ns.length c], .string (Str p)] w fun e w' => (∃ k A' n' c' ok, e = .returned (.tuple #[.int .i64 k, .slice A' n' c', .bool ok]) ∧ RootAt w.heap.size k A' n' c' ok (atS (getL ns) p) w') ∧ Below w.heap.size w w' := by
  obtain ⟨w0, hw0⟩ : ∃ w0, w0 = w.alloc (Obj.cells #[.slice A ns.length c] 71) := ⟨_, rfl⟩
  have hb0 : Below w.heap.size w w0 := by rw [hw0]; exact below_al (below_rf w) _
  have hbx : w0.heap[w.heap.size]? = some (Obj.cells #[.slice A ns.length c] 71 (0, 0)) := by rw [hw0]; exact heap_new _ _
  have x0 : w0.cell? ⟨w.heap.size, 0, none⟩ = some (.slice A ns.length c) := by rw [Go.Lib.cell_of_heap hbx]; rfl
  have HG := hid (get_any A c ns p hn hs w0 (hrd.below hb0))
  have HB0 := hid hb0
  have hat : atS (getL ns) p = match getL ns p with | none => none | some s => parseS s := rfl
  have HAT := hid hat
  have hsh : ∀ s, getL ns p = some s → s.length ≤ 1000000000 := fun s h => get_short hs h
  have HSH := hid hsh
  clear hbx hb0 hat hrd hs hn hsh
  go_enter Try.func68, Try.ntmps68
  go_wp2_with fail
  rw [← hw0]
  clear hw0
  (with_reducible refine HG.out.mono ?_); rintro e w1 ⟨ho, hb1⟩
  have HB1 := hid (below_tr HB0.out hb1)
  cases hg : getL ns p with
  | none =>
    rw [hg] at ho
    obtain rfl : e = .returned (.tuple #[.string (Str []), .bool false]) := ho
    have HR : Hid (atS (getL ns) p = none) := hid (by rw [HAT.out, hg])
    clear hg hb1
    go_wp2
    go_ret3
    exact ⟨⟨0, none, 0, 0, false, rfl, by unfold RootAt; rw [if_neg (by decide)]; exact ⟨HR.out, rfl, rfl, rfl, rfl⟩⟩, HB1.out⟩
  | some s =>
    rw [hg] at ho
    obtain rfl : e = .returned (.tuple #[.string (Str s), .bool true]) := ho
    have HR : Hid (atS (getL ns) p = parseS s) := hid (by rw [HAT.out, hg])
    have HPG := hid (parse_gen s w1 (HSH.out s hg))
    clear hg hb1
    go_wp2_with fail
    (with_reducible refine HPG.out.mono ?_); rintro e w2 ⟨⟨k, A', n', c', ok, rfl, hat⟩, hb2⟩
    have HA := hid hat
    have HB2 := hid (below_tr HB1.out hb2)
    clear hat hb2
    go_wp2
    go_ret3
    exact ⟨⟨k, A', n', c', ok, rfl, by rw [HR.out]; exact rootAt_base HA.out HB1.out.size⟩, HB2.out⟩
/-- the node below, or none, as two answers -/
def BelAt (B : Nat) (A : Option Addr) (n c : Nat) (ok : Bool) (r : Option (Nat × List Itm)) (W : World) : Prop :=
  if ok = true then ∃ (lv : Nat) (l : List Itm), r = some (lv, l) ∧ n = l.length ∧ W.ownsRow B 27 2 (.slice A l.length c) l.length (its l) else r = none ∧ A = none ∧ n = 0 ∧ c = 0
theorem bel_at {f : Src} {lv : Nat} {x : Itm} : belowP f lv x = match atS f (x.2.take 32) with
    | none => none
    | some p => if standsP lv x p.1 p.2 = true then some p else none := rfl
theorem belAt_none {B : Nat} {r : Option (Nat × List Itm)} {W : World} (h : r = none) : BelAt B none 0 0 false r W := by
  unfold BelAt; rw [if_neg (by decide)]; exact ⟨h, rfl, rfl, rfl⟩
def BelPost (w : World) (r : Option (Nat × List Itm)) (e : Ending) (w' : World) : Prop :=
  (∃ A' n' c' ok, e = .returned (.tuple #[.slice A' n' c', .bool ok]) ∧ BelAt w.heap.size A' n' c' ok r w') ∧ Below w.heap.size w w'
theorem bel_no {w w' : World} {r : Option (Nat × List Itm)} (h : r = none) (hB : Below w.heap.size w w') : BelPost w r (.returned (.tuple #[.slice none 0 0, .bool false])) w' :=
  ⟨⟨none, 0, 0, false, rfl, belAt_none h⟩, hB⟩
set_option maxRecDepth 100000 in
set_option maxHeartbeats 1600000 in
theorem below_any (A : Option Addr) (c : Nat) (ns : List (List UInt8)) (lv : Nat) (x : Itm) (h1 : 1 ≤ lv) (h32 : lv ≤ 32) (hx : okVal lv x.2 = true) (hn : ns.length ≤ 1000000) (hs : ∀ s ∈ ns, s.length ≤ 1000000000) (w : World) (hrd : Rd w A (strs ns)) :
    Calls Try.prog 42 #[.agg #[.slice A ns.length c], .int .i64 (lv : Int), .agg #[.string (Str x.1), .string (Str x.2)]] w fun e w' => BelPost w (belowP (getL ns) lv x) e w' := by
  obtain ⟨w0, hw0⟩ : ∃ w0, w0 = (w.alloc (Obj.cells #[.slice A ns.length c] 71)).alloc (Obj.cells #[.string (Str x.1), .string (Str x.2)] 27) := ⟨_, rfl⟩
  have hb0 : Below w.heap.size w w0 := by rw [hw0]; exact below_al (below_al (below_rf w) _) _
  have z0 : w0.heap.size = w.heap.size + 2 := by rw [hw0]; simp
  have hbx : w0.heap[w.heap.size]? = some (Obj.cells #[.slice A ns.length c] 71 (0, 0)) := by rw [hw0, heap_old _ _ (by simp)]; exact heap_new _ _
  have hby : w0.heap[w.heap.size + 1]? = some (Obj.cells #[.string (Str x.1), .string (Str x.2)] 27 (0, 0)) := by rw [hw0]; exact heap_new' _ _ (by simp)
  have x0 : w0.cell? ⟨w.heap.size, 0, none⟩ = some (.slice A ns.length c) := by rw [Go.Lib.cell_of_heap hbx]; rfl
  have x1 : w0.cell? ⟨w.heap.size + 1, 0, none⟩ = some (.string (Str x.1)) := by rw [Go.Lib.cell_of_heap hby]; rfl
  have x2 : w0.cell? ⟨w.heap.size + 1, 1, none⟩ = some (.string (Str x.2)) := by rw [Go.Lib.cell_of_heap hby]; rfl
  have h40 := okVal_len hx (by omega)
  have HRT := hid (root_any A c ns (x.2.take 32) hn hs w0.drew ((hrd.below hb0).drewN 1))
  have HB0 := hid hb0
  have HY := hid hby
  have HZ := hid z0
  have HX := hid hx
  have H40 := hid h40
  have hwr : IntKind.i64.wrap ((lv : Int) - 1) = (lv : Int) - 1 := by rw [IntKind.wrap_i64]; omega
  clear hbx hby hb0 hrd hs hn z0 hx
  go_enter Try.func42, Try.ntmps42
  go_wp2
  rw [← hw0]
  clear hw0
  go_region_with (go_at_call 68; (with_reducible refine HRT.out.mono ?_); rintro e w1 ⟨⟨k, A', n', c', ok, rfl, hat⟩, hb1⟩)
  all_goals
    have hY1 := (hb1.block (w.heap.size + 1) (by show _ < w0.heap.size; rw [HZ.out]; omega)).trans HY.out
    have HA := hid hat
    have HB1 := hid (show Below w.heap.size w w1 from HB0.out.trans ((show Below w0.heap.size w0 w1 from (show Below w0.heap.size w0 w0.drew from below_drewN (below_rf w0) 1).trans hb1).mono HB0.out.size))
    have HZ1 := hid hb1.size
    have HY1 := hid hY1
    clear hat hb1 hY1
    simp only [List.getElem_toArray, List.getElem_cons_succ, List.getElem_cons_zero, Act.put, Array.set!_eq_setIfInBounds, List.setIfInBounds_toArray, List.set_cons_succ, List.set_cons_zero]
    cases ok with
    | false =>
      have hno : belowP (getL ns) lv x = none := by
        have := HA.out
        unfold RootAt at this
        rw [if_neg (by decide)] at this
        rw [bel_at, this.1]
      have HN := hid hno
      clear hno
      go_wp2
      go_quiet (fail)
      go_wp2
      go_ret2
      exact bel_no HN.out (below_drewN HB1.out _)
    | true =>
      have hA := HA.out
      unfold RootAt at hA
      rw [if_pos rfl] at hA
      obtain ⟨m, l, hat, rfl, rfl, hown⟩ := hA
      obtain ⟨f1, f2, f3, f4, _⟩ := at_facts hat
      have hbe : belowP (getL ns) lv x = if (decide (m + 1 = lv) && decide (0 < l.length) && (lastKey l == x.1) && decide (countS m l = told x.2)) = true then some (m, l) else none := by rw [bel_at, hat]; rfl
      have HBE := hid hbe
      have HOWN := hid hown
      have HF3 := hid f3
      clear hat f3 f4 hbe hown HA
      go_wp2
      by_cases c1 : m + 1 = lv
      · have c1' : ((m : Int) == (lv : Int) - 1) = true := beq_iff_eq.2 (by omega)
        have c1n : ((m : Int) != (lv : Int) - 1) = false := by rw [bne, c1']; rfl
        by_cases c2 : 0 < l.length
        · have c2' : ((l.length : Int) == 0) = false := beq_eq_false_iff_ne.2 (by omega)
          have hwl : IntKind.i64.wrap ((l.length : Int) - 1) = (l.length : Int) - 1 := by rw [IntKind.wrap_i64]; omega
          have hnn : ((l.length : Int) - 1).toNat = l.length - 1 := by omega
          have hn0 : (0 : Int) ≤ (l.length : Int) - 1 := by omega
          have hn1 : (l.length : Int) - 1 < (l.length : Int) := by omega
          obtain ⟨bx, ox, rfl, hcx, _⟩ := rd_itm (rd_own HOWN.out) (j := l.length - 1) (by omega)
          obtain ⟨lk, hlk⟩ : ∃ lk, lk = lastKey l := ⟨_, rfl⟩
          rw [show (itm l (l.length - 1)).1 = lk by rw [hlk]; rfl] at hcx
          have y0 : w1.cell? ⟨w.heap.size + 1, 0, none⟩ = some (.string (Str x.1)) := by rw [Go.Lib.cell_of_heap HY1.out]; rfl
          have y1 : w1.cell? ⟨w.heap.size + 1, 1, none⟩ = some (.string (Str x.2)) := by rw [Go.Lib.cell_of_heap HY1.out]; rfl
          have hlt1 : w.heap.size + 1 < w1.heap.size := (Array.getElem?_eq_some_iff.1 HY1.out).1
          by_cases c3 : lk = x.1
          · have c3' : (lk == x.1) = true := beq_iff_eq.2 c3
            have c3n : (lk != x.1) = false := by rw [bne, c3']; rfl
            have HBE2 : Hid (belowP (getL ns) lv x = if countS m l = told x.2 then some (m, l) else none) := hid (by rw [HBE.out, ← hlk, c3', decide_eq_true c1, decide_eq_true c2]; simp)
            have n0 : ∀ W, Below w1.heap.size w1 W → W.cell? ⟨bx, ox + (l.length - 1) * 2, none⟩ = some (.string (Str lk)) := fun W hW => (hW.cell (World.block_lt_of_cell? _ _ hcx)).trans hcx
            have n1 : ∀ W, Below w1.heap.size w1 W → W.cell? ⟨w.heap.size + 1, 0, none⟩ = some (.string (Str x.1)) := fun W hW => (hW.cell (by exact hlt1)).trans y0
            have n2 : ∀ W, Below w1.heap.size w1 W → W.cell? ⟨w.heap.size + 1, 1, none⟩ = some (.string (Str x.2)) := fun W hW => (hW.cell (by exact hlt1)).trans y1
            have hcnt : ∀ W, Below w1.heap.size w1 W → Calls Try.prog 69 #[.int .i64 (m : Int), .slice (some ⟨bx, ox, none⟩) l.length c'] W fun e w' => e = .returned (.int .i64 (cnt m l : Nat)) ∧ Below w1.heap.size w1 w' := fun W hW =>
              (total_any m l _ c' W (by omega) ((rd_own HOWN.out).below hW) HF3.out).mono fun e w' h => ⟨h.1, hW.trans (h.2.mono hW.size)⟩
            have htold : ∀ W, Below w1.heap.size w1 W → Calls Try.prog 67 #[.string (Str (x.2.drop 32))] W fun e w' => e = .returned (.int .i64 (capT x.2 : Nat)) ∧ Below w1.heap.size w1 w' := fun W hW =>
              (count_any x.2 W H40.out).mono fun e w' h => ⟨h.1, h.2 ▸ hW⟩
            have hcs : countS m l = cnt m l := cnt_count m l (by
              have h9 := cnt_bound m l HF3.out
              have h8 : l.length * 1099511627776 ≤ 16 * 1099511627776 := Nat.mul_le_mul_right _ f2
              omega)
            have hca := cap_ok HX.out (by omega)
            have HCS := hid hcs
            have HCA := hid hca
            have h32b : 32 ≤ x.2.length := by have := H40.out; omega
            have h32c : (32 : Int) ≤ (x.2.length : Int) := by omega
            clear hcs hca hcx y0 y1 hlt1 hlk c3 HBE h40
            refine wp_region_mild w1.heap.size (by kernel_rfl) (by kernel_rfl) ?_
            repeat (
              refine wpQuiet_step (fun K hK => ?_)
              first
                | (refine mild_skip (by rfl) (hK _ ?_)
                   clear hK K)
                | (refine mild_read (by rfl) ?_
                   apply Exists.intro
                   refine ⟨fun W hW => ?_, hK _ ?_⟩
                   (go_simp; first | rfl | (rw [if_neg (by omega)]) | (rw [if_pos (by omega)]))
                   clear hK K)
                | (refine mild_call (by rfl) ?_
                   apply Exists.intro
                   apply Exists.intro
                   refine ⟨fun W hW => ?_, ?_⟩
                   (go_simp; exact ⟨rfl, rfl⟩)
                   apply Exists.intro
                   refine ⟨fun W hW => ?_, hK _ ?_⟩
                   (first | with_reducible exact (hcnt W hW) | with_reducible exact (htold W hW))
                   clear hK K)
              go_simp)
            refine wpQuiet_nil ?_
            intro W hW
            have HW := hid hW
            by_cases h9 : cnt m l = told x.2
            · have hr9 : Hid (belowP (getL ns) lv x = some (m, l)) := hid (by rw [HBE2.out, HCS.out, if_pos h9])
              have g9 : (((cnt m l : Nat) : Int) == ((capT x.2 : Nat) : Int)) = true := beq_iff_eq.2 (by rw [HCA.out]; omega)
              have g9n : (((cnt m l : Nat) : Int) != ((capT x.2 : Nat) : Int)) = false := by rw [bne, g9]; rfl
              clear h9 hcnt htold n0 n1 n2
              go_wp2
              go_ret2
              refine ⟨⟨_, _, _, true, rfl, ?_⟩, HB1.out.trans (HW.out.mono HB1.out.size)⟩
              unfold BelAt
              rw [if_pos rfl]
              exact ⟨m, l, hr9.out, rfl, own_base (own_of_below HOWN.out HW.out) (by have := HZ1.out; have := HZ.out; have := HB0.out.size; simp at *; omega)⟩
            · have hr9 : Hid (belowP (getL ns) lv x = none) := hid (by rw [HBE2.out, HCS.out, if_neg h9])
              have g9 : (((cnt m l : Nat) : Int) == ((capT x.2 : Nat) : Int)) = false := beq_eq_false_iff_ne.2 (by rw [HCA.out]; omega)
              have g9n : (((cnt m l : Nat) : Int) != ((capT x.2 : Nat) : Int)) = true := by rw [bne, g9]; rfl
              clear h9 hcnt htold n0 n1 n2
              go_wp2
              go_ret2
              exact bel_no hr9.out (HB1.out.trans (HW.out.mono HB1.out.size))
          · have c3' : (lk == x.1) = false := beq_eq_false_iff_ne.2 c3
            have c3n : (lk != x.1) = true := by rw [bne, c3']; rfl
            have HN : Hid (belowP (getL ns) lv x = none) := hid (by rw [HBE.out, ← hlk, c3']; simp)
            clear c3 hlk hlt1 HBE
            go_quiet (fail)
            go_wp2
            go_ret2
            exact bel_no HN.out (below_drewN HB1.out _)
        · have c2' : ((l.length : Int) == 0) = true := beq_iff_eq.2 (by omega)
          have HN : Hid (belowP (getL ns) lv x = none) := hid (by rw [HBE.out, decide_eq_false c2]; simp)
          clear c2 HBE
          go_quiet (fail)
          go_wp2
          go_ret2
          exact bel_no HN.out (below_drewN HB1.out _)
      · have c1' : ((m : Int) == (lv : Int) - 1) = false := beq_eq_false_iff_ne.2 (by omega)
        have c1n : ((m : Int) != (lv : Int) - 1) = true := by rw [bne, c1']; rfl
        have HN : Hid (belowP (getL ns) lv x = none) := hid (by rw [HBE.out, decide_eq_false c1]; simp)
        clear c1 HBE
        go_quiet (fail)
        go_wp2
        go_ret2
        exact bel_no HN.out (below_drewN HB1.out _)
end Go.Proofs.Yteeonfnaikndfaa.P08
