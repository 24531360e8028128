/- The walks of layer 10: a side's fingerprints. The walks of layer 10: the pairs of those leaves that the other side hasn't. Layer 10 in plain words: all items of level 1 below a node. Layer 10 in plain words: a tree's leaves by their fingerprints; the rests of two trees of one source differ as the whole does; a source that lacks texts tells the same or nothing. The walks of layer 10: a side's items of level 1 (begun). The walks of layer 10: a side's items of level 1, any height. The walks of layer 10: a tree's side. The walks of layer 10: a side's fingerprints and rests, of one node or of more. Layer 10 in plain words: what two trees of one source tell, whole or not. -/
import Derived.Test.YtoidbgedpakjmaaDif2
import Derived.Test.YtoidbgedpakjmaaMap
import Derived.Test.YtoidbgedpakjmaaTree
import Derived.Test.YtoidbgedpakjmaaW08m
import Derived.Test.YtoidbgedpakjmaaIns
import Derived.Deep.RegionLaw
import Derived.Deep.CutRange
import Derived.Test.YtoidbgedpakjmaaRun
import Derived.Test.YtoidbgedpakjmaaTreed
set_option linter.unusedVariables false
set_option linter.unusedSimpArgs false
namespace Go.Proofs.Ytoidbgedpakjmaa.D10
open Go Go.RowKit Go.Proofs.Ytoidbgedpakjmaa.Lib Go.Proofs.Ytoidbgedpakjmaa.Sha Go.Proofs.Ytoidbgedpakjmaa.Itms Go.Proofs.Ytoidbgedpakjmaa.T08 Go.Proofs.Ytoidbgedpakjmaa.QTail Go.Proofs.Ytoidbgedpakjmaa.WSeq Go.Proofs.Ytoidbgedpakjmaa.Ord Go.Proofs.Ytoidbgedpakjmaa.W08 Go.Proofs.Ytoidbgedpakjmaa.Dif Go.Proofs.Ytoidbgedpakjmaa.Mp Go.Proofs.Ytoidbgedpakjmaa.Tree Go.Proofs.Ytoidbgedpakjmaa.Bld
attribute [local go_sem] Str_size Str_toList Str_extract
/-- a side's fingerprints -/
def nmS (only : Bool) (root : List UInt8) (lv : List Itm) : List (List UInt8) := (if only = true then [root] else []) ++ lv.map fun x => x.2.take 32
def nmF (only : Bool) (root : List UInt8) (lv : List Itm) : List UInt8 → Bool := fun p => decide (p ∈ nmS only root lv)
theorem nm_snoc (only : Bool) (root : List UInt8) (lv : List Itm) (k : Nat) (h : k < lv.length) : putB (nmF only root (lv.take k)) ((itm lv k).2.take 32) true = nmF only root (lv.take (k + 1)) := by
  funext p
  rw [take_itm lv k h]
  unfold putB nmF nmS
  rw [List.map_append]
  by_cases e : p = (itm lv k).2.take 32
  · rw [if_pos e, e]; simp
  · rw [if_neg e]; simp [e]
theorem nm_nil (root : List UInt8) : (fun _ => false : List UInt8 → Bool) = nmF false root [] := by funext p; simp [nmF, nmS]
theorem nm_one (root : List UInt8) : putB (fun _ => false) root true = nmF true root [] := by
  funext p
  unfold putB nmF nmS
  by_cases e : p = root
  · rw [if_pos e, e]; simp
  · rw [if_neg e]; simp [e]
set_option maxRecDepth 100000 in
set_option maxHeartbeats 3200000 in
theorem names_any (sb : Nat) (A1 A2 : Option Addr) (c1 n2 c2 : Nat) (only : Bool) (lv : List Itm) (root : List UInt8) (hl : lv.length ≤ 1000000) (hv : ∀ x ∈ lv, x.2.length = 40) (hroot : root.length ≤ 1000000000) (w : World) (hs : w.heap[sb]? = some (Obj.cells #[.slice A1 lv.length c1, .slice A2 n2 c2, .bool only] 116 (0, 0))) (hrd : Rd w A1 (its lv)) :
    Calls Try.prog 27 #[.pointer (some ⟨sb, 0, none⟩), .string (Str root)] w fun e w' => (∃ mb n, e = .returned (.map (some mb)) ∧ n ≤ lv.length + 1 ∧ MapB w' mb n (nmF only root lv)) ∧ Below w.heap.size w w' := by
  have hmm : ∀ W : World, (Instr.makeMap 74 none).run Try.prog W = .ok (.map (some W.heap.size)) (W.alloc (.map #[] 0)) := fun W => by kernel_rfl
  obtain ⟨w2, hw2⟩ : ∃ w2, w2 = w.alloc (.map #[] 0) := ⟨_, rfl⟩
  have hb2 : Below w.heap.size w w2 := by rw [hw2]; exact below_al (below_rf w) _
  have hM2 : MapB w2 w.heap.size 0 (fun _ => false) := by rw [hw2]; exact MapB.made w
  have hsb := (hb2.block sb (Array.getElem?_eq_some_iff.1 hs).1).trans hs
  have s0 : w2.cell? ⟨sb, 0, none⟩ = some (.slice A1 lv.length c1) := by rw [Go.Lib.cell_of_heap hsb]; rfl
  have s2 : w2.cell? ⟨sb, 2, none⟩ = some (.bool only) := by rw [Go.Lib.cell_of_heap hsb]; rfl
  have HV := hid hv
  have HB2 := hid hb2
  have HRD := hid hrd
  have hsz : sb < w.heap.size := (Array.getElem?_eq_some_iff.1 hs).1
  have HSB := hid hsb
  have HZ := hid (show w.heap.size ≤ w2.heap.size from hb2.size)
  have hmx : maxLen ≥ 1000000001 := by decide
  clear hb2 hs hrd hv hsb
  go_enter Try.func27, Try.ntmps27
  have hstart : ∃ w3, (only = true → (Instr.mapUpdate 74 (.map (some w.heap.size)) (.string (Str root)) (.bool true)).run Try.prog w2 = .ok () w3) ∧ (only = false → w3 = w2) ∧ Hid (MapB w3 w.heap.size 1 (nmF only root []) ∨ MapB w3 w.heap.size 0 (nmF only root [])) ∧ Hid (Below w.heap.size w w3) ∧ Hid (w3.heap[sb]? = w2.heap[sb]?) := by
    cases only with
    | false => exact ⟨w2, fun h => (by cases h), fun _ => rfl, hid (.inr (by rw [← nm_nil]; exact hM2)), HB2, hid rfl⟩
    | true =>
      obtain ⟨w3, hrun, hM3, hg3⟩ := hM2.put (by unfold maxLen; omega) root true (by omega)
      have hB3 : Below w.heap.size w w3 := HB2.out.grown hg3 HB2.out.size (fun k hk => by injection hk with hk; omega)
      exact ⟨w3, fun _ => hrun, fun h => (by cases h), hid (.inl (by rw [← nm_one]; exact hM3)), hid hB3, hid ((hB3.block sb hsz).trans (HB2.out.block sb hsz).symm)⟩
  obtain ⟨w3, hrun, hsame, HM3, HB3, HS3⟩ := hstart
  have t0 : w3.cell? ⟨sb, 0, none⟩ = some (.slice A1 lv.length c1) := by rw [Go.Lib.cell_of_heap (HS3.out.trans HSB.out)]; rfl
  rw [hw2] at s0 s2 hrun
  have hloop : ∀ K : Unit, True := fun _ => trivial
  clear hM2 hloop
  cases only with
  | false =>
    obtain rfl := hsame rfl
    clear hrun hsame
    go_wp2
    rw [← hw2]
    clear hw2 s0 s2
    go_loopw [20] (fun jv wr => ∃ (k n : Nat), k ≤ lv.length ∧ jv = .int .i64 (k : Int) ∧ n ≤ k + 1 ∧ Hid (MapB wr w.heap.size n (nmF false root (lv.take k))) ∧ Hid (Below w.heap.size w wr)) (fun jv _ => lv.length - (intOf jv).toNat)
    case atStart =>
      rcases HM3.out with h | h
      · exact ⟨0, 1, by omega, rfl, by omega, hid h, HB3⟩
      · exact ⟨0, 0, by omega, rfl, by omega, hid h, HB3⟩
    case round =>
      obtain ⟨k, n, hk, rfl, hnk, HM, HB⟩ := hrel
      by_cases hlt : k < lv.length
      · obtain ⟨bm, om, rfl, hc1, hc2⟩ := rd_itm (HRD.out.below HB.out) hlt
        have hx40 := HV.out (itm lv k) (by rw [itm_eq lv k hlt]; exact List.getElem_mem _)
        have hsn := nm_snoc false root lv k hlt
        obtain ⟨⟨xk, xv⟩, hx⟩ : ∃ x, x = itm lv k := ⟨_, rfl⟩
        rw [← hx] at hc1 hc2 hx40 hsn
        dsimp only at hc1 hc2 hx40 hsn
        have h32 : 32 ≤ xv.length := by omega
        have h32i : (32 : Int) ≤ (xv.length : Int) := by omega
        obtain ⟨w5, hw5⟩ : ∃ w5, w5 = wr.alloc (Obj.cells #[.string (Str xk), .string (Str xv)] 63) := ⟨_, rfl⟩
        have hb5 : Below wr.heap.size wr w5 := by rw [hw5]; exact below_al (below_rf wr) _
        have hB5 := below_tr HB.out hb5
        obtain ⟨w6, hrun6, hM6, hg6⟩ := (HM.out.below hb5).put (by unfold maxLen; omega) (xv.take 32) true (by rw [List.length_take]; unfold maxLen; omega)
        have hB6 : Below w.heap.size w w6 := hB5.grown hg6 hB5.size (fun k hk => by injection hk with hk; omega)
        rw [hsn] at hM6
        have HM6 := hid hM6
        have HB6 := hid hB6
        rw [hw5] at hrun6
        clear hx hb5 hB5 hM6 hB6 hg6 hsn hx40 hw5
        go_wp2
        go_roundw
        case rel => exact ⟨k + 1, n + 1, by omega, by go_num, by omega, HM6, HB6⟩
        case measure => simp [intOf]; omega
      · obtain rfl : k = lv.length := by omega
        rw [List.take_length] at HM
        go_wp2
        go_ret
        exact ⟨⟨_, n, rfl, hnk, HM.out⟩, HB.out⟩
  | true =>
    have hrun2 := hrun rfl
    clear hrun hsame
    go_wp2
    clear hw2 s0 s2 hrun2
    go_loopw [20] (fun jv wr => ∃ (k n : Nat), k ≤ lv.length ∧ jv = .int .i64 (k : Int) ∧ n ≤ k + 1 ∧ Hid (MapB wr w.heap.size n (nmF true root (lv.take k))) ∧ Hid (Below w.heap.size w wr)) (fun jv _ => lv.length - (intOf jv).toNat)
    case atStart =>
      rcases HM3.out with h | h
      · exact ⟨0, 1, by omega, rfl, by omega, hid h, HB3⟩
      · exact ⟨0, 0, by omega, rfl, by omega, hid h, HB3⟩
    case round =>
      obtain ⟨k, n, hk, rfl, hnk, HM, HB⟩ := hrel
      by_cases hlt : k < lv.length
      · obtain ⟨bm, om, rfl, hc1, hc2⟩ := rd_itm (HRD.out.below HB.out) hlt
        have hx40 := HV.out (itm lv k) (by rw [itm_eq lv k hlt]; exact List.getElem_mem _)
        have hsn := nm_snoc true root lv k hlt
        obtain ⟨⟨xk, xv⟩, hx⟩ : ∃ x, x = itm lv k := ⟨_, rfl⟩
        rw [← hx] at hc1 hc2 hx40 hsn
        dsimp only at hc1 hc2 hx40 hsn
        have h32 : 32 ≤ xv.length := by omega
        have h32i : (32 : Int) ≤ (xv.length : Int) := by omega
        obtain ⟨w5, hw5⟩ : ∃ w5, w5 = wr.alloc (Obj.cells #[.string (Str xk), .string (Str xv)] 63) := ⟨_, rfl⟩
        have hb5 : Below wr.heap.size wr w5 := by rw [hw5]; exact below_al (below_rf wr) _
        have hB5 := below_tr HB.out hb5
        obtain ⟨w6, hrun6, hM6, hg6⟩ := (HM.out.below hb5).put (by unfold maxLen; omega) (xv.take 32) true (by rw [List.length_take]; unfold maxLen; omega)
        have hB6 : Below w.heap.size w w6 := hB5.grown hg6 hB5.size (fun k hk => by injection hk with hk; omega)
        rw [hsn] at hM6
        have HM6 := hid hM6
        have HB6 := hid hB6
        rw [hw5] at hrun6
        clear hx hb5 hB5 hM6 hB6 hg6 hsn hx40 hw5
        go_wp2
        go_roundw
        case rel => exact ⟨k + 1, n + 1, by omega, by go_num, by omega, HM6, HB6⟩
        case measure => simp [intOf]; omega
      · obtain rfl : k = lv.length := by omega
        rw [List.take_length] at HM
        go_wp2
        go_ret
        exact ⟨⟨_, n, rfl, hnk, HM.out⟩, HB.out⟩
end Go.Proofs.Ytoidbgedpakjmaa.D10
namespace Go.Proofs.Ytoidbgedpakjmaa.D10
open Go Go.RowKit Go.Proofs.Ytoidbgedpakjmaa.Lib Go.Proofs.Ytoidbgedpakjmaa.Sha Go.Proofs.Ytoidbgedpakjmaa.Itms Go.Proofs.Ytoidbgedpakjmaa.T08 Go.Proofs.Ytoidbgedpakjmaa.QTail Go.Proofs.Ytoidbgedpakjmaa.WSeq Go.Proofs.Ytoidbgedpakjmaa.Ord Go.Proofs.Ytoidbgedpakjmaa.W08 Go.Proofs.Ytoidbgedpakjmaa.Dif Go.Proofs.Ytoidbgedpakjmaa.Mp Go.Proofs.Ytoidbgedpakjmaa.Tree Go.Proofs.Ytoidbgedpakjmaa.Bld
attribute [local go_sem] Str_size Str_toList Str_extract
/-- the pairs of those leaves that aren't among some -/
def restL (F : Src) (f : List UInt8 → Bool) : List Itm → Option (List Itm)
  | [] => some []
  | x :: l => if f (x.2.take 32) = true then restL F f l else match belowP F 1 x with
    | none => none
    | some n => (restL F f l).map (n.2 ++ ·)
theorem rest_at (F : Src) (f : List UInt8 → Bool) (l : List Itm) (k : Nat) (h : k < l.length) : restL F f (l.drop k) = if f ((itm l k).2.take 32) = true then restL F f (l.drop (k + 1)) else match belowP F 1 (itm l k) with
    | none => none
    | some n => (restL F f (l.drop (k + 1))).map (n.2 ++ ·) := by
  rw [drop_at l k h, restL]
/-- a slice that can be read, with what a walk wants of it -/
structure SlOk (W : World) (A : Option Addr) (c : Nat) (l : List Itm) : Prop where
  rd : Rd W A (its l)
  cap : l.length ≤ c
  nil : A = none → l.length = 0
  spot : ∀ a, A = some a → a.spot = none
  lt : ∀ a, A = some a → a.block < W.heap.size
theorem SlOk.below {W W' : World} {A : Option Addr} {c : Nat} {l : List Itm} (h : SlOk W A c l) (hb : Below W.heap.size W W') : SlOk W' A c l :=
  ⟨h.rd.below hb, h.cap, h.nil, h.spot, fun a e => Nat.lt_of_lt_of_le (h.lt a e) hb.size⟩
theorem SlOk.own {W : World} {B : Nat} {T : TypeId} {A : Option Addr} {c : Nat} {l : List Itm} (h : W.ownsRow B T 2 (.slice A l.length c) l.length (its l)) : SlOk W A c l := by
  obtain ⟨A', c', e, h1, h2, h3, h4⟩ := Rd.own' h
  injection e with e1 _ e3
  subst e1; subst e3
  exact ⟨h2, h1, h3, h4, fun a e => by subst e; obtain ⟨b, o, s⟩ := a; obtain rfl : s = none := h4 _ rfl; exact own_lt h b rfl⟩
theorem SlOk.none (W : World) : SlOk W none 0 [] := ⟨.inl rfl, Nat.le_refl _, fun _ => rfl, fun a e => (by cases e), fun a e => (by cases e)⟩
def RestOut (P : Nat → Prop) (r : Option (List Itm)) (e : Ending) (W : World) : Prop := match r with
  | none => e = .returned (.tuple #[.slice none 0 0, .bool false])
  | some l => ∃ A c, e = .returned (.tuple #[.slice A l.length c, .bool true]) ∧ SlOk W A c l ∧ ∀ a, A = some a → P a.block
set_option maxRecDepth 100000 in
set_option maxHeartbeats 6400000 in
theorem rest_any (hb mb n : Nat) (F : Src) (hF : ∀ k s, F k = some s → s.length ≤ 1000000000) (sb : Nat) (A1 : Option Addr) (c1 : Nat) (lv : List Itm) (hl : lv.length ≤ 100000) (hv : ∀ x ∈ lv, x.2.length = 40) (A2 : Option Addr) (n2 c2 : Nat) (root : List UInt8) (ob on : Nat) (f : List UInt8 → Bool) (w : World)
    (hs : w.heap[sb]? = some (Obj.cells #[.slice A1 lv.length c1, .slice A2 n2 c2, .bool false] 116 (0, 0))) (hrd : Rd w A1 (its lv)) (hH : HeapT w hb mb n F) (hM : MapB w ob on f) :
    Calls Try.prog 26 #[.pointer (some ⟨sb, 0, none⟩), .iface 31 (.pointer (some ⟨hb, 0, none⟩)), .string (Str root), .map (some ob)] w fun e w' => RestOut (fun k => w.heap.size ≤ k) (restL F f lv) e w' ∧ Below w.heap.size w w' := by
  obtain ⟨w1, hw1⟩ : ∃ w1, w1 = w.alloc (Obj.cells #[.int .i64 1, .slice none 0 0] 56) := ⟨_, rfl⟩
  have hb1 : Below w.heap.size w w1 := by rw [hw1]; exact below_al (below_rf w) _
  have hn1 : w1.heap[w.heap.size]? = some (Obj.cells #[.int .i64 1, .slice none 0 0] 56 (0, 0)) := by rw [hw1]; exact heap_new _ _
  have s0 : w.cell? ⟨sb, 0, none⟩ = some (.slice A1 lv.length c1) := by rw [Go.Lib.cell_of_heap hs]; rfl
  have s2 : w.cell? ⟨sb, 2, none⟩ = some (.bool false) := by rw [Go.Lib.cell_of_heap hs]; rfl
  have hsb := (hb1.block sb (Array.getElem?_eq_some_iff.1 hs).1).trans hs
  have t0 : w1.cell? ⟨sb, 0, none⟩ = some (.slice A1 lv.length c1) := by rw [Go.Lib.cell_of_heap hsb]; rfl
  have HB1 := hid hb1
  have HN1 := hid hn1
  have HV := hid hv
  have HF := hid hF
  have HRD := hid (hrd.below hb1)
  have HH := hid (hH.below hb1)
  have HM := hid (hM.below hb1)
  obtain ⟨R, hR⟩ : ∃ R, R = restL F f lv := ⟨_, rfl⟩
  rw [← hR]
  have HR := hid hR
  rw [hw1] at t0
  clear hb1 hn1 hs hsb hrd hH hM hv hF hR
  go_enter Try.func26, Try.ntmps26
  go_wp2
  rw [← hw1]
  clear hw1 t0 s0 s2
  go_loopw [11, 33] (fun ov jv wr => ∃ (k : Nat) (acc : List Itm), k ≤ lv.length ∧ jv = .int .i64 (k : Int) ∧ acc.length ≤ 16 * k ∧ Hid (R = (restL F f (lv.drop k)).map (acc ++ ·)) ∧ wr.ownsRow w1.heap.size 63 2 ov acc.length (its acc) ∧ Hid (Below w1.heap.size w1 wr)) (fun _ jv _ => lv.length - (intOf jv).toNat)
  case atStart => exact ⟨0, [], by omega, rfl, by simp, hid (by rw [HR.out, List.drop_zero]; cases restL F f lv <;> rfl), own_nil _ _ _ _, hid (below_rf w1)⟩
  case round =>
    obtain ⟨k, acc, hk, rfl, hak, HRK, hown, HB⟩ := hrel
    obtain ⟨A4, c4, rfl⟩ := own_succ hown
    have HOWN := hid hown
    have HBW := hid (HB1.out.trans (HB.out.mono HB1.out.size))
    clear hown
    by_cases hlt : k < lv.length
    · obtain ⟨bm, om, rfl, hc1, hc2⟩ := rd_itm (HRD.out.below HB.out) hlt
      have hx40 := HV.out (itm lv k) (by rw [itm_eq lv k hlt]; exact List.getElem_mem _)
      have hst := rest_at F f lv k hlt
      obtain ⟨⟨xk, xv⟩, hx⟩ : ∃ x, x = itm lv k := ⟨_, rfl⟩
      rw [← hx] at hc1 hc2 hx40 hst
      dsimp only at hc1 hc2 hx40 hst
      have h32 : 32 ≤ xv.length := by omega
      have h32i : (32 : Int) ≤ (xv.length : Int) := by omega
      obtain ⟨w5, hw5⟩ : ∃ w5, w5 = wr.alloc (Obj.cells #[.string (Str xk), .string (Str xv)] 63) := ⟨_, rfl⟩
      have hb5 : Below wr.heap.size wr w5 := by rw [hw5]; exact below_al (below_rf wr) _
      have hy5 : w5.heap[wr.heap.size]? = some (Obj.cells #[.string (Str xk), .string (Str xv)] 63 (0, 0)) := by rw [hw5]; exact heap_new _ _
      have hB5 := below_tr HB.out hb5
      have hlook := (HM.out.below hB5).look (xv.take 32) (by rw [List.length_take]; unfold maxLen; omega)
      have hn5 := (hB5.block w.heap.size (Array.getElem?_eq_some_iff.1 HN1.out).1).trans HN1.out
      have y0 : w5.cell? ⟨wr.heap.size, 0, none⟩ = some (.string (Str xk)) := by rw [Go.Lib.cell_of_heap hy5]; rfl
      have y1 : w5.cell? ⟨wr.heap.size, 1, none⟩ = some (.string (Str xv)) := by rw [Go.Lib.cell_of_heap hy5]; rfl
      have z0 : w5.cell? ⟨w.heap.size, 0, none⟩ = some (.int .i64 1) := by rw [Go.Lib.cell_of_heap hn5]; rfl
      have z1 : w5.cell? ⟨w.heap.size, 1, none⟩ = some (.slice none 0 0) := by rw [Go.Lib.cell_of_heap hn5]; rfl
      have HB5 := hid hB5
      have HOW5 := hid (own_of_below HOWN.out hb5)
      have HX40 := hid hx40
      have HST := hid hst
      obtain ⟨q, hq⟩ : ∃ q, q = f (xv.take 32) := ⟨_, rfl⟩
      rw [← hq] at hlook HST
      have hwx := hw5
      rw [hw5] at hlook y0 y1 z0 z1
      clear hx hb5 hy5 hB5 hn5 hx40 hst hq
      cases q with
      | true =>
        have HR2 := hid (show R = (restL F f (lv.drop (k + 1))).map (acc ++ ·) by rw [HRK.out, HST.out]; rfl)
        go_wp2
        rw [← hw5]
        go_roundw
        case rel => exact ⟨k + 1, acc, by omega, by go_num, by omega, HR2, HOW5.out, HB5⟩
        case measure => simp [intOf]; omega
      | false =>
        have HBE := hid (show Calls Try.prog 46 #[.agg #[.int .i64 1, .slice none 0 0], .iface 31 (.pointer (some ⟨hb, 0, none⟩)), .agg #[.string (Str xk), .string (Str xv)]] w5 fun e w' => BelowOut w5.heap.size (belowP F 1 (xk, xv)) e w' ∧ Below w5.heap.size w5 w' from below_any hb mb n F HF.out 1 none 0 0 (xk, xv) (by omega) HX40.out w5 (HH.out.below HB5.out))
        go_wp2_with fail
        rw [← hw5]
        (with_reducible refine HBE.out.mono ?_); rintro e w6 ⟨ho, hb6⟩
        have HB6 := hid (below_tr HB5.out hb6)
        have HOW6 := hid (own_of_below HOW5.out hb6)
        have HBW6 := hid (HB1.out.trans (HB6.out.mono HB1.out.size))
        clear hb6 HBE hlook y0 y1 z0 z1 hw5 hwx
        rcases ho with ⟨hn, k', A', n', c', rfl⟩ | ⟨m, ys, v, hs, rfl, howny⟩
        · have HRN := hid (show R = none by rw [HRK.out, HST.out, hn]; rfl)
          clear hn
          go_wp2
          go_ret2
          refine ⟨?_, below_al HBW6.out _⟩
          rw [HRN.out]; rfl
        · obtain ⟨Ay, cy, rfl, hcy, hry, _, _⟩ := Rd.own' howny
          obtain ⟨hm1, _, _, _, hat⟩ := below_lv hs
          dsimp only at hm1 hat
          have hys := (at_facts hat).2.1
          have HRN := hid (show R = (restL F f (lv.drop (k + 1))).map ((acc ++ ys) ++ ·) by
            rw [HRK.out, HST.out, hs]
            show Option.map _ (Option.map _ _) = _
            cases restL F f (lv.drop (k + 1)) <;> simp)
          obtain ⟨w7, hw7⟩ : ∃ w7, w7 = w6.alloc (Obj.cells #[.int .i64 (m : Int), .slice Ay ys.length cy] 56) := ⟨_, rfl⟩
          have hb7 : Below w6.heap.size w6 w7 := by rw [hw7]; exact below_al (below_rf w6) _
          have HB7 := hid (below_tr HB6.out hb7)
          have HOW7 := hid (own_of_below HOW6.out hb7)
          have HRY := hid (hry.below hb7)
          clear howny hry hs hat hm1 hb7
          go_wp2_with (at_builtin; (rw [← hw7]; (refine wpList_appR ti_pair (.tmp 51) (.tmp 53) (by rfl) (by rfl) w1.heap.size (its ys) Ay ys.length cy (by rfl) (by rfl) HRY.out HOW7.out (by rw [its_len]; omega) (its_one _) HB7.out.size (by omega) ?_); intro A8 c8 w8 ho8 hg8))
          have hb8 : Below w1.heap.size w1 w8 := HB7.out.grown hg8 HB7.out.size (fun q hq => own_block_base HOW7.out q hq)
          have HB8 := hid hb8
          clear hb8 hg8
          go_wp2
          go_roundw
          case rel => exact ⟨k + 1, acc ++ ys, by omega, by go_num, by simp; omega, HRN, by rw [its_app, List.length_append]; exact ho8, HB8⟩
          case measure => simp [intOf]; omega
    · obtain rfl : k = lv.length := by omega
      have HR2 := hid (show R = some acc by rw [HRK.out, List.drop_length]; simp [restL])
      go_wp2
      go_ret2
      refine ⟨?_, HBW.out⟩
      rw [HR2.out]
      exact ⟨A4, c4, rfl, SlOk.own HOWN.out, fun a e => Nat.le_trans HB1.out.size (own_block_base HOWN.out a.block (by rw [e]; rfl))⟩
set_option maxRecDepth 100000 in
set_option maxHeartbeats 800000 in
/-- a tree of one node -/
theorem rest1_any (S : Value) (sb : Nat) (A1 : Option Addr) (n1 c1 : Nat) (A2 : Option Addr) (c2 : Nat) (ps : List Itm) (root : List UInt8) (hroot : root.length ≤ 1000000000) (ob on : Nat) (f : List UInt8 → Bool) (w : World)
    (hs : w.heap[sb]? = some (Obj.cells #[.slice A1 n1 c1, .slice A2 ps.length c2, .bool true] 116 (0, 0))) (hp : SlOk w A2 c2 ps) (hM : MapB w ob on f) :
    Calls Try.prog 26 #[.pointer (some ⟨sb, 0, none⟩), S, .string (Str root), .map (some ob)] w fun e w' => RestOut (fun k => ∃ a, A2 = some a ∧ a.block = k) (some (if f root = true then [] else ps)) e w' ∧ Below w.heap.size w w' := by
  have s1 : w.cell? ⟨sb, 1, none⟩ = some (.slice A2 ps.length c2) := by rw [Go.Lib.cell_of_heap hs]; rfl
  have s2 : w.cell? ⟨sb, 2, none⟩ = some (.bool true) := by rw [Go.Lib.cell_of_heap hs]; rfl
  have hlook := hM.look root (by unfold maxLen; omega)
  have HP := hid hp
  obtain ⟨q, hq⟩ : ∃ q, q = f root := ⟨_, rfl⟩
  rw [← hq] at hlook ⊢
  clear hs hp hM hq
  go_enter Try.func26, Try.ntmps26
  cases q with
  | true =>
    go_wp2
    go_ret2
    exact ⟨⟨none, 0, rfl, SlOk.none _, fun a e => by cases e⟩, below_rf w⟩
  | false =>
    go_wp2
    go_ret2
    exact ⟨⟨A2, c2, rfl, HP.out, fun a e => ⟨a, e, rfl⟩⟩, below_rf w⟩
end Go.Proofs.Ytoidbgedpakjmaa.D10
namespace Go.Proofs.Ytoidbgedpakjmaa.D10
open Go Go.Proofs.Ytoidbgedpakjmaa Go.Proofs.Ytoidbgedpakjmaa.Lib Go.Proofs.Ytoidbgedpakjmaa.Sha Go.Proofs.Ytoidbgedpakjmaa.T07 Go.Proofs.Ytoidbgedpakjmaa.T08 Go.Proofs.Ytoidbgedpakjmaa.Itms Go.Proofs.Ytoidbgedpakjmaa.WSeq Go.Proofs.Ytoidbgedpakjmaa.Ord Go.Proofs.Ytoidbgedpakjmaa.W08 Go.Proofs.Ytoidbgedpakjmaa.Inj Go.Proofs.Ytoidbgedpakjmaa.Tree
def underG (g : Itm → Option (List Itm)) : List Itm → Option (List Itm)
  | [] => some []
  | x :: l => match g x with
    | none => none
    | some ys => (underG g l).map (ys ++ ·)
/-- all items of level 1 below a node of level k + 1 -/
def underP (F : Src) : Nat → List Itm → Option (List Itm)
  | 0, l => some l
  | k + 1, l => underG (fun x => match belowP F (k + 2) x with | none => none | some n => underP F k n.2) l
theorem under_cons (F : Src) (k : Nat) (x : Itm) (l : List Itm) : underP F (k + 1) (x :: l) = match belowP F (k + 2) x with
    | none => none
    | some n => match underP F k n.2 with
      | none => none
      | some ys => (underP F (k + 1) l).map (ys ++ ·) := by
  rw [underP, underG]
  cases belowP F (k + 2) x with
  | none => rfl
  | some n => rfl
theorem under_nil (F : Src) (k : Nat) : underP F k [] = some [] := by cases k <;> rfl
/-- In a whole tree: the items of level 1 lead to the same pairs. -/
theorem under_tree (F : Src) : ∀ (k : Nat) (l m : List Itm), treeP F (k + 1) l = some m → ∃ ls, underP F k l = some ls ∧ treeP F 1 ls = some m := by
  intro k
  induction k with
  | zero => intro l m h; exact ⟨l, rfl, h⟩
  | succ k ih =>
    intro l
    induction l with
    | nil =>
      intro m h
      rw [tree_nil] at h
      injection h with h; subst h
      exact ⟨[], under_nil F _, tree_nil F 1⟩
    | cons x l ihl =>
      intro m h
      rw [tree_cons] at h
      rw [under_cons]
      cases hb : belowP F (k + 1 + 1) x with
      | none => rw [hb] at h; cases h
      | some n =>
        rw [hb] at h
        dsimp only at h ⊢
        cases h1 : treeP F (k + 1) n.2 with
        | none => rw [h1] at h; cases h
        | some a =>
          cases h2 : treeP F (k + 1 + 1) l with
          | none => rw [h1, h2] at h; cases h
          | some b =>
            rw [h1, h2] at h
            injection h with h
            obtain ⟨la, q1, q2⟩ := ih n.2 a h1
            obtain ⟨lb, q3, q4⟩ := ihl b h2
            have q3' : underP F (k + 1) l = some lb := q3
            rw [q1]
            dsimp only
            rw [q3']
            refine ⟨la ++ lb, rfl, ?_⟩
            rw [tree_app, q2, q4, ← h]
theorem below_cnt {F : Src} {lv : Nat} {x : Itm} {n : Nat × List Itm} (h : belowP F lv x = some n) : cnt n.1 n.2 = told x.2 := by
  obtain ⟨_, _, _, h4, hat⟩ := below_lv h
  obtain ⟨_, u2, u3, _, _⟩ := at_facts hat
  have h9 := cnt_bound n.1 n.2 u3
  have h8 : n.2.length * 1099511627776 ≤ 16 * 1099511627776 := Nat.mul_le_mul_right _ u2
  rw [← cnt_count n.1 n.2 (by omega)]
  exact h4
theorem cnt_len (lv : Nat) (l : List Itm) (h0 : 0 < lv) (hv : ∀ x ∈ l, okVal lv x.2 = true) : l.length ≤ cnt lv l := by
  induction l with
  | nil => exact Nat.zero_le _
  | cons x l ih =>
    have i1 := ih (fun y hy => hv y (List.mem_cons_of_mem _ hy))
    have h1 := hv x (List.mem_cons_self ..)
    have e : cnt lv (x :: l) = Tree.wt lv x + cnt lv l := by simp [cnt]
    have h2 : 1 ≤ Tree.wt lv x := by
      unfold Tree.wt
      rw [if_neg (by omega)]
      unfold okVal at h1
      rw [decide_eq_false (by omega : ¬ lv = 0)] at h1
      simp at h1
      omega
    rw [e, List.length_cons]; omega
theorem under_len (F : Src) : ∀ (k : Nat) (l ls : List Itm), (∀ x ∈ l, okVal (k + 1) x.2 = true) → underP F k l = some ls → ls.length ≤ cnt (k + 1) l := by
  intro k
  induction k with
  | zero =>
    intro l ls hv h
    injection h with h
    rw [← h]; exact cnt_len 1 l (by omega) hv
  | succ k ih =>
    intro l
    induction l with
    | nil => intro ls _ h; rw [under_nil] at h; injection h with h; rw [← h]; exact Nat.zero_le _
    | cons x l ihl =>
      intro ls hv h
      rw [under_cons] at h
      cases hb : belowP F (k + 2) x with
      | none => rw [hb] at h; cases h
      | some n =>
        rw [hb] at h
        dsimp only at h
        cases h1 : underP F k n.2 with
        | none => rw [h1] at h; cases h
        | some a =>
          rw [h1] at h
          dsimp only at h
          cases h2 : underP F (k + 1) l with
          | none => rw [h2] at h; cases h
          | some b =>
            rw [h2] at h
            injection h with h
            have h : a ++ b = ls := h
            obtain ⟨e1, _, _, _, hat⟩ := below_lv hb
            obtain ⟨_, _, u3, _, _⟩ := at_facts hat
            have en : n.1 = k + 1 := by omega
            have i1 := ih n.2 a (by rw [← en]; exact u3) h1
            have i2 := ihl b (fun y hy => hv y (List.mem_cons_of_mem _ hy)) h2
            have i3 := below_cnt hb
            rw [en] at i3
            have e : cnt (k + 1 + 1) (x :: l) = Tree.wt (k + 1 + 1) x + cnt (k + 1 + 1) l := by simp [cnt]
            have e2 : Tree.wt (k + 1 + 1) x = told x.2 := by unfold Tree.wt; rw [if_neg (by omega)]
            rw [← h, List.length_append, e, e2]
            omega
end Go.Proofs.Ytoidbgedpakjmaa.D10
namespace Go.Proofs.Ytoidbgedpakjmaa.D10
open Go Go.Proofs.Ytoidbgedpakjmaa Go.Proofs.Ytoidbgedpakjmaa.Lib Go.Proofs.Ytoidbgedpakjmaa.Sha Go.Proofs.Ytoidbgedpakjmaa.T07 Go.Proofs.Ytoidbgedpakjmaa.T08 Go.Proofs.Ytoidbgedpakjmaa.Itms Go.Proofs.Ytoidbgedpakjmaa.WSeq Go.Proofs.Ytoidbgedpakjmaa.Ord Go.Proofs.Ytoidbgedpakjmaa.W08 Go.Proofs.Ytoidbgedpakjmaa.Inj Go.Proofs.Ytoidbgedpakjmaa.Tree Go.Proofs.Ytoidbgedpakjmaa.Dif
/-- the leaves below items of level 1 -/
def leafL (F : Src) (ls : List Itm) : List Lv := ls.map fun x => (x.2.take 32, match atS F (x.2.take 32) with | none => [] | some n => n.2)
theorem below_at {F : Src} {lv : Nat} {x : Itm} {n : Nat × List Itm} (h : belowP F lv x = some n) : atS F (x.2.take 32) = some n := (below_lv h).2.2.2.2
theorem leaf_cons (F : Src) (x : Itm) (ls : List Itm) {n : Nat × List Itm} (h : belowP F 1 x = some n) : leafL F (x :: ls) = (x.2.take 32, n.2) :: leafL F ls := by
  unfold leafL
  rw [List.map_cons, below_at h]
theorem leaf_all (F : Src) : ∀ (ls m : List Itm), treeP F 1 ls = some m → allL (leafL F ls) = m ∧ ∀ x ∈ ls, ∃ n, belowP F 1 x = some n
  | [], m, h => by
    rw [tree_nil] at h
    injection h with h; subst h
    exact ⟨rfl, fun x hx => (by cases hx)⟩
  | x :: ls, m, h => by
    rw [tree_cons] at h
    cases hb : belowP F (0 + 1) x with
    | none => rw [hb] at h; cases h
    | some n =>
      rw [hb] at h
      dsimp only at h
      cases h2 : treeP F (0 + 1) ls with
      | none =>
        rw [h2] at h
        cases h1 : treeP F 0 n.2 <;> rw [h1] at h <;> cases h
      | some b =>
        rw [h2] at h
        have h0 : treeP F 0 n.2 = some n.2 := by rw [treeP]
        rw [h0] at h
        injection h with h
        obtain ⟨i1, i2⟩ := leaf_all F ls b h2
        have hb' : belowP F 1 x = some n := hb
        refine ⟨?_, fun y hy => ?_⟩
        · rw [leaf_cons F x ls hb', ← h, ← i1]
          unfold allL
          rw [List.map_cons, List.flatten_cons]
        · rcases List.mem_cons.1 hy with e | hy
          · rw [e]; exact ⟨n, hb'⟩
          · exact i2 y hy
theorem leaf_inj (F : Src) (la lb : List Itm) : ∀ a ∈ leafL F la, ∀ b ∈ leafL F lb, a.1 = b.1 → a.2 = b.2 := by
  intro a ha b hb e
  obtain ⟨x, _, rfl⟩ := List.mem_map.1 ha
  obtain ⟨y, _, rfl⟩ := List.mem_map.1 hb
  dsimp only at e ⊢
  rw [e]
/-- where all leaves are there the rest is told -/
theorem rest_keep (F : Src) (f : List UInt8 → Bool) (ns : List (List UInt8)) (hf : ∀ p, f p = decide (p ∈ ns)) : ∀ ls : List Itm, (∀ x ∈ ls, ∃ n, belowP F 1 x = some n) → restL F f ls = some (allL (keepL ns (leafL F ls)))
  | [], _ => rfl
  | x :: ls, h => by
    obtain ⟨n, hn⟩ := h x (List.mem_cons_self ..)
    have ih := rest_keep F f ns hf ls (fun y hy => h y (List.mem_cons_of_mem _ hy))
    rw [restL, leaf_cons F x ls hn, hf]
    unfold keepL
    rw [List.filter_cons]
    by_cases hm : x.2.take 32 ∈ ns
    · rw [if_pos (by simpa using hm), if_neg (by simpa using hm), ih]; rfl
    · rw [if_neg (by simpa using hm), if_pos (by simpa using hm), hn, ih]
      show some _ = some _
      congr 1
/-- a source that tells less -/
def Less (f F : Src) : Prop := ∀ p s, f p = some s → F p = some s
theorem less_at {f F : Src} (h : Less f F) {p : List UInt8} {n : Nat × List Itm} (ha : atS f p = some n) : atS F p = some n := by
  unfold atS at ha ⊢
  cases hp : f p with
  | none => rw [hp] at ha; cases ha
  | some s => rw [hp] at ha; rw [h p s hp]; exact ha
theorem less_below {f F : Src} (h : Less f F) {lv : Nat} {x : Itm} {n : Nat × List Itm} (hb : belowP f lv x = some n) : belowP F lv x = some n := by
  have h1 := below_at hb
  have h2 := less_at h h1
  unfold belowP at hb ⊢
  rw [h1] at hb
  rw [h2]
  exact hb
theorem less_under {f F : Src} (h : Less f F) : ∀ (k : Nat) (l ls : List Itm), underP f k l = some ls → underP F k l = some ls := by
  intro k
  induction k with
  | zero => intro l ls hu; exact hu
  | succ k ih =>
    intro l
    induction l with
    | nil => intro ls hu; rw [under_nil] at hu ⊢; exact hu
    | cons x l ihl =>
      intro ls hu
      rw [under_cons] at hu ⊢
      cases hb : belowP f (k + 2) x with
      | none => rw [hb] at hu; cases hu
      | some n =>
        rw [hb] at hu
        rw [less_below h hb]
        dsimp only at hu ⊢
        cases h1 : underP f k n.2 with
        | none => rw [h1] at hu; cases hu
        | some a =>
          rw [h1] at hu
          rw [ih _ _ h1]
          dsimp only at hu ⊢
          cases h2 : underP f (k + 1) l with
          | none => rw [h2] at hu; cases hu
          | some b =>
            rw [h2] at hu
            rw [ihl b h2]; exact hu
theorem less_rest {f F : Src} (h : Less f F) (g : List UInt8 → Bool) : ∀ (ls r : List Itm), restL f g ls = some r → restL F g ls = some r
  | [], r, hr => hr
  | x :: ls, r, hr => by
    rw [restL] at hr ⊢
    split
    · rename_i hg
      rw [if_pos hg] at hr
      exact less_rest h g ls r hr
    · rename_i hg
      rw [if_neg hg] at hr
      cases hb : belowP f 1 x with
      | none => rw [hb] at hr; cases hr
      | some n =>
        rw [hb] at hr
        rw [less_below h hb]
        dsimp only at hr ⊢
        cases h2 : restL f g ls with
        | none => rw [h2] at hr; cases hr
        | some q =>
          rw [h2] at hr
          rw [less_rest h g ls q h2]; exact hr
end Go.Proofs.Ytoidbgedpakjmaa.D10
namespace Go.Proofs.Ytoidbgedpakjmaa.Lib
open Go Go.RowKit
/-- Whatever slice's elements behind a row of the call's own, as a step of a region that draws its order. -/
theorem step_appS {P : Program} {ops : Array Oper} {o : Oper} {a : Act} {K : Act → World → Prop} {Q : Exit → Act → World → Prop} {E : Prop} {W : World} {t e : TypeId} {size bytes : Nat} (ti : TI P t e size bytes) (s x : Operand)
    (hgd : o.guard = none) (ho : o.op = .call { callee := .builtin .append, args := #[s, x], argTypes := #[t, t] }) (base : Nat) {v : Value} {n : Nat} {xs : List Value} (A : Option Addr) (m c : Nat) (news : List Value)
    (hs : a.eval s = v) (hx : a.eval x = .slice A m c) (hown : W.ownsRow base e size v n xs) (hl : news.length = m * size) (hr : Rd W A news) (hA : A = none → m = 0) (hsp : ∀ a, A = some a → a.spot = none) (h1 : ∀ u ∈ news, u.oneCell' = true) (hb0 : base ≤ W.heap.size) (hbytes : (n + m) * bytes ≤ 140737488355328)
    (h : ∀ A' c' w', w'.ownsRow base e size (.slice A' (n + m) c') (n + m) (xs ++ news) → W.grownBy w' v.ownBlock → ((Value.slice A' (n + m) c').ownBlock = v.ownBlock ∨ (Value.slice A' (n + m) c').ownBlock = some W.heap.size) → K (a.put o.dst (.slice A' (n + m) c')) w') :
    if Region.wanted o (yielded ops a.tmps) = true then Oper.wp P o a W K Q else E := by
  have hw : Region.wanted o (yielded ops a.tmps) = true := by simp [Region.wanted, hgd]
  rw [if_pos hw]
  obtain ⟨v', w', hrun, h2, h3, h4⟩ := run_appS W ti o.type base hown A m c news hl hr hA hsp h1 hbytes hb0
  obtain ⟨A', c', rfl⟩ := own_succ h2
  unfold Oper.wp execOp
  simp only [ho, resolve, invoke, builtin, Sem.run_bind, Sem.run_pure, Result.andThen_ok, List.map_toArray, List.map_cons, List.map_nil, hs, hx, hrun]
  exact h A' c' w' h2 h3 h4
end Go.Proofs.Ytoidbgedpakjmaa.Lib
namespace Go.Proofs.Ytoidbgedpakjmaa.D10
open Go Go.RowKit Go.Proofs.Ytoidbgedpakjmaa.Lib Go.Proofs.Ytoidbgedpakjmaa.Sha Go.Proofs.Ytoidbgedpakjmaa.Itms Go.Proofs.Ytoidbgedpakjmaa.T08 Go.Proofs.Ytoidbgedpakjmaa.QTail Go.Proofs.Ytoidbgedpakjmaa.WSeq Go.Proofs.Ytoidbgedpakjmaa.Ord Go.Proofs.Ytoidbgedpakjmaa.W08 Go.Proofs.Ytoidbgedpakjmaa.Dif Go.Proofs.Ytoidbgedpakjmaa.Mp Go.Proofs.Ytoidbgedpakjmaa.Tree Go.Proofs.Ytoidbgedpakjmaa.Bld
attribute [local go_sem] Str_size Str_toList Str_extract
set_option maxRecDepth 100000 in
set_option maxHeartbeats 6400000 in
/-- a node of level 1 -/
theorem under1_any (S : Value) (sb B : Nat) (v pv bv : Value) (acc : List Itm) (A : Option Addr) (c : Nat) (l : List Itm) (hN : acc.length + l.length ≤ 1000000) (w : World) (hsB : sb < B) (hBw : B ≤ w.heap.size)
    (hs : w.heap[sb]? = some (Obj.cells #[v, pv, bv] 116 (0, 0))) (hown : w.ownsRow B 63 2 v acc.length (its acc)) (hrd : Rd w A (its l)) (hA : A = none → l.length = 0) (hsp : ∀ a, A = some a → a.spot = none) :
    Calls Try.prog 45 #[.pointer (some ⟨sb, 0, none⟩), S, .agg #[.int .i64 1, .slice A l.length c]] w fun e w' => e = .returned (.bool true) ∧ ∃ v', w'.heap[sb]? = some (Obj.cells #[v', pv, bv] 116 (0, 0)) ∧ w'.ownsRow B 63 2 v' (acc ++ l).length (its (acc ++ l)) ∧ Run.Mv (fun k => k = sb ∨ v.ownBlock = some k) w w' ∧ (v'.ownBlock = v.ownBlock ∨ ∃ q, v'.ownBlock = some q ∧ w.heap.size ≤ q) := by
  obtain ⟨w0, hw0⟩ : ∃ w0, w0 = w.alloc (Obj.cells #[.int .i64 1, .slice A l.length c] 56) := ⟨_, rfl⟩
  have hb0 : Below w.heap.size w w0 := by rw [hw0]; exact below_al (below_rf w) _
  have hz0 : w0.heap.size = w.heap.size + 1 := by rw [hw0]; simp
  have hbx : w0.heap[w.heap.size]? = some (Obj.cells #[.int .i64 1, .slice A l.length c] 56 (0, 0)) := by rw [hw0]; exact heap_new _ _
  have x0 : w0.cell? ⟨w.heap.size, 0, none⟩ = some (.int .i64 1) := by rw [Go.Lib.cell_of_heap hbx]; rfl
  have x1 : w0.cell? ⟨w.heap.size, 1, none⟩ = some (.slice A l.length c) := by rw [Go.Lib.cell_of_heap hbx]; rfl
  have hs0 := (hb0.block sb (Array.getElem?_eq_some_iff.1 hs).1).trans hs
  have s0 : w0.cell? ⟨sb, 0, none⟩ = some v := by rw [Go.Lib.cell_of_heap hs0]; rfl
  obtain ⟨Av, cv, rfl⟩ := own_succ hown
  have HS0 := hid hs0
  have HOWN := hid (show w0.drew.ownsRow B 63 2 (.slice Av acc.length cv) acc.length (its acc) from own_of_below hown (below_drewN hb0 1))
  have HRD := hid ((hrd.below hb0).drewN 1)
  have HZ := hid (show B ≤ w0.drew.heap.size by show B ≤ w0.heap.size; omega)
  have HA := hid hA
  have HSP := hid hsp
  have HBD := hid (show Below w.heap.size w w0.drew from below_drewN hb0 1)
  clear hb0 hbx hs hs0 hown hrd hz0 hA hsp
  go_enter Try.func45, Try.ntmps45
  go_wp2
  rw [← hw0]
  clear hw0
  go_region_law (refine step_appS ti_pair (.tmp 18) (.tmp 20) (by rfl) (by rfl) B A l.length c (its l) (by rfl) (by rfl) HOWN.out (by rw [its_len]; omega) HRD.out HA.out HSP.out (its_one _) HZ.out (by omega) ?_
                 intro A7 c7 w7 ho7 hg7 hv7
                 have hs7 : w7.heap[sb]? = some (Obj.cells #[.slice Av acc.length cv, pv, bv] 116 (0, 0)) := (Below.grown (Below.refl B w0.drew) hg7 HZ.out (fun q hq => own_block_base HOWN.out q hq)).block sb hsB |>.trans HS0.out
                 have q0 : w7.cell? ⟨sb, 0, none⟩ = some (.slice Av acc.length cv) := by rw [Go.Lib.cell_of_heap hs7]; rfl
                 have q1 : w7.frozen? ⟨sb, 0, none⟩ = false := Go.Lib.frozen_of_heap hs7 0)
  all_goals
    have HS7 := hid (heap_setCell_same w7 sb 0 _ _ (Value.slice A7 (acc.length + l.length) c7) hs7)
    have HO7 := hid (own_setCell ho7 ⟨sb, 0, none⟩ (Value.slice A7 (acc.length + l.length) c7) (fun e => by have h9 := own_block_base ho7 _ e; simp only at h9; omega))
    have HMV := hid (show Run.Mv (fun k => k = sb ∨ (Value.slice Av acc.length cv).ownBlock = some k) w (w7.setCell ⟨sb, 0, none⟩ (Value.slice A7 (acc.length + l.length) c7)) from
      (((Run.Mv.of_below (O := fun _ => False) HBD.out).trans (Run.Mv.grown (O := fun k => k = sb ∨ (Value.slice Av acc.length cv).ownBlock = some k) hg7 (fun k hk _ => .inr hk)) (O := fun k => k = sb ∨ (Value.slice Av acc.length cv).ownBlock = some k) (fun _ h => h.elim) (fun _ _ h => h)).trans (Run.Mv.setCell (O := fun k => k = sb) w7 ⟨sb, 0, none⟩ _ rfl) (fun _ h => h) (fun _ _ h => .inl h)))
    have HV7 := hid (show (Value.slice A7 (acc.length + l.length) c7).ownBlock = (Value.slice Av acc.length cv).ownBlock ∨ ∃ q, (Value.slice A7 (acc.length + l.length) c7).ownBlock = some q ∧ w.heap.size ≤ q by
      rcases hv7 with h | h
      · exact .inl h
      · exact .inr ⟨_, h, HBD.out.size⟩)
    clear ho7 hg7 hv7 hs7 q0 q1
    go_wp2
    go_ret
    exact ⟨rfl, _, HS7.out, by rw [its_app, List.length_append]; exact HO7.out, HMV.out, HV7.out⟩
end Go.Proofs.Ytoidbgedpakjmaa.D10
namespace Go.Proofs.Ytoidbgedpakjmaa.D10
open Go Go.RowKit Go.Proofs.Ytoidbgedpakjmaa.Lib Go.Proofs.Ytoidbgedpakjmaa.Sha Go.Proofs.Ytoidbgedpakjmaa.Itms Go.Proofs.Ytoidbgedpakjmaa.T08 Go.Proofs.Ytoidbgedpakjmaa.QTail Go.Proofs.Ytoidbgedpakjmaa.WSeq Go.Proofs.Ytoidbgedpakjmaa.Ord Go.Proofs.Ytoidbgedpakjmaa.W08 Go.Proofs.Ytoidbgedpakjmaa.Dif Go.Proofs.Ytoidbgedpakjmaa.Mp Go.Proofs.Ytoidbgedpakjmaa.Tree Go.Proofs.Ytoidbgedpakjmaa.Bld
attribute [local go_sem] Str_size Str_toList Str_extract
theorem heapT_mv {O : Nat → Prop} {W W1 : World} {hb mb n : Nat} {f} (h : HeapT W hb mb n f) (hm : Run.Mv O W W1) (h1 : ¬ O hb) (h2 : ¬ O mb) : HeapT W1 hb mb n f := by
  obtain ⟨g1, D, ⟨es, clock, g2, F, hs, hD⟩, h3⟩ := h
  exact ⟨(hm.block hb (Array.getElem?_eq_some_iff.1 g1).1 h1).trans g1, D, ⟨es, clock, (hm.block mb (Array.getElem?_eq_some_iff.1 g2).1 h2).trans g2, F, hs, hD⟩, h3⟩
theorem rdU_mv {O : Nat → Prop} {W W' : World} {A : Option Addr} {xs : List Value} (h : Rd W A xs) (hm : Run.Mv O W W') (hn : ∀ b o, A = some ⟨b, o, none⟩ → ¬ O b) : Rd W' A xs := by
  rcases h with h | ⟨b, o, rfl, h⟩
  · exact .inl h
  · exact .inr ⟨b, o, rfl, fun i v hi => hm.cell (h i v hi) (hn b o rfl)⟩
/-- what may change: the side, and the row that its items own -/
def OU (sb : Nat) (v : Value) (k : Nat) : Prop := k = sb ∨ v.ownBlock = some k
def FreshU (w : World) (v v' : Value) : Prop := v'.ownBlock = v.ownBlock ∨ ∃ q, v'.ownBlock = some q ∧ w.heap.size ≤ q
def UnderC (hb mb n : Nat) (F : Src) (k : Nat) : Prop := ∀ (sb B : Nat) (v pv bv : Value) (acc : List Itm) (A : Option Addr) (c : Nat) (l : List Itm) (w : World), sb < B → B ≤ w.heap.size → hb < sb → mb < sb →
  w.heap[sb]? = some (Obj.cells #[v, pv, bv] 116 (0, 0)) → w.ownsRow B 63 2 v acc.length (its acc) → Rd w A (its l) → (A = none → l.length = 0) → (∀ a, A = some a → a.spot = none) → (∀ b o, A = some ⟨b, o, none⟩ → ¬ OU sb v b) →
  (∀ x ∈ l, okVal (k + 1) x.2 = true) → l.length ≤ 16 → acc.length + cnt (k + 1) l ≤ 1000000 → HeapT w hb mb n F →
  Calls Try.prog 45 #[.pointer (some ⟨sb, 0, none⟩), .iface 31 (.pointer (some ⟨hb, 0, none⟩)), .agg #[.int .i64 ((k + 1 : Nat) : Int), .slice A l.length c]] w fun e w' =>
    Run.Mv (OU sb v) w w' ∧ ((e = .returned (.bool false) ∧ underP F k l = none) ∨ (e = .returned (.bool true) ∧ ∃ v' ys, underP F k l = some ys ∧ w'.heap[sb]? = some (Obj.cells #[v', pv, bv] 116 (0, 0)) ∧ w'.ownsRow B 63 2 v' (acc ++ ys).length (its (acc ++ ys)) ∧ FreshU w v v'))
theorem under_zero (hb mb n : Nat) (F : Src) : UnderC hb mb n F 0 := by
  intro sb B v pv bv acc A c l w h1 h2 h3 h4 hs hown hrd hA hsp hne hv h16 hN hH
  have hl := cnt_len 1 l (by omega) hv
  refine (under1_any (.iface 31 (.pointer (some ⟨hb, 0, none⟩))) sb B v pv bv acc A c l (by have : cnt (0 + 1) l = cnt 1 l := rfl; omega) w h1 h2 hs hown hrd hA hsp).mono ?_
  rintro e w' ⟨rfl, v', q1, q2, q3, q4⟩
  exact ⟨q3, .inr ⟨rfl, v', l, rfl, q1, q2, q4⟩⟩
theorem under_at (F : Src) (k : Nat) (l : List Itm) (j : Nat) (h : j < l.length) : underP F (k + 1) (l.drop j) = match belowP F (k + 2) (itm l j) with
    | none => none
    | some n => match underP F k n.2 with
      | none => none
      | some ys => (underP F (k + 1) (l.drop (j + 1))).map (ys ++ ·) := by
  first
    | (rw [drop_at l j h, under_cons]; done)
    | (rw [drop_at l j h, under_cons]
       cases belowP F (k + 2) (itm l j) with
       | none => rfl
       | some n => cases underP F k n.2 <;> rfl)
theorem cnt_drop (lv : Nat) (l : List Itm) (j : Nat) (h : j < l.length) : cnt lv (l.drop j) = Tree.wt lv (itm l j) + cnt lv (l.drop (j + 1)) := by
  rw [drop_at l j h]; simp [cnt]
set_option maxRecDepth 100000 in
set_option maxHeartbeats 8000000 in
theorem under_succ (hb mb n : Nat) (F : Src) (hF : ∀ k s, F k = some s → s.length ≤ 1000000000) (k : Nat) (hk : k ≤ 100) (ih : UnderC hb mb n F k) : UnderC hb mb n F (k + 1) := by
  intro sb B v pv bv acc A c l w h1 h2 h3 h4 hs hown hrd hA hsp hne hv h16 hN hH
  obtain ⟨w0, hw0⟩ : ∃ w0, w0 = w.alloc (Obj.cells #[.int .i64 ((k + 1 + 1 : Nat) : Int), .slice A l.length c] 56) := ⟨_, rfl⟩
  have hb0 : Below w.heap.size w w0 := by rw [hw0]; exact below_al (below_rf w) _
  have hz0 : w0.heap.size = w.heap.size + 1 := by rw [hw0]; simp
  have hbx : w0.heap[w.heap.size]? = some (Obj.cells #[.int .i64 ((k + 1 + 1 : Nat) : Int), .slice A l.length c] 56 (0, 0)) := by rw [hw0]; exact heap_new _ _
  have x0 : w0.cell? ⟨w.heap.size, 0, none⟩ = some (.int .i64 ((k + 1 + 1 : Nat) : Int)) := by rw [Go.Lib.cell_of_heap hbx]; rfl
  have x1 : w0.cell? ⟨w.heap.size, 1, none⟩ = some (.slice A l.length c) := by rw [Go.Lib.cell_of_heap hbx]; rfl
  have g1 : (((k + 1 + 1 : Nat) : Int) == 1) = false := beq_eq_false_iff_ne.2 (by omega)
  obtain ⟨K2, hK2⟩ : ∃ K2, K2 = k + 1 + 1 := ⟨_, rfl⟩
  have HK2 := hid hK2
  rw [← hK2] at hw0 hbx x0 g1 ⊢
  have hnb : ¬ OU sb v w.heap.size := by
    rintro (h | h)
    · omega
    · have := own_lt hown _ h; omega
  have hOhb : ¬ OU sb v hb := by
    rintro (h | h)
    · omega
    · have := own_block_base hown _ h; omega
  have hOmb : ¬ OU sb v mb := by
    rintro (h | h)
    · omega
    · have := own_block_base hown _ h; omega
  obtain ⟨R, hR⟩ : ∃ R, R = underP F (k + 1) l := ⟨_, rfl⟩
  rw [← hR]
  have HR := hid hR
  have HS0 := hid ((hb0.block sb (by omega)).trans hs)
  have HOWN := hid (own_of_below hown hb0)
  have HRD := hid (hrd.below hb0)
  have HH0 := hid (hH.below hb0)
  have HBX := hid hbx
  have HB0 := hid hb0
  have HZ0 := hid hz0
  have HV := hid hv
  have HNE := hid hne
  have HNB := hid hnb
  have HOH := hid hOhb
  have HOM := hid hOmb
  have HN := hid hN
  have HF := hid hF
  have HIH := hid ih
  have HMW := hid (show Run.Mv (OU sb v) w w0 from Run.Mv.of_below hb0)
  clear hs hown hrd hH hbx hb0 hz0 hv hne hnb hOhb hOmb hN hF ih hR hK2 hA hsp
  go_enter Try.func45, Try.ntmps45
  go_wp2
  rw [← hw0]
  clear hw0 x0 x1 g1
  go_loopw [27] (fun jv wr => ∃ (j : Nat) (vj : Value) (ys : List Itm), j ≤ l.length ∧ jv = .int .i64 (j : Int) ∧ Hid (wr.heap[sb]? = some (Obj.cells #[vj, pv, bv] 116 (0, 0))) ∧ Hid (wr.ownsRow B 63 2 vj (acc ++ ys).length (its (acc ++ ys))) ∧ Hid (R = (underP F (k + 1) (l.drop j)).map (ys ++ ·)) ∧ Hid (Run.Mv (OU sb v) w0 wr) ∧ Hid (FreshU w0 v vj) ∧ Hid ((acc ++ ys).length + cnt (k + 1 + 1) (l.drop j) ≤ 1000000)) (fun jv _ => l.length - (intOf jv).toNat)
  case atStart => exact ⟨0, v, [], by omega, rfl, HS0, hid (by rw [List.append_nil]; exact HOWN.out), hid (by rw [HR.out, List.drop_zero]; cases underP F (k + 1) l <;> rfl), hid (Run.Mv.refl _ _), hid (.inl rfl), hid (by rw [List.append_nil, List.drop_zero]; exact HN.out)⟩
  case round =>
    obtain ⟨j, vj, ys, hj, rfl, HSJ, HOJ, HRJ, HMJ, HFJ, HNJ⟩ := hrel
    by_cases hlt : j < l.length
    · obtain ⟨ba, oa, rfl, hc1, hc2⟩ := rd_itm (rdU_mv HRD.out HMJ.out HNE.out) hlt
      have hx40 := okVal_len (HV.out (itm l j) (by rw [itm_eq l j hlt]; exact List.getElem_mem _)) (by omega)
      have hat := under_at F k l j hlt
      have hcd := cnt_drop (k + 1 + 1) l j hlt
      have hk2 : k + 2 = K2 := by have := HK2.out; omega
      rw [hk2] at hat
      obtain ⟨⟨xk, xv⟩, hx⟩ : ∃ x, x = itm l j := ⟨_, rfl⟩
      rw [← hx] at hc1 hc2 hx40 hat hcd
      dsimp only at hc1 hc2 hx40
      obtain ⟨w5, hw5⟩ : ∃ w5, w5 = wr.alloc (Obj.cells #[.string (Str xk), .string (Str xv)] 63) := ⟨_, rfl⟩
      have hb5 : Below wr.heap.size wr w5 := by rw [hw5]; exact below_al (below_rf wr) _
      have hy5 : w5.heap[wr.heap.size]? = some (Obj.cells #[.string (Str xk), .string (Str xv)] 63 (0, 0)) := by rw [hw5]; exact heap_new _ _
      have hbn := (HMJ.out.block w.heap.size (by have := HZ0.out; omega) HNB.out).trans HBX.out
      have hn5 := (hb5.block w.heap.size (Array.getElem?_eq_some_iff.1 hbn).1).trans hbn
      have y0 : w5.cell? ⟨wr.heap.size, 0, none⟩ = some (.string (Str xk)) := by rw [Go.Lib.cell_of_heap hy5]; rfl
      have y1 : w5.cell? ⟨wr.heap.size, 1, none⟩ = some (.string (Str xv)) := by rw [Go.Lib.cell_of_heap hy5]; rfl
      have z0 : w5.cell? ⟨w.heap.size, 0, none⟩ = some (.int .i64 (K2 : Int)) := by rw [Go.Lib.cell_of_heap hn5]; rfl
      have z1 : w5.cell? ⟨w.heap.size, 1, none⟩ = some (.slice (some ⟨ba, oa, none⟩) l.length c) := by rw [Go.Lib.cell_of_heap hn5]; rfl
      have HS5 := hid ((hb5.block sb (Array.getElem?_eq_some_iff.1 HSJ.out).1).trans HSJ.out)
      have HO5 := hid (own_of_below HOJ.out hb5)
      have HM5 := hid (HMJ.out.trans (Run.Mv.of_below (O := fun _ => False) hb5) (O := OU sb v) (fun _ h => h) (fun _ _ h => h.elim))
      have HH5 := hid ((heapT_mv HH0.out HMJ.out HOH.out HOM.out).below hb5)
      have HX40 := hid hx40
      have HAT := hid hat
      have HCD := hid hcd
      have HBE := hid (show Calls Try.prog 46 #[.agg #[.int .i64 (K2 : Int), .slice (some ⟨ba, oa, none⟩) l.length c], .iface 31 (.pointer (some ⟨hb, 0, none⟩)), .agg #[.string (Str xk), .string (Str xv)]] w5 fun e w' => BelowOut w5.heap.size (belowP F K2 (xk, xv)) e w' ∧ Below w5.heap.size w5 w' from below_any hb mb n F HF.out K2 (some ⟨ba, oa, none⟩) l.length c (xk, xv) (by omega) HX40.out w5 HH5.out)
      have hwx := hw5
      rw [hw5] at y0 y1 z0 z1
      clear hx hb5 hy5 hbn hn5 hx40 hat hcd
      go_wp2_with fail
      rw [← hw5]
      (with_reducible refine HBE.out.mono ?_); rintro e w6 ⟨ho, hb6⟩
      have HM6 := hid (HM5.out.trans (Run.Mv.of_below (O := fun _ => False) hb6) (O := OU sb v) (fun _ h => h) (fun _ _ h => h.elim))
      have HS6 := hid ((hb6.block sb (Array.getElem?_eq_some_iff.1 HS5.out).1).trans HS5.out)
      have HO6 := hid (own_of_below HO5.out hb6)
      have HH6 := hid (HH5.out.below hb6)
      have HZ6 := hid hb6.size
      clear hb6 HBE y0 y1 z0 z1 hw5 hwx
      rcases ho with ⟨hn, k', A', n', c', rfl⟩ | ⟨m, zs, u, hs, rfl, howny⟩
      · have HRN := hid (show R = none by rw [HRJ.out, HAT.out, hn]; rfl)
        clear hn
        go_wp2
        go_ret
        refine ⟨(HMW.out.trans HM6.out (O := OU sb v) (fun _ h => h) (fun _ _ h => h)).trans (Run.Mv.alloc (O := fun _ => False) _ _) (fun _ h => h) (fun _ _ h => h.elim), .inl ⟨rfl, HRN.out⟩⟩
      · have HBASE := hid (own_block_base howny)
        obtain ⟨Ay, cy, rfl, hcy, hry, hAy, hspy⟩ := Rd.own' howny
        have hcn := below_cnt hs
        obtain ⟨hm1, _, _, _, hat⟩ := below_lv hs
        dsimp only at hm1 hat hcn
        have hmk : m = k + 1 := by have := HK2.out; omega
        obtain ⟨_, hz16, hzv, _, _⟩ := at_facts hat
        have HRN := hid (show R = (match underP F k zs with | none => none | some qs => (underP F (k + 1) (l.drop (j + 1))).map (qs ++ ·)).map (ys ++ ·) by rw [HRJ.out, HAT.out, hs])
        obtain ⟨w7, hw7⟩ : ∃ w7, w7 = w6.alloc (Obj.cells #[.int .i64 (m : Int), .slice Ay zs.length cy] 56) := ⟨_, rfl⟩
        have hb7 : Below w6.heap.size w6 w7 := by rw [hw7]; exact below_al (below_rf w6) _
        have hz7 : w7.heap.size = w6.heap.size + 1 := by rw [hw7]; simp
        have HM7 := hid (HM6.out.trans (Run.Mv.of_below (O := fun _ => False) hb7) (O := OU sb v) (fun _ h => h) (fun _ _ h => h.elim))
        have n7 : w7.heap[w6.heap.size]? = some (Obj.cells #[.int .i64 (m : Int), .slice Ay zs.length cy] 56 (0, 0)) := by rw [hw7]; exact heap_new _ _
        have e0 : w7.cell? ⟨w6.heap.size, 0, none⟩ = some (.int .i64 (m : Int)) := by rw [Go.Lib.cell_of_heap n7]; rfl
        have e1 : w7.cell? ⟨w6.heap.size, 1, none⟩ = some (.slice Ay zs.length cy) := by rw [Go.Lib.cell_of_heap n7]; rfl
        have hwt : Tree.wt (k + 1 + 1) (xk, xv) = told xv := by unfold Tree.wt; rw [if_neg (by omega)]
        have hcz : cnt (k + 1) zs = told xv := by rw [← hmk]; exact hcn
        have HCT := hid hcz
        have HWT := hid hwt
        have HZV := hid (show ∀ x ∈ zs, okVal (k + 1) x.2 = true by rw [← hmk]; exact hzv)
        have HZ7 := hid (show w0.heap.size ≤ w7.heap.size from HM7.out.size)
        have HCALL := hid (show Calls Try.prog 45 #[.pointer (some ⟨sb, 0, none⟩), .iface 31 (.pointer (some ⟨hb, 0, none⟩)), .agg #[.int .i64 (m : Int), .slice Ay zs.length cy]] w7 fun e w' =>
            Run.Mv (OU sb vj) w7 w' ∧ ((e = .returned (.bool false) ∧ underP F k zs = none) ∨ (e = .returned (.bool true) ∧ ∃ v' qs, underP F k zs = some qs ∧ w'.heap[sb]? = some (Obj.cells #[v', pv, bv] 116 (0, 0)) ∧ w'.ownsRow B 63 2 v' ((acc ++ ys) ++ qs).length (its ((acc ++ ys) ++ qs)) ∧ FreshU w7 vj v')) from by
          rw [hmk]
          refine HIH.out sb B vj pv bv (acc ++ ys) Ay cy zs w7 h1 (by have := HZ0.out; have := HZ7.out; omega) h3 h4 ((hb7.block sb (Array.getElem?_eq_some_iff.1 HS6.out).1).trans HS6.out) (own_of_below HO6.out hb7) (hry.below hb7) hAy hspy ?_ HZV.out hz16 ?_ (HH6.out.below hb7)
          · rintro b o rfl hO
            have h9 := HBASE.out b rfl
            rcases hO with h | h
            · have := HM5.out.size; have := HZ0.out; omega
            · have := own_lt HO5.out _ h; omega
          · have q1 := HNJ.out; rw [HCD.out, HWT.out] at q1; rw [HCT.out]; omega)
        clear howny hry hs hat hm1 hb7 n7 hcn hwt hcz hzv hAy hspy hmk
        have hwy := hw7
        rw [hw7] at e0 e1
        go_wp2_with fail
        rw [← hw7]
        (with_reducible refine HCALL.out.mono ?_); rintro e w8 ⟨hm8, ⟨rfl, hnone⟩ | ⟨rfl, v8, qs, g1, g2, g3, g4⟩⟩
        all_goals
          have HM8 := hid (HM7.out.trans hm8 (O := OU sb v) (fun _ h => h) (fun i hi hO => by
            rcases hO with h | h
            · exact .inl h
            · rcases HFJ.out with h5 | ⟨q, h5, h6⟩
              · exact .inr (h5 ▸ h)
              · rw [h5] at h; injection h with h; omega))
          have hz8 := hm8.size
        · have HRE := hid (show R = none by rw [HRN.out, hnone]; rfl)
          clear e0 e1 hw7 hwy
          go_wp2
          go_ret
          exact ⟨HMW.out.trans HM8.out (fun _ h => h) (fun _ _ h => h), .inl ⟨rfl, HRE.out⟩⟩
        · have HRE := hid (show R = (underP F (k + 1) (l.drop (j + 1))).map ((ys ++ qs) ++ ·) by
            rw [HRN.out, g1]
            dsimp only
            cases underP F (k + 1) (l.drop (j + 1)) <;> simp)
          have HNE2 := hid (show (acc ++ (ys ++ qs)).length + cnt (k + 1 + 1) (l.drop (j + 1)) ≤ 1000000 by
            have q1 := HNJ.out
            rw [HCD.out, HWT.out] at q1
            have q2 := under_len F k zs qs HZV.out g1
            rw [HCT.out] at q2
            simp only [List.length_append] at q1 ⊢
            omega)
          have HFE := hid (show FreshU w0 v v8 by
            rcases g4 with h | ⟨q, h, h'⟩
            · rcases HFJ.out with h5 | ⟨q, h5, h6⟩
              · exact .inl (h.trans h5)
              · exact .inr ⟨q, h.trans h5, h6⟩
            · exact .inr ⟨q, h, Nat.le_trans HZ7.out h'⟩)
          have HSE := hid g2
          have HOE := hid (show w8.ownsRow B 63 2 v8 (acc ++ (ys ++ qs)).length (its (acc ++ (ys ++ qs))) by rw [← List.append_assoc]; exact g3)
          clear e0 e1 hw7 hwy g1 g2 g3 g4 hm8
          go_wp2
          go_roundw
          case rel => exact ⟨j + 1, v8, ys ++ qs, by omega, by go_num, HSE, HOE, HRE, HM8, HFE, HNE2⟩
          case measure => simp [intOf]; omega
    · obtain rfl : j = l.length := by omega
      have HRE := hid (show R = some ys by rw [HRJ.out, List.drop_length, under_nil]; simp)
      go_wp2
      go_ret
      refine ⟨HMW.out.trans HMJ.out (fun _ h => h) (fun _ _ h => h), .inr ⟨rfl, vj, ys, HRE.out, HSJ.out, HOJ.out, ?_⟩⟩
      rcases HFJ.out with h | ⟨q, h, h'⟩
      · exact .inl h
      · exact .inr ⟨q, h, by have := HZ0.out; omega⟩
theorem under_all (hb mb n : Nat) (F : Src) (hF : ∀ k s, F k = some s → s.length ≤ 1000000000) : ∀ k, k ≤ 100 → UnderC hb mb n F k := by
  intro k
  induction k with
  | zero => intro _; exact under_zero hb mb n F
  | succ k ih => intro hk; exact under_succ hb mb n F hF k (by omega) (ih (by omega))
end Go.Proofs.Ytoidbgedpakjmaa.D10
namespace Go.Proofs.Ytoidbgedpakjmaa.D10
open Go Go.RowKit Go.Proofs.Ytoidbgedpakjmaa.Lib Go.Proofs.Ytoidbgedpakjmaa.Sha Go.Proofs.Ytoidbgedpakjmaa.Itms Go.Proofs.Ytoidbgedpakjmaa.T08 Go.Proofs.Ytoidbgedpakjmaa.QTail Go.Proofs.Ytoidbgedpakjmaa.WSeq Go.Proofs.Ytoidbgedpakjmaa.Ord Go.Proofs.Ytoidbgedpakjmaa.W08 Go.Proofs.Ytoidbgedpakjmaa.Dif Go.Proofs.Ytoidbgedpakjmaa.Mp Go.Proofs.Ytoidbgedpakjmaa.Tree Go.Proofs.Ytoidbgedpakjmaa.Bld
attribute [local go_sem] Str_size Str_toList Str_extract
def ParseXOut (B : Nat) (r : Option (Nat × List Itm)) (e : Ending) (W : World) : Prop :=
  (r = none ∧ e = .returned (.tuple #[.int .i64 0, .slice none 0 0, .bool false])) ∨
  ∃ lv l v, r = some (lv, l) ∧ e = .returned (.tuple #[.int .i64 (lv : Int), v, .bool true]) ∧ W.ownsRow B 63 2 v l.length (its l)
set_option maxRecDepth 100000 in
theorem parsex_any (s : List UInt8) (hs : s.length ≤ 1000000000) (w : World) :
    Calls Try.prog 44 #[.string (Str s)] w fun e w' => ParseXOut w.heap.size (parseS s) e w' ∧ Below w.heap.size w w' := by
  go_enter Try.func44, Try.ntmps44
  go_wp2_with fail
  refine (parse_any s w hs).mono ?_; rintro e w1 ⟨ho, hb1⟩
  rcases ho with ⟨hn, rfl⟩ | ⟨lv', P', v, hp, rfl, hown⟩
  · have HN := hid hn
    have HB := hid (below_tr hb1 (below_al (below_rf w1) (Obj.cells #[.int .i64 0, .slice none 0 0] 56)))
    clear hn hb1
    go_wp2
    go_quiet (fail)
    go_wp2
    go_ret3
    exact ⟨.inl ⟨HN.out, rfl⟩, below_drewN HB.out _⟩
  · obtain ⟨Av, cv, rfl⟩ := own_succ hown
    have HP := hid hp
    have hal : Below w1.heap.size w1 (w1.alloc (Obj.cells #[.int .i64 (lv' : Int), .slice Av P'.length cv] 56)) := below_al (below_rf w1) _
    have HO := hid (own_of_below hown hal)
    have HB := hid (below_tr hb1 hal)
    clear hown hb1 hal hp
    go_wp2
    go_quiet (fail)
    go_wp2
    go_ret3
    exact ⟨.inr ⟨_, _, _, HP.out, rfl, HO.out⟩, below_drewN HB.out _⟩
/-- a tree's side: one node's pairs, or all items of level 1 -/
def readS (F : Src) (root : List UInt8) : Option (List Itm ⊕ List Itm) := match atS F root with
  | none => none
  | some (0, l) => some (.inl l)
  | some (k + 1, l) => (underP F k l).map .inr
def SideAt (B : Nat) (W : World) (q : Nat) : List Itm ⊕ List Itm → Prop
  | .inl ps => ∃ v, W.heap[q]? = some (Obj.cells #[.slice none 0 0, v, .bool true] 116 (0, 0)) ∧ W.ownsRow B 63 2 v ps.length (its ps)
  | .inr ls => ∃ v, W.heap[q]? = some (Obj.cells #[v, .slice none 0 0, .bool false] 116 (0, 0)) ∧ W.ownsRow B 63 2 v ls.length (its ls)
def ReadOut (B : Nat) (r : Option (List Itm ⊕ List Itm)) (e : Ending) (W : World) : Prop :=
  (r = none ∧ ∃ p, e = .returned (.tuple #[.pointer p, .bool false])) ∨
  ∃ s q, r = some s ∧ B ≤ q ∧ e = .returned (.tuple #[.pointer (some ⟨q, 0, none⟩), .bool true]) ∧ SideAt B W q s
set_option maxRecDepth 100000 in
set_option maxHeartbeats 3200000 in
theorem read_any (hb mb n : Nat) (F : Src) (hF : ∀ k s, F k = some s → s.length ≤ 1000000000) (root : List UInt8) (hk : root.length ≤ 1000000000) (hN : ∀ k l, atS F root = some (k + 1, l) → cnt (k + 1) l ≤ 1000000) (w : World) (hH : HeapT w hb mb n F) (hhb : hb < w.heap.size) (hmb : mb < w.heap.size) :
    Calls Try.prog 25 #[.iface 31 (.pointer (some ⟨hb, 0, none⟩)), .string (Str root)] w fun e w' => ReadOut w.heap.size (readS F root) e w' ∧ Below w.heap.size w w' := by
  have hmg := method_get
  have HH := hid hH
  have HF := hid hF
  have HN := hid hN
  clear hF hN
  go_enter Try.func25, Try.ntmps25
  go_wp2_with fail
  refine (get_any hb mb n F root hk _ HH.out).mono ?_; rintro e w2 ⟨rfl, e2⟩
  rw [e2]
  clear e2 w2
  cases hfk : F root with
  | none =>
    have HA := hid (show readS F root = none by unfold readS atS; rw [hfk])
    clear hfk
    go_wp2
    go_ret2
    exact ⟨.inl ⟨HA.out, _, rfl⟩, below_rf w⟩
  | some s =>
    have HA := hid (show atS F root = parseS s by unfold atS; rw [hfk])
    have hsl := HF.out root s hfk
    clear hfk
    go_wp2_with fail
    refine (parsex_any s hsl w).mono ?_; rintro e w3 ⟨ho, hb3⟩
    rcases ho with ⟨hp, rfl⟩ | ⟨lv, l, v, hp, rfl, hown⟩
    · have HP := hid (show readS F root = none by unfold readS; rw [HA.out, hp])
      have HB3 := hid hb3
      clear hp hb3
      go_wp2
      go_ret2
      exact ⟨.inl ⟨HP.out, _, rfl⟩, HB3.out⟩
    · obtain ⟨A, c, rfl, hcy, hry, hAy, hspy⟩ := Rd.own' hown
      have HB3 := hid hb3
      have HOW := hid hown
      have HAT := hid (show atS F root = some (lv, l) by rw [HA.out, hp])
      clear hp hown hb3
      cases lv with
      | zero =>
        have HR := hid (show readS F root = some (.inl l) by unfold readS; rw [HAT.out])
        go_wp2
        go_ret2
        have hal : Below w3.heap.size w3 (w3.alloc (Obj.cells #[.slice none 0 0, .slice A l.length c, .bool true] 116)) := below_al (below_rf w3) _
        exact ⟨.inr ⟨_, _, HR.out, HB3.out.size, rfl, _, heap_new _ _, own_of_below HOW.out hal⟩, HB3.out.trans (hal.mono HB3.out.size)⟩
      | succ k =>
        have HR := hid (show readS F root = (underP F k l).map .inr by unfold readS; rw [HAT.out])
        have g0 : (((k + 1 : Nat) : Int) == 0) = false := beq_eq_false_iff_ne.2 (by omega)
        obtain ⟨h32, h16, hv, _, _⟩ := at_facts HAT.out
        obtain ⟨w4, hw4⟩ : ∃ w4, w4 = w3.alloc (Obj.cells #[.slice none 0 0, .slice none 0 0, .bool false] 116) := ⟨_, rfl⟩
        have hb4 : Below w3.heap.size w3 w4 := by rw [hw4]; exact below_al (below_rf w3) _
        have hz4 : w4.heap.size = w3.heap.size + 1 := by rw [hw4]; simp
        have hs4 : w4.heap[w3.heap.size]? = some (Obj.cells #[.slice none 0 0, .slice none 0 0, .bool false] 116 (0, 0)) := by rw [hw4]; exact heap_new _ _
        have HB4 := hid (HB3.out.trans (hb4.mono HB3.out.size))
        have HZ4 := hid hz4
        have hsz := HB3.out.size
        have HCALL := hid (under_all hb mb n F HF.out k (by omega) w3.heap.size (w3.heap.size + 1) (.slice none 0 0) (.slice none 0 0) (.bool false) [] A c l w4 (by omega) (by omega) (by omega) (by omega) hs4 (own_nil _ _ _ _) (hry.below hb4) hAy hspy (by
            rintro b o rfl hO
            have h9 := own_lt HOW.out b rfl
            rcases hO with h | h
            · omega
            · cases h) hv h16 (by have := HN.out k l HAT.out; simpa using this) (HH.out.below HB4.out))
        clear hs4 hz4 hb4
        go_wp2_with fail
        rw [← hw4]
        clear hw4
        refine Calls.mono HCALL.out ?_; rintro e w8 ⟨hm8, ⟨rfl, hnone⟩ | ⟨rfl, v8, qs, g1, g2, g3, g4⟩⟩
        all_goals
          have HB8 := hid (HB4.out.trans (hm8.below (n := w.heap.size) (by have := HZ4.out; omega) (fun i hi hO => by
            rcases hO with h | h
            · omega
            · cases h)))
        · have HE := hid (show readS F root = none by rw [HR.out, hnone]; rfl)
          clear hnone hm8
          go_wp2
          go_ret2
          exact ⟨.inl ⟨HE.out, _, rfl⟩, HB8.out⟩
        · have HE := hid (show readS F root = some (.inr qs) by rw [HR.out, g1]; rfl)
          have HG := hid g2
          have HO := hid (own_base g3 (by omega : w.heap.size ≤ w3.heap.size + 1))
          clear hm8 g1 g2 g3 g4
          go_wp2
          go_ret2
          exact ⟨.inr ⟨_, _, HE.out, HB3.out.size, rfl, v8, HG.out, HO.out⟩, HB8.out⟩
end Go.Proofs.Ytoidbgedpakjmaa.D10
namespace Go.Proofs.Ytoidbgedpakjmaa.D10
open Go Go.RowKit Go.Proofs.Ytoidbgedpakjmaa.Lib Go.Proofs.Ytoidbgedpakjmaa.Sha Go.Proofs.Ytoidbgedpakjmaa.Itms Go.Proofs.Ytoidbgedpakjmaa.T08 Go.Proofs.Ytoidbgedpakjmaa.QTail Go.Proofs.Ytoidbgedpakjmaa.WSeq Go.Proofs.Ytoidbgedpakjmaa.Ord Go.Proofs.Ytoidbgedpakjmaa.W08 Go.Proofs.Ytoidbgedpakjmaa.Dif Go.Proofs.Ytoidbgedpakjmaa.Mp Go.Proofs.Ytoidbgedpakjmaa.Tree Go.Proofs.Ytoidbgedpakjmaa.Bld
/-- what a side's names and rest need of it -/
def SideOk : List Itm ⊕ List Itm → Prop
  | .inl _ => True
  | .inr ls => ls.length ≤ 100000 ∧ ∀ x ∈ ls, x.2.length = 40
def namesF (root : List UInt8) : List Itm ⊕ List Itm → List UInt8 → Bool
  | .inl _ => nmF true root []
  | .inr ls => nmF false root ls
def restS (F : Src) (root : List UInt8) (f : List UInt8 → Bool) : List Itm ⊕ List Itm → Option (List Itm)
  | .inl ps => some (if f root = true then [] else ps)
  | .inr ls => restL F f ls
theorem SideAt.below {B : Nat} {W W1 : World} {q : Nat} {s : List Itm ⊕ List Itm} (h : SideAt B W q s) (hb : Below W.heap.size W W1) : SideAt B W1 q s := by
  cases s with
  | inl ps => obtain ⟨v, h1, h2⟩ := h; exact ⟨v, (hb.block q (Array.getElem?_eq_some_iff.1 h1).1).trans h1, own_of_below h2 hb⟩
  | inr ls => obtain ⟨v, h1, h2⟩ := h; exact ⟨v, (hb.block q (Array.getElem?_eq_some_iff.1 h1).1).trans h1, own_of_below h2 hb⟩
theorem side_names (B q : Nat) (s : List Itm ⊕ List Itm) (root : List UInt8) (hroot : root.length ≤ 1000000000) (ho : SideOk s) (w : World) (hs : SideAt B w q s) :
    Calls Try.prog 27 #[.pointer (some ⟨q, 0, none⟩), .string (Str root)] w fun e w' => (∃ mb n, e = .returned (.map (some mb)) ∧ MapB w' mb n (namesF root s)) ∧ Below w.heap.size w w' := by
  cases s with
  | inl ps =>
    obtain ⟨v, h1, h2⟩ := hs
    obtain ⟨A, c, rfl, _, _, _, _⟩ := Rd.own' h2
    refine (names_any q none A 0 ps.length c true [] root (by simp) (by simp) hroot w h1 (.inl (by rfl))).mono ?_
    rintro e w' ⟨⟨mb, n, h3, _, h4⟩, h5⟩
    exact ⟨⟨mb, n, h3, h4⟩, h5⟩
  | inr ls =>
    obtain ⟨v, h1, h2⟩ := hs
    obtain ⟨A, c, rfl, _, hr, _, _⟩ := Rd.own' h2
    refine (names_any q A none c 0 0 false ls root (by have := ho.1; omega) ho.2 hroot w h1 hr).mono ?_
    rintro e w' ⟨⟨mb, n, h3, _, h4⟩, h5⟩
    exact ⟨⟨mb, n, h3, h4⟩, h5⟩
theorem side_rest (hb mb n : Nat) (F : Src) (hF : ∀ k s, F k = some s → s.length ≤ 1000000000) (B q : Nat) (s : List Itm ⊕ List Itm) (root : List UInt8) (hroot : root.length ≤ 1000000000) (ho : SideOk s) (ob on : Nat) (f : List UInt8 → Bool) (w0 w : World) (hs0 : SideAt B w0 q s) (hb0 : Below w0.heap.size w0 w) (hH : HeapT w hb mb n F) (hM : MapB w ob on f) :
    Calls Try.prog 26 #[.pointer (some ⟨q, 0, none⟩), .iface 31 (.pointer (some ⟨hb, 0, none⟩)), .string (Str root), .map (some ob)] w fun e w' => RestOut (fun k => (B ≤ k ∧ k < w0.heap.size) ∨ w.heap.size ≤ k) (restS F root f s) e w' ∧ Below w.heap.size w w' := by
  have hs := hs0.below hb0
  cases s with
  | inl ps =>
    obtain ⟨v, h1, h2⟩ := hs
    obtain ⟨A, c, rfl, _, _, _, _⟩ := Rd.own' h2
    obtain ⟨v0, g1, g2⟩ := hs0
    have gb := (hb0.block q (Array.getElem?_eq_some_iff.1 g1).1).trans g1
    rw [h1] at gb
    have ev : v0 = .slice A ps.length c := by injection gb with gb; injection gb with gb; injection gb with gb; injection gb with _ gb; injection gb with gb; exact gb.symm
    refine (rest1_any _ q none 0 0 A c ps root hroot ob on f w h1 (SlOk.own h2) hM).mono ?_
    rintro e w' ⟨⟨A', c', r1, r2, r3⟩, r4⟩
    refine ⟨⟨A', c', r1, r2, fun a ea => .inl ?_⟩, r4⟩
    obtain ⟨a2, e2, e3⟩ := r3 a ea
    rw [← e3]
    exact ⟨own_block_base g2 a2.block (by rw [ev, e2]; rfl), own_lt g2 a2.block (by rw [ev, e2]; rfl)⟩
  | inr ls =>
    obtain ⟨v, h1, h2⟩ := hs
    obtain ⟨A, c, rfl, _, hr, _, _⟩ := Rd.own' h2
    refine (rest_any hb mb n F hF q A c ls ho.1 ho.2 none 0 0 root ob on f w h1 hr hH hM).mono ?_
    rintro e w' ⟨r1, r2⟩
    refine ⟨?_, r2⟩
    show RestOut _ (restL F f ls) e w'
    cases hr : restL F f ls with
    | none => rw [hr] at r1; exact r1
    | some l =>
      rw [hr] at r1
      obtain ⟨A', c', q1, q2, q3⟩ := r1
      exact ⟨A', c', q1, q2, fun a ea => .inr (q3 a ea)⟩
end Go.Proofs.Ytoidbgedpakjmaa.D10
namespace Go.Proofs.Ytoidbgedpakjmaa.D10
open Go Go.Proofs.Ytoidbgedpakjmaa Go.Proofs.Ytoidbgedpakjmaa.Lib Go.Proofs.Ytoidbgedpakjmaa.Sha Go.Proofs.Ytoidbgedpakjmaa.T07 Go.Proofs.Ytoidbgedpakjmaa.T08 Go.Proofs.Ytoidbgedpakjmaa.Itms Go.Proofs.Ytoidbgedpakjmaa.WSeq Go.Proofs.Ytoidbgedpakjmaa.Ord Go.Proofs.Ytoidbgedpakjmaa.W08 Go.Proofs.Ytoidbgedpakjmaa.Inj Go.Proofs.Ytoidbgedpakjmaa.Tree Go.Proofs.Ytoidbgedpakjmaa.Dif Go.Proofs.Ytoidbgedpakjmaa.Mp
/-- the rests of two trees -/
def restsS (F : Src) (a b : List UInt8) : Option (List Itm × List Itm) := match readS F a with
  | none => none
  | some x => match readS F b with
    | none => none
    | some y => match restS F a (namesF b y) x with
      | none => none
      | some l => match restS F b (namesF a x) y with
        | none => none
        | some m => some (l, m)
/-- the rests of two trees; of one and itself none -/
def restsE (F : Src) (a b : List UInt8) : Option (List Itm × List Itm) := if a = b then some ([], []) else restsS F a b
/-- a source that tells real, small nodes alone -/
structure SrcQ (F : Src) : Prop where
  short : ∀ k s, F k = some s → s.length ≤ 3000000
  real : ∀ k s, F k = some s → ∃ v P, parseS s = some (v, P) ∧ cnt v P ≤ 1000 ∧ v ≤ 10
theorem SrcQ.heap {ns : List (List UInt8)} (h : ∀ s ∈ ns, s.length ≤ 3000000 ∧ ∃ v P, parseS s = some (v, P) ∧ cnt v P ≤ 1000 ∧ v ≤ 10) : SrcQ (heapF ns) :=
  ⟨fun k s hs => (h s (heap_mem hs).1).1, fun k s hs => (h s (heap_mem hs).1).2⟩
theorem SrcQ.at {F : Src} (h : SrcQ F) {k : List UInt8} {n : Nat × List Itm} (ha : atS F k = some n) : cnt n.1 n.2 ≤ 1000 := by
  unfold atS at ha
  cases hk : F k with
  | none => rw [hk] at ha; cases ha
  | some s =>
    rw [hk] at ha
    obtain ⟨v, P, q1, q2, _⟩ := h.real k s hk
    have ha : parseS s = some n := ha
    rw [q1] at ha
    injection ha with ha
    rw [← ha]; exact q2
theorem under_val (F : Src) : ∀ (k : Nat) (l ls : List Itm), (∀ x ∈ l, okVal (k + 1) x.2 = true) → underP F k l = some ls → ∀ x ∈ ls, okVal 1 x.2 = true := by
  intro k
  induction k with
  | zero => intro l ls hv h; injection h with h; rw [← h]; exact hv
  | succ k ih =>
    intro l
    induction l with
    | nil => intro ls _ h; rw [under_nil] at h; injection h with h; rw [← h]; exact fun x hx => (by cases hx)
    | cons x l ihl =>
      intro ls hv h
      rw [under_cons] at h
      cases hb : belowP F (k + 2) x with
      | none => rw [hb] at h; cases h
      | some n =>
        rw [hb] at h
        dsimp only at h
        cases h1 : underP F k n.2 with
        | none => rw [h1] at h; cases h
        | some a =>
          rw [h1] at h
          dsimp only at h
          cases h2 : underP F (k + 1) l with
          | none => rw [h2] at h; cases h
          | some b =>
            rw [h2] at h
            injection h with h
            have h : a ++ b = ls := h
            obtain ⟨e1, _, _, _, hat⟩ := below_lv hb
            obtain ⟨_, _, u3, _, _⟩ := at_facts hat
            have en : n.1 = k + 1 := by omega
            have i1 := ih n.2 a (by rw [← en]; exact u3) h1
            have i2 := ihl b (fun y hy => hv y (List.mem_cons_of_mem _ hy)) h2
            rw [← h]
            intro y hy
            rcases List.mem_append.1 hy with hy | hy
            · exact i1 y hy
            · exact i2 y hy
theorem SrcQ.side {F : Src} (h : SrcQ F) {a : List UInt8} {s : List Itm ⊕ List Itm} (hs : readS F a = some s) : SideOk s ∧ (∀ l, s = .inl l → l.length ≤ 16) ∧ ∀ l, s = .inr l → l.length ≤ 1000 := by
  unfold readS at hs
  cases hat : atS F a with
  | none => rw [hat] at hs; cases hs
  | some p =>
    obtain ⟨v, l⟩ := p
    rw [hat] at hs
    obtain ⟨_, h2, h3, _, _⟩ := at_facts hat
    cases v with
    | zero =>
      dsimp only at hs
      injection hs with hs
      rw [← hs]
      exact ⟨trivial, fun q hq => by injection hq with hq; rw [← hq]; exact h2, fun q hq => by cases hq⟩
    | succ k =>
      dsimp only at hs
      cases hu : underP F k l with
      | none => rw [hu] at hs; cases hs
      | some ls =>
        rw [hu] at hs
        have hs : Sum.inr ls = s := by injection hs
        rw [← hs]
        have h4 := h.at hat
        have h5 := under_len F k l ls h3 hu
        exact ⟨⟨by dsimp only at h4; omega, fun x hx => okVal_len (under_val F k l ls h3 hu x hx) (by omega)⟩, (fun q hq => by cases hq), fun q hq => by injection hq with hq; rw [← hq]; dsimp only at h4; omega⟩
theorem rest_len (F : Src) (f : List UInt8 → Bool) : ∀ (ls r : List Itm), restL F f ls = some r → r.length ≤ 16 * ls.length
  | [], r, h => by injection h with h; rw [← h]; exact Nat.zero_le _
  | x :: ls, r, h => by
    rw [restL] at h
    rw [List.length_cons]
    split at h
    · have := rest_len F f ls r h; omega
    · cases hb : belowP F 1 x with
      | none => rw [hb] at h; cases h
      | some n =>
        rw [hb] at h
        dsimp only at h
        cases h2 : restL F f ls with
        | none => rw [h2] at h; cases h
        | some q =>
          rw [h2] at h
          injection h with h
          have h : n.2 ++ q = r := h
          have i1 := rest_len F f ls q h2
          have i2 := (at_facts (below_at hb)).2.1
          rw [← h, List.length_append]; omega
theorem restS_len {F : Src} {root : List UInt8} {f : List UInt8 → Bool} {s : List Itm ⊕ List Itm} (h1 : SideOk s ∧ (∀ l, s = .inl l → l.length ≤ 16) ∧ ∀ l, s = .inr l → l.length ≤ 1000) {r : List Itm} (h : restS F root f s = some r) : r.length ≤ 1000000 := by
  cases s with
  | inl ps =>
    have := h1.2.1 ps rfl
    unfold restS at h
    dsimp only at h
    split at h
    · injection h with h; rw [← h]; exact Nat.zero_le _
    · injection h with h; rw [← h]; omega
  | inr ls =>
    have h2 := rest_len F f ls r h
    have h3 := h1.2.2 ls rfl
    omega
theorem rests_parts {F : Src} {a b : List UInt8} {l m : List Itm} (h : restsS F a b = some (l, m)) : ∃ x y, readS F a = some x ∧ readS F b = some y ∧ restS F a (namesF b y) x = some l ∧ restS F b (namesF a x) y = some m := by
  unfold restsS at h
  cases h1 : readS F a with
  | none => rw [h1] at h; cases h
  | some x =>
    rw [h1] at h
    dsimp only at h
    cases h2 : readS F b with
    | none => rw [h2] at h; cases h
    | some y =>
      rw [h2] at h
      dsimp only at h
      cases h3 : restS F a (namesF b y) x with
      | none => rw [h3] at h; cases h
      | some l' =>
        rw [h3] at h
        dsimp only at h
        cases h4 : restS F b (namesF a x) y with
        | none => rw [h4] at h; cases h
        | some m' =>
          rw [h4] at h
          injection h with h
          injection h with e1 e2
          subst e1; subst e2
          exact ⟨x, y, rfl, rfl, h3, h4⟩
theorem parts_rests {F : Src} {a b : List UInt8} {l m : List Itm} {x y : List Itm ⊕ List Itm} (h1 : readS F a = some x) (h2 : readS F b = some y) (h3 : restS F a (namesF b y) x = some l) (h4 : restS F b (namesF a x) y = some m) : restsS F a b = some (l, m) := by
  unfold restsS
  rw [h1]; dsimp only; rw [h2]; dsimp only; rw [h3]; dsimp only; rw [h4]
theorem SrcQ.rests {F : Src} (h : SrcQ F) {a b : List UInt8} {l m : List Itm} (hr : restsS F a b = some (l, m)) : l.length ≤ 1000000 ∧ m.length ≤ 1000000 := by
  obtain ⟨x, y, h1, h2, h3, h4⟩ := rests_parts hr
  exact ⟨restS_len (h.side h1) h3, restS_len (h.side h2) h4⟩
theorem SrcQ.restsE {F : Src} (h : SrcQ F) {a b : List UInt8} {l m : List Itm} (hr : D10.restsE F a b = some (l, m)) : l.length ≤ 1000000 ∧ m.length ≤ 1000000 := by
  unfold D10.restsE at hr
  split at hr
  · injection hr with hr; injection hr with e1 e2; subst e1; subst e2; exact ⟨Nat.zero_le _, Nat.zero_le _⟩
  · exact h.rests hr
theorem rests_swap (F : Src) (a b : List UInt8) : restsE F b a = (restsE F a b).map fun q => (q.2, q.1) := by
  unfold restsE
  by_cases e : a = b
  · rw [if_pos e, if_pos e.symm]; rfl
  · rw [if_neg e, if_neg (fun q => e q.symm)]
    unfold restsS
    cases readS F a with
    | none => cases readS F b <;> rfl
    | some x =>
      cases readS F b with
      | none => rfl
      | some y =>
        dsimp only
        cases restS F a (namesF b y) x with
        | none => cases restS F b (namesF a x) y <;> rfl
        | some l => cases restS F b (namesF a x) y <;> rfl
/-- a side's leaves by their fingerprints -/
def leavesS (F : Src) (a : List UInt8) : List Itm ⊕ List Itm → List Lv
  | .inl ps => [(a, ps)]
  | .inr ls => leafL F ls
theorem leaf_names (F : Src) (ls : List Itm) : (leafL F ls).map (·.1) = ls.map fun x => x.2.take 32 := by
  unfold leafL; rw [List.map_map]; rfl
theorem names_leaves (F : Src) (a : List UInt8) (s : List Itm ⊕ List Itm) (p : List UInt8) : namesF a s p = decide (p ∈ (leavesS F a s).map (·.1)) := by
  cases s with
  | inl ps => simp [namesF, nmF, nmS, leavesS]
  | inr ls =>
    unfold namesF leavesS
    dsimp only
    rw [leaf_names]
    show decide (p ∈ nmS false a ls) = _
    exact decide_eq_decide.2 (by simp [nmS])
/-- a side all of whose leaves are there -/
def WholeS (F : Src) (s : List Itm ⊕ List Itm) : Prop := ∀ ls, s = .inr ls → ∀ x ∈ ls, ∃ n, belowP F 1 x = some n
theorem rest_leaves (F : Src) (a : List UInt8) (f : List UInt8 → Bool) (ns : List (List UInt8)) (hf : ∀ p, f p = decide (p ∈ ns)) (s : List Itm ⊕ List Itm) (hw : WholeS F s) : restS F a f s = some (allL (keepL ns (leavesS F a s))) := by
  cases s with
  | inl ps =>
    unfold restS leavesS keepL
    dsimp only
    rw [hf]
    by_cases e : a ∈ ns
    · simp [e, allL]
    · simp [e, allL]
  | inr ls => exact rest_keep F f ns hf ls (hw ls rfl)
theorem read_whole (F : Src) (a : List UInt8) (v : Nat) (X x : List Itm) (hat : atS F a = some (v, X)) (hT : treeP F v X = some x) : ∃ s, readS F a = some s ∧ allL (leavesS F a s) = x ∧ WholeS F s ∧ ∀ q ∈ leavesS F a s, q.2 = (match atS F q.1 with | none => [] | some n => n.2) := by
  cases v with
  | zero =>
    have e : X = x := by rw [treeP] at hT; injection hT
    refine ⟨.inl X, by unfold readS; rw [hat], ?_, (by intro ls h; cases h), fun q hq => ?_⟩
    · unfold leavesS allL; simp [e]
    · obtain rfl := List.mem_singleton.1 hq
      dsimp only
      rw [hat]
  | succ k =>
    obtain ⟨ls, h1, h2⟩ := under_tree F k X x hT
    obtain ⟨h3, h4⟩ := leaf_all F ls x h2
    refine ⟨.inr ls, by unfold readS; rw [hat]; dsimp only; rw [h1]; rfl, h3, (by intro q hq; injection hq with hq; rw [← hq]; exact h4), fun q hq => ?_⟩
    obtain ⟨y, _, rfl⟩ := List.mem_map.1 hq
    rfl
theorem merge_self : ∀ x : List Itm, (mergeS x x).filter chgS = []
  | [] => by rw [merge_nil]; rfl
  | p :: x => by
    rw [merge_cons, if_neg (by rw [lt_irrefl]; decide), if_pos rfl, List.filter_cons_of_neg (by unfold chgS bth; simp)]
    exact merge_self x
theorem diff_self (x : List Itm) : diffS x x = [] := merge_self x
theorem diff_nil : diffS [] [] = [] := diff_self []
/-- The rests of two whole trees differ as these do. -/
theorem rests_whole (F : Src) (a b : List UInt8) (x y : List Itm) (ha : ∃ v X, atS F a = some (v, X) ∧ treeP F v X = some x) (hb : ∃ v X, atS F b = some (v, X) ∧ treeP F v X = some y) (hx : Up x) (hy : Up y) : ∃ l m, restsE F a b = some (l, m) ∧ diffS l m = diffS x y := by
  obtain ⟨v, X, a1, a2⟩ := ha
  obtain ⟨u, Y, b1, b2⟩ := hb
  unfold restsE
  by_cases e : a = b
  · subst e
    rw [a1] at b1
    injection b1 with b1
    injection b1 with e1 e2
    subst e1; subst e2
    rw [a2] at b2
    injection b2 with b2
    subst b2
    exact ⟨[], [], by rw [if_pos rfl], by rw [diff_self, diff_self]⟩
  · rw [if_neg e]
    obtain ⟨s, s1, s2, s3, s4⟩ := read_whole F a v X x a1 a2
    obtain ⟨t, t1, t2, t3, t4⟩ := read_whole F b u Y y b1 b2
    refine ⟨_, _, parts_rests s1 t1 (rest_leaves F a _ _ (fun p => names_leaves F b t p) s s3) (rest_leaves F b _ _ (fun p => names_leaves F a s p) t t3), ?_⟩
    rw [rest_law (leavesS F a s) (leavesS F b t) (by rw [s2]; exact hx) (by rw [t2]; exact hy) (fun p hp q hq he => by rw [s4 p hp, t4 q hq, he]), s2, t2]
theorem less_read {f F : Src} (h : Less f F) {a : List UInt8} {s : List Itm ⊕ List Itm} (hr : readS f a = some s) : readS F a = some s := by
  unfold readS at hr ⊢
  cases ha : atS f a with
  | none => rw [ha] at hr; cases hr
  | some n =>
    rw [ha] at hr
    rw [less_at h ha]
    obtain ⟨v, l⟩ := n
    cases v with
    | zero => exact hr
    | succ k =>
      dsimp only at hr ⊢
      cases hu : underP f k l with
      | none => rw [hu] at hr; cases hr
      | some ls => rw [hu] at hr; rw [less_under h k l ls hu]; exact hr
theorem less_restS {f F : Src} (h : Less f F) {a : List UInt8} {g : List UInt8 → Bool} {s : List Itm ⊕ List Itm} {r : List Itm} (hr : restS f a g s = some r) : restS F a g s = some r := by
  cases s with
  | inl ps => exact hr
  | inr ls => exact less_rest h g ls r hr
/-- A source that lacks texts tells the same or nothing. -/
theorem less_rests {f F : Src} (h : Less f F) {a b : List UInt8} {l m : List Itm} (hr : restsE f a b = some (l, m)) : restsE F a b = some (l, m) := by
  unfold restsE at hr ⊢
  by_cases e : a = b
  · rw [if_pos e] at hr ⊢; exact hr
  · rw [if_neg e] at hr ⊢
    obtain ⟨x, y, h1, h2, h3, h4⟩ := rests_parts hr
    exact parts_rests (less_read h h1) (less_read h h2) (less_restS h h3) (less_restS h h4)
/-- A map's tree is whole in each source that tells its nodes. -/
theorem whole_in (F : Src) (m : List Itm) (h : MapQ m) (hf : ∀ s ∈ (treeS m).2, F (sha s) = some s) : ∃ v X, atS F (treeS m).1 = some (v, X) ∧ treeP F v X = some m := by
  rcases Nat.eq_zero_or_pos m.length with h0 | h0
  · obtain rfl : m = [] := List.eq_nil_of_length_eq_zero h0
    have hn := nil_parse
    have ht := tree_nil_eq
    generalize nodeB 0 [] = nd at hn ht
    rw [ht] at hf ⊢
    exact ⟨0, [], at_of (hf nd (List.mem_singleton.2 rfl)) hn, by rw [treeP]⟩
  · obtain ⟨v, X, _, _, _, _, _, _, _, _, _, q1, q2⟩ := whole_tree F m h0 (by have := h.len; omega) h.up h.shrt hf
    exact ⟨v, X, q1, q2⟩
theorem MapQ.src {m : List Itm} (h : MapQ m) : ∀ s ∈ (treeS m).2, s.length ≤ 3000000 ∧ ∃ v P, parseS s = some (v, P) ∧ cnt v P ≤ 1000 ∧ v ≤ 10 := fun s hs => by
  obtain ⟨v, P, q1, q2, q3, _⟩ := h.real s hs
  exact ⟨h.short s hs, v, P, q1, q2, q3⟩
/-- Where no two unlike texts have one fingerprint, what two maps' rests tell is where they differ. -/
theorem diff_law (x y : List Itm) (hx : MapQ x) (hy : MapQ y) (hc : NoC ((treeS x).2 ++ (treeS y).2) ((treeS x).2 ++ (treeS y).2)) : ∃ l m, restsE (heapF ((treeS x).2 ++ (treeS y).2)) (treeS x).1 (treeS y).1 = some (l, m) ∧ diffS l m = diffS x y :=
  rests_whole _ _ _ x y (whole_in _ x hx fun s hs => heap_all hc s (List.mem_append_left _ hs)) (whole_in _ y hy fun s hs => heap_all hc s (List.mem_append_right _ hs)) hx.up hy.up
/-- fewer texts, without a clash, tell less -/
theorem less_heap {ns ms : List (List UInt8)} (hc : NoC ns ns) (h : ∀ s ∈ ms, s ∈ ns) : Less (heapF ms) (heapF ns) := fun p s hs => by
  obtain ⟨h1, h2⟩ := heap_mem hs
  rw [← h2]; exact heap_all hc s (h s h1)
theorem lost_law (x y : List Itm) (hx : MapQ x) (hy : MapQ y) (hc : NoC ((treeS x).2 ++ (treeS y).2) ((treeS x).2 ++ (treeS y).2)) (ms : List (List UInt8)) (hm : ∀ s ∈ ms, s ∈ (treeS x).2 ++ (treeS y).2) {l m : List Itm} (h : restsE (heapF ms) (treeS x).1 (treeS y).1 = some (l, m)) : diffS l m = diffS x y := by
  obtain ⟨l', m', h1, h2⟩ := diff_law x y hx hy hc
  rw [less_rests (less_heap hc hm) h] at h1
  injection h1 with h1
  injection h1 with e1 e2
  subst e1; subst e2
  exact h2
end Go.Proofs.Ytoidbgedpakjmaa.D10
