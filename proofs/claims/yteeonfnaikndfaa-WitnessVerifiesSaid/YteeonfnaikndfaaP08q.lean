/- The walks of the document's answers of layer 8: a root's node, the node below an item. -/
import Derived.Test.YteeonfnaikndfaaP08p
set_option linter.unusedVariables false
set_option linter.unusedSimpArgs false
namespace Go.Proofs.Yteeonfnaikndfaa.P08
open Go Go.RowKit Go.Proofs.Yteeonfnaikndfaa Go.Proofs.Yteeonfnaikndfaa.Lib Go.Proofs.Yteeonfnaikndfaa.Sha Go.Proofs.Yteeonfnaikndfaa.T07 Go.Proofs.Yteeonfnaikndfaa.T08 Go.Proofs.Yteeonfnaikndfaa.Itms Go.Proofs.Yteeonfnaikndfaa.WSeq Go.Proofs.Yteeonfnaikndfaa.Ord Go.Proofs.Yteeonfnaikndfaa.W08 Go.Proofs.Yteeonfnaikndfaa.W01 Go.Proofs.Yteeonfnaikndfaa.Inj Go.Proofs.Yteeonfnaikndfaa.Tree Go.Proofs.Yteeonfnaikndfaa.Bld Go.Proofs.Yteeonfnaikndfaa.QTail
attribute [local go_sem] Str_size Str_toList Str_extract take_rest
/-- a node, or none, as three answers -/
def RootAt (B : Nat) (k : Int) (A : Option Addr) (n c : Nat) (ok : Bool) (r : Option (Nat × List Itm)) (W : World) : Prop :=
  if ok = true then ∃ (lv : Nat) (l : List Itm), r = some (lv, l) ∧ k = (lv : Int) ∧ n = l.length ∧ W.ownsRow B 27 2 (.slice A l.length c) l.length (its l) else r = none ∧ k = 0 ∧ A = none ∧ n = 0 ∧ c = 0
theorem rootAt_base {B B' : Nat} {k : Int} {A : Option Addr} {n c : Nat} {ok : Bool} {r : Option (Nat × List Itm)} {W : World} (h : RootAt B k A n c ok r W) (hb : B' ≤ B) : RootAt B' k A n c ok r W := by
  unfold RootAt at h ⊢
  cases ok with
  | false => rw [if_neg (by decide)] at h ⊢; exact h
  | true =>
    rw [if_pos rfl] at h ⊢
    obtain ⟨lv, l, h1, h2, h3, h4⟩ := h
    exact ⟨lv, l, h1, h2, h3, own_base h4 hb⟩
theorem parse_gen (s : List UInt8) (w : World) (hs : s.length ≤ 1000000000) :
    Calls Try.prog 41 #[.string (Str s)] w fun e w' => (∃ k A n c ok, e = .returned (.tuple #[.int .i64 k, .slice A n c, .bool ok]) ∧ RootAt w.heap.size k A n c ok (parseS s) w') ∧ Below w.heap.size w w' := by
  refine (parse_ref_any s w hs).mono ?_
  rintro e w' ⟨ho, hB⟩
  refine ⟨?_, hB⟩
  rcases ho with ⟨hn, rfl⟩ | ⟨lv, l, v, hp, rfl, hown⟩
  · exact ⟨0, none, 0, 0, false, rfl, by unfold RootAt; rw [if_neg (by decide)]; exact ⟨hn, rfl, rfl, rfl, rfl⟩⟩
  · obtain ⟨A, c, rfl⟩ := own_succ hown
    exact ⟨(lv : Int), A, l.length, c, true, rfl, by unfold RootAt; rw [if_pos rfl]; exact ⟨lv, l, hp, rfl, rfl, hown⟩⟩
theorem get_short {ns : List (List UInt8)} {p s : List UInt8} (hs : ∀ s ∈ ns, s.length ≤ 1000000000) (h : getL ns p = some s) : s.length ≤ 1000000000 := hs s (List.mem_of_find?_eq_some h)
set_option maxRecDepth 100000 in
set_option maxHeartbeats 800000 in
theorem root_any (A : Option Addr) (c : Nat) (ns : List (List UInt8)) (p : List UInt8) (hn : ns.length ≤ 1000000) (hs : ∀ s ∈ ns, s.length ≤ 1000000000) (w : World) (hrd : Rd w A (strs ns)) :
    Calls Try.prog 68 #[.agg #[.slice A ns.length c], .string (Str p)] w fun e w' => (∃ k A' n' c' ok, e = .returned (.tuple #[.int .i64 k, .slice A' n' c', .bool ok]) ∧ RootAt w.heap.size k A' n' c' ok (atS (getL ns) p) w') ∧ Below w.heap.size w w' := by
  obtain ⟨w0, hw0⟩ : ∃ w0, w0 = w.alloc (Obj.cells #[.slice A ns.length c] 71) := ⟨_, rfl⟩
  have hb0 : Below w.heap.size w w0 := by rw [hw0]; exact below_al (below_rf w) _
  have hbx : w0.heap[w.heap.size]? = some (Obj.cells #[.slice A ns.length c] 71 (0, 0)) := by rw [hw0]; exact heap_new _ _
  have x0 : w0.cell? ⟨w.heap.size, 0, none⟩ = some (.slice A ns.length c) := by rw [Go.Lib.cell_of_heap hbx]; rfl
  have HG := hid (get_any A c ns p hn hs w0 (hrd.below hb0))
  have HB0 := hid hb0
  have hat : atS (getL ns) p = match getL ns p with | none => none | some s => parseS s := rfl
  have HAT := hid hat
  have hsh : ∀ s, getL ns p = some s → s.length ≤ 1000000000 := fun s h => get_short hs h
  have HSH := hid hsh
  clear hbx hb0 hat hrd hs hn hsh
  go_enter Try.func68, Try.ntmps68
  go_wp2_with fail
  rw [← hw0]
  clear hw0
  (with_reducible refine HG.out.mono ?_); rintro e w1 ⟨ho, hb1⟩
  have HB1 := hid (below_tr HB0.out hb1)
  cases hg : getL ns p with
  | none =>
    rw [hg] at ho
    obtain rfl : e = .returned (.tuple #[.string (Str []), .bool false]) := ho
    have HR : Hid (atS (getL ns) p = none) := hid (by rw [HAT.out, hg])
    clear hg hb1
    go_wp2
    go_ret3
    exact ⟨⟨0, none, 0, 0, false, rfl, by unfold RootAt; rw [if_neg (by decide)]; exact ⟨HR.out, rfl, rfl, rfl, rfl⟩⟩, HB1.out⟩
  | some s =>
    rw [hg] at ho
    obtain rfl : e = .returned (.tuple #[.string (Str s), .bool true]) := ho
    have HR : Hid (atS (getL ns) p = parseS s) := hid (by rw [HAT.out, hg])
    have HPG := hid (parse_gen s w1 (HSH.out s hg))
    clear hg hb1
    go_wp2_with fail
    (with_reducible refine HPG.out.mono ?_); rintro e w2 ⟨⟨k, A', n', c', ok, rfl, hat⟩, hb2⟩
    have HA := hid hat
    have HB2 := hid (below_tr HB1.out hb2)
    clear hat hb2
    go_wp2
    go_ret3
    exact ⟨⟨k, A', n', c', ok, rfl, by rw [HR.out]; exact rootAt_base HA.out HB1.out.size⟩, HB2.out⟩
/-- the node below, or none, as two answers -/
def BelAt (B : Nat) (A : Option Addr) (n c : Nat) (ok : Bool) (r : Option (Nat × List Itm)) (W : World) : Prop :=
  if ok = true then ∃ (lv : Nat) (l : List Itm), r = some (lv, l) ∧ n = l.length ∧ W.ownsRow B 27 2 (.slice A l.length c) l.length (its l) else r = none ∧ A = none ∧ n = 0 ∧ c = 0
theorem bel_at {f : Src} {lv : Nat} {x : Itm} : belowP f lv x = match atS f (x.2.take 32) with
    | none => none
    | some p => if standsP lv x p.1 p.2 = true then some p else none := rfl
theorem belAt_none {B : Nat} {r : Option (Nat × List Itm)} {W : World} (h : r = none) : BelAt B none 0 0 false r W := by
  unfold BelAt; rw [if_neg (by decide)]; exact ⟨h, rfl, rfl, rfl⟩
def BelPost (w : World) (r : Option (Nat × List Itm)) (e : Ending) (w' : World) : Prop :=
  (∃ A' n' c' ok, e = .returned (.tuple #[.slice A' n' c', .bool ok]) ∧ BelAt w.heap.size A' n' c' ok r w') ∧ Below w.heap.size w w'
theorem bel_no {w w' : World} {r : Option (Nat × List Itm)} (h : r = none) (hB : Below w.heap.size w w') : BelPost w r (.returned (.tuple #[.slice none 0 0, .bool false])) w' :=
  ⟨⟨none, 0, 0, false, rfl, belAt_none h⟩, hB⟩
set_option maxRecDepth 100000 in
set_option maxHeartbeats 1600000 in
theorem below_any (A : Option Addr) (c : Nat) (ns : List (List UInt8)) (lv : Nat) (x : Itm) (h1 : 1 ≤ lv) (h32 : lv ≤ 32) (hx : okVal lv x.2 = true) (hn : ns.length ≤ 1000000) (hs : ∀ s ∈ ns, s.length ≤ 1000000000) (w : World) (hrd : Rd w A (strs ns)) :
    Calls Try.prog 42 #[.agg #[.slice A ns.length c], .int .i64 (lv : Int), .agg #[.string (Str x.1), .string (Str x.2)]] w fun e w' => BelPost w (belowP (getL ns) lv x) e w' := by
  obtain ⟨w0, hw0⟩ : ∃ w0, w0 = (w.alloc (Obj.cells #[.slice A ns.length c] 71)).alloc (Obj.cells #[.string (Str x.1), .string (Str x.2)] 27) := ⟨_, rfl⟩
  have hb0 : Below w.heap.size w w0 := by rw [hw0]; exact below_al (below_al (below_rf w) _) _
  have z0 : w0.heap.size = w.heap.size + 2 := by rw [hw0]; simp
  have hbx : w0.heap[w.heap.size]? = some (Obj.cells #[.slice A ns.length c] 71 (0, 0)) := by rw [hw0, heap_old _ _ (by simp)]; exact heap_new _ _
  have hby : w0.heap[w.heap.size + 1]? = some (Obj.cells #[.string (Str x.1), .string (Str x.2)] 27 (0, 0)) := by rw [hw0]; exact heap_new' _ _ (by simp)
  have x0 : w0.cell? ⟨w.heap.size, 0, none⟩ = some (.slice A ns.length c) := by rw [Go.Lib.cell_of_heap hbx]; rfl
  have x1 : w0.cell? ⟨w.heap.size + 1, 0, none⟩ = some (.string (Str x.1)) := by rw [Go.Lib.cell_of_heap hby]; rfl
  have x2 : w0.cell? ⟨w.heap.size + 1, 1, none⟩ = some (.string (Str x.2)) := by rw [Go.Lib.cell_of_heap hby]; rfl
  have h40 := okVal_len hx (by omega)
  have HRT := hid (root_any A c ns (x.2.take 32) hn hs w0.drew ((hrd.below hb0).drewN 1))
  have HB0 := hid hb0
  have HY := hid hby
  have HZ := hid z0
  have HX := hid hx
  have H40 := hid h40
  have hwr : IntKind.i64.wrap ((lv : Int) - 1) = (lv : Int) - 1 := by rw [IntKind.wrap_i64]; omega
  clear hbx hby hb0 hrd hs hn z0 hx
  go_enter Try.func42, Try.ntmps42
  go_wp2
  rw [← hw0]
  clear hw0
  go_region_with (go_at_call 68; (with_reducible refine HRT.out.mono ?_); rintro e w1 ⟨⟨k, A', n', c', ok, rfl, hat⟩, hb1⟩)
  all_goals
    have hY1 := (hb1.block (w.heap.size + 1) (by show _ < w0.heap.size; rw [HZ.out]; omega)).trans HY.out
    have HA := hid hat
    have HB1 := hid (show Below w.heap.size w w1 from HB0.out.trans ((show Below w0.heap.size w0 w1 from (show Below w0.heap.size w0 w0.drew from below_drewN (below_rf w0) 1).trans hb1).mono HB0.out.size))
    have HZ1 := hid hb1.size
    have HY1 := hid hY1
    clear hat hb1 hY1
    simp only [List.getElem_toArray, List.getElem_cons_succ, List.getElem_cons_zero, Act.put, Array.set!_eq_setIfInBounds, List.setIfInBounds_toArray, List.set_cons_succ, List.set_cons_zero]
    cases ok with
    | false =>
      have hno : belowP (getL ns) lv x = none := by
        have := HA.out
        unfold RootAt at this
        rw [if_neg (by decide)] at this
        rw [bel_at, this.1]
      have HN := hid hno
      clear hno
      go_wp2
      go_quiet (fail)
      go_wp2
      go_ret2
      exact bel_no HN.out (below_drewN HB1.out _)
    | true =>
      have hA := HA.out
      unfold RootAt at hA
      rw [if_pos rfl] at hA
      obtain ⟨m, l, hat, rfl, rfl, hown⟩ := hA
      obtain ⟨f1, f2, f3, f4, _⟩ := at_facts hat
      have hbe : belowP (getL ns) lv x = if (decide (m + 1 = lv) && decide (0 < l.length) && (lastKey l == x.1) && decide (countS m l = told x.2)) = true then some (m, l) else none := by rw [bel_at, hat]; rfl
      have HBE := hid hbe
      have HOWN := hid hown
      have HF3 := hid f3
      clear hat f3 f4 hbe hown HA
      go_wp2
      by_cases c1 : m + 1 = lv
      · have c1' : ((m : Int) == (lv : Int) - 1) = true := beq_iff_eq.2 (by omega)
        have c1n : ((m : Int) != (lv : Int) - 1) = false := by rw [bne, c1']; rfl
        by_cases c2 : 0 < l.length
        · have c2' : ((l.length : Int) == 0) = false := beq_eq_false_iff_ne.2 (by omega)
          have hwl : IntKind.i64.wrap ((l.length : Int) - 1) = (l.length : Int) - 1 := by rw [IntKind.wrap_i64]; omega
          have hnn : ((l.length : Int) - 1).toNat = l.length - 1 := by omega
          have hn0 : (0 : Int) ≤ (l.length : Int) - 1 := by omega
          have hn1 : (l.length : Int) - 1 < (l.length : Int) := by omega
          obtain ⟨bx, ox, rfl, hcx, _⟩ := rd_itm (rd_own HOWN.out) (j := l.length - 1) (by omega)
          obtain ⟨lk, hlk⟩ : ∃ lk, lk = lastKey l := ⟨_, rfl⟩
          rw [show (itm l (l.length - 1)).1 = lk by rw [hlk]; rfl] at hcx
          have y0 : w1.cell? ⟨w.heap.size + 1, 0, none⟩ = some (.string (Str x.1)) := by rw [Go.Lib.cell_of_heap HY1.out]; rfl
          have y1 : w1.cell? ⟨w.heap.size + 1, 1, none⟩ = some (.string (Str x.2)) := by rw [Go.Lib.cell_of_heap HY1.out]; rfl
          have hlt1 : w.heap.size + 1 < w1.heap.size := (Array.getElem?_eq_some_iff.1 HY1.out).1
          by_cases c3 : lk = x.1
          · have c3' : (lk == x.1) = true := beq_iff_eq.2 c3
            have c3n : (lk != x.1) = false := by rw [bne, c3']; rfl
            have HBE2 : Hid (belowP (getL ns) lv x = if countS m l = told x.2 then some (m, l) else none) := hid (by rw [HBE.out, ← hlk, c3', decide_eq_true c1, decide_eq_true c2]; simp)
            have n0 : ∀ W, Below w1.heap.size w1 W → W.cell? ⟨bx, ox + (l.length - 1) * 2, none⟩ = some (.string (Str lk)) := fun W hW => (hW.cell (World.block_lt_of_cell? _ _ hcx)).trans hcx
            have n1 : ∀ W, Below w1.heap.size w1 W → W.cell? ⟨w.heap.size + 1, 0, none⟩ = some (.string (Str x.1)) := fun W hW => (hW.cell (by exact hlt1)).trans y0
            have n2 : ∀ W, Below w1.heap.size w1 W → W.cell? ⟨w.heap.size + 1, 1, none⟩ = some (.string (Str x.2)) := fun W hW => (hW.cell (by exact hlt1)).trans y1
            have hcnt : ∀ W, Below w1.heap.size w1 W → Calls Try.prog 69 #[.int .i64 (m : Int), .slice (some ⟨bx, ox, none⟩) l.length c'] W fun e w' => e = .returned (.int .i64 (cnt m l : Nat)) ∧ Below w1.heap.size w1 w' := fun W hW =>
              (total_any m l _ c' W (by omega) ((rd_own HOWN.out).below hW) HF3.out).mono fun e w' h => ⟨h.1, hW.trans (h.2.mono hW.size)⟩
            have htold : ∀ W, Below w1.heap.size w1 W → Calls Try.prog 67 #[.string (Str (x.2.drop 32))] W fun e w' => e = .returned (.int .i64 (capT x.2 : Nat)) ∧ Below w1.heap.size w1 w' := fun W hW =>
              (count_any x.2 W H40.out).mono fun e w' h => ⟨h.1, h.2 ▸ hW⟩
            have hcs : countS m l = cnt m l := cnt_count m l (by
              have h9 := cnt_bound m l HF3.out
              have h8 : l.length * 1099511627776 ≤ 16 * 1099511627776 := Nat.mul_le_mul_right _ f2
              omega)
            have hca := cap_ok HX.out (by omega)
            have HCS := hid hcs
            have HCA := hid hca
            have h32b : 32 ≤ x.2.length := by have := H40.out; omega
            have h32c : (32 : Int) ≤ (x.2.length : Int) := by omega
            clear hcs hca hcx y0 y1 hlt1 hlk c3 HBE h40
            refine wp_region_mild w1.heap.size (by kernel_rfl) (by kernel_rfl) ?_
            repeat (
              refine wpQuiet_step (fun K hK => ?_)
              first
                | (refine mild_skip (by rfl) (hK _ ?_)
                   clear hK K)
                | (refine mild_read (by rfl) ?_
                   apply Exists.intro
                   refine ⟨fun W hW => ?_, hK _ ?_⟩
                   (go_simp; first | rfl | (rw [if_neg (by omega)]) | (rw [if_pos (by omega)]))
                   clear hK K)
                | (refine mild_call (by rfl) ?_
                   apply Exists.intro
                   apply Exists.intro
                   refine ⟨fun W hW => ?_, ?_⟩
                   (go_simp; exact ⟨rfl, rfl⟩)
                   apply Exists.intro
                   refine ⟨fun W hW => ?_, hK _ ?_⟩
                   (first | with_reducible exact (hcnt W hW) | with_reducible exact (htold W hW))
                   clear hK K)
              go_simp)
            refine wpQuiet_nil ?_
            intro W hW
            have HW := hid hW
            by_cases h9 : cnt m l = told x.2
            · have hr9 : Hid (belowP (getL ns) lv x = some (m, l)) := hid (by rw [HBE2.out, HCS.out, if_pos h9])
              have g9 : (((cnt m l : Nat) : Int) == ((capT x.2 : Nat) : Int)) = true := beq_iff_eq.2 (by rw [HCA.out]; omega)
              have g9n : (((cnt m l : Nat) : Int) != ((capT x.2 : Nat) : Int)) = false := by rw [bne, g9]; rfl
              clear h9 hcnt htold n0 n1 n2
              go_wp2
              go_ret2
              refine ⟨⟨_, _, _, true, rfl, ?_⟩, HB1.out.trans (HW.out.mono HB1.out.size)⟩
              unfold BelAt
              rw [if_pos rfl]
              exact ⟨m, l, hr9.out, rfl, own_base (own_of_below HOWN.out HW.out) (by have := HZ1.out; have := HZ.out; have := HB0.out.size; simp at *; omega)⟩
            · have hr9 : Hid (belowP (getL ns) lv x = none) := hid (by rw [HBE2.out, HCS.out, if_neg h9])
              have g9 : (((cnt m l : Nat) : Int) == ((capT x.2 : Nat) : Int)) = false := beq_eq_false_iff_ne.2 (by rw [HCA.out]; omega)
              have g9n : (((cnt m l : Nat) : Int) != ((capT x.2 : Nat) : Int)) = true := by rw [bne, g9]; rfl
              clear h9 hcnt htold n0 n1 n2
              go_wp2
              go_ret2
              exact bel_no hr9.out (HB1.out.trans (HW.out.mono HB1.out.size))
          · have c3' : (lk == x.1) = false := beq_eq_false_iff_ne.2 c3
            have c3n : (lk != x.1) = true := by rw [bne, c3']; rfl
            have HN : Hid (belowP (getL ns) lv x = none) := hid (by rw [HBE.out, ← hlk, c3']; simp)
            clear c3 hlk hlt1 HBE
            go_quiet (fail)
            go_wp2
            go_ret2
            exact bel_no HN.out (below_drewN HB1.out _)
        · have c2' : ((l.length : Int) == 0) = true := beq_iff_eq.2 (by omega)
          have HN : Hid (belowP (getL ns) lv x = none) := hid (by rw [HBE.out, decide_eq_false c2]; simp)
          clear c2 HBE
          go_quiet (fail)
          go_wp2
          go_ret2
          exact bel_no HN.out (below_drewN HB1.out _)
      · have c1' : ((m : Int) == (lv : Int) - 1) = false := beq_eq_false_iff_ne.2 (by omega)
        have c1n : ((m : Int) != (lv : Int) - 1) = true := by rw [bne, c1']; rfl
        have HN : Hid (belowP (getL ns) lv x = none) := hid (by rw [HBE.out, decide_eq_false c1]; simp)
        clear c1 HBE
        go_quiet (fail)
        go_wp2
        go_ret2
        exact bel_no HN.out (below_drewN HB1.out _)
end Go.Proofs.Yteeonfnaikndfaa.P08
