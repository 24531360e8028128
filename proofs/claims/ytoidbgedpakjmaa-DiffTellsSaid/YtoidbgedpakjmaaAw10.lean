/- The walks of layer 10: edits that do what changes tell; a key more. The walk of layer 10's statements' wakefulness: a key more. -/
import Derived.Test.YtoidbgedpakjmaaD10z
import Derived.Test.YtoidbgedpakjmaaClash9
import Derived.Test.YtoidbgedpakjmaaShaN
import Derived.Test.YtoidbgedpakjmaaL08
set_option linter.unusedVariables false
set_option linter.unusedSimpArgs false
namespace Go.Proofs.Ytoidbgedpakjmaa.D10
open Go Go.RowKit Go.Proofs.Ytoidbgedpakjmaa.Lib Go.Proofs.Ytoidbgedpakjmaa.Sha Go.Proofs.Ytoidbgedpakjmaa.Itms Go.Proofs.Ytoidbgedpakjmaa.T08 Go.Proofs.Ytoidbgedpakjmaa.QTail Go.Proofs.Ytoidbgedpakjmaa.WSeq Go.Proofs.Ytoidbgedpakjmaa.Ord Go.Proofs.Ytoidbgedpakjmaa.W08 Go.Proofs.Ytoidbgedpakjmaa.Dif Go.Proofs.Ytoidbgedpakjmaa.Mp Go.Proofs.Ytoidbgedpakjmaa.Tree Go.Proofs.Ytoidbgedpakjmaa.Bld Go.Proofs.Ytoidbgedpakjmaa.Inj
attribute [local go_sem] Str_size Str_toList Str_extract
/-- an edit: a key, a value, whether there is to be none -/
abbrev Ed := List UInt8 × List UInt8 × Bool
def eds (l : List Ed) : List Value := l.flatMap fun x => [.string (Str x.1), .string (Str x.2.1), .bool x.2.2]
theorem eds_app (l m : List Ed) : eds (l ++ m) = eds l ++ eds m := by simp [eds]
theorem eds_len (l : List Ed) : (eds l).length = l.length * 3 := by
  induction l with
  | nil => rfl
  | cons x l ih =>
    have : eds (x :: l) = .string (Str x.1) :: .string (Str x.2.1) :: .bool x.2.2 :: eds l := rfl
    rw [this]; simp only [List.length_cons, ih]; omega
def applyS (l : List JoinS.Bo) : List Ed := l.map fun z => (z.1, z.2.2.1, !z.2.2.2.2)
theorem apply_snoc (l : List JoinS.Bo) (k : Nat) (h : k < l.length) : applyS (l.take (k + 1)) = applyS (l.take k) ++ [((JoinS.btd l k).1, (JoinS.btd l k).2.2.1, !(JoinS.btd l k).2.2.2.2)] := by
  rw [JoinS.take_btd l k h]; simp [applyS]
theorem ti_edt : TI Try.prog 52 87 3 40 := TI.of (by kernel_rfl) (by kernel_rfl) (by decide) (by decide)
set_option maxRecDepth 100000 in
set_option maxHeartbeats 3200000 in
theorem apply_any (A : Option Addr) (c : Nat) (l : List JoinS.Bo) (hl : l.length ≤ 1000000000) (w : World) (hrd : Rd w A (JoinS.bts l)) :
    Calls Try.prog 19 #[.slice A l.length c] w fun e w' => (∃ v, e = .returned v ∧ w'.ownsRow w.heap.size 87 3 v (applyS l).length (eds (applyS l))) ∧ Below w.heap.size w w' := by
  have H0 := hid hrd
  clear hrd
  go_enter Try.func19, Try.ntmps19
  go_wp2
  go_loopw [3, 8] (fun ov jv wr => ∃ (j : Nat), j ≤ l.length ∧ jv = .int .i64 (j : Int) ∧ wr.ownsRow w.heap.size 87 3 ov (applyS (l.take j)).length (eds (applyS (l.take j))) ∧ Hid (Below w.heap.size w wr)) (fun _ jv _ => l.length - (intOf jv).toNat)
  case atStart => exact ⟨0, by omega, rfl, own_nil _ _ _ _, hid (below_rf w)⟩
  case round =>
    obtain ⟨j, hj, rfl, hown, HB⟩ := hrel
    have hal : (applyS (l.take j)).length ≤ 1000000000 := by unfold applyS; rw [List.length_map, List.length_take]; omega
    have hsn := apply_snoc l j
    by_cases hlt : j < l.length
    · replace hsn := hsn hlt
      obtain ⟨acc, hacc⟩ : ∃ acc, acc = applyS (l.take j) := ⟨_, rfl⟩
      rw [← hacc] at hown hal hsn
      obtain ⟨Av, cv, rfl⟩ := own_succ hown
      obtain ⟨ba, oa, rfl, p1, p2, p3, p4, p5⟩ := JoinS.rd_btd (H0.out.below HB.out) hlt
      obtain ⟨⟨x1, x2, x3, x4, x5⟩, hx⟩ : ∃ x, x = JoinS.btd l j := ⟨_, rfl⟩
      rw [← hx] at p1 p2 p3 p4 p5 hsn
      dsimp only at p1 p2 p3 p4 p5 hsn
      obtain ⟨w9, hw9⟩ : ∃ w9, w9 = wr.alloc (Obj.cells #[.string (Str x1), .string (Str x2), .string (Str x3), .bool x4, .bool x5] 39) := ⟨_, rfl⟩
      have hb9 : Below wr.heap.size wr w9 := by rw [hw9]; exact below_al (below_rf wr) _
      have hn9 : w9.heap[wr.heap.size]? = some (Obj.cells #[.string (Str x1), .string (Str x2), .string (Str x3), .bool x4, .bool x5] 39 (0, 0)) := by rw [hw9]; exact heap_new _ _
      have y0 : w9.cell? ⟨wr.heap.size, 0, none⟩ = some (.string (Str x1)) := by rw [Go.Lib.cell_of_heap hn9]; rfl
      have y2 : w9.cell? ⟨wr.heap.size, 2, none⟩ = some (.string (Str x3)) := by rw [Go.Lib.cell_of_heap hn9]; rfl
      have y4 : w9.cell? ⟨wr.heap.size, 4, none⟩ = some (.bool x5) := by rw [Go.Lib.cell_of_heap hn9]; rfl
      have HZ9 := hid (show w9.heap.size = wr.heap.size + 1 by rw [hw9]; simp)
      have HB9 := hid (below_tr HB.out hb9)
      have HO9 := hid (own_of_below hown hb9)
      have HSN := hid hsn
      rw [hw9] at y0 y2 y4
      clear hx hb9 hn9 hown hsn hacc
      go_wp2_with (at_builtin; (rw [← hw9]; (refine wpList_app1 ti_edt (.tmp 12) (.tmp 21) (by rfl) (by rfl) w.heap.size [.string (Str x1), .string (Str x3), .bool (!x5)] 87 1 (by rfl) (by rw [HZ9.out]; rfl) HO9.out rfl (by simp [Value.oneCell']) HB9.out HB9.out.size (by omega) ?_); intro A' c' w10 ho10 hg10 hB10 hb10))
      go_wp2
      go_roundw
      case rel => exact ⟨j + 1, by omega, by go_num, by rw [HSN.out, eds_app, List.length_append]; exact ho10, hid hB10⟩
      case measure => simp [intOf]; omega
    · obtain rfl : j = l.length := by omega
      rw [List.take_length] at hown
      go_wp2
      go_ret
      exact ⟨⟨_, rfl, hown⟩, HB.out⟩
end Go.Proofs.Ytoidbgedpakjmaa.D10
namespace Go.Proofs.Ytoidbgedpakjmaa.D10
open Go Go.RowKit Go.Proofs.Ytoidbgedpakjmaa.Lib Go.Proofs.Ytoidbgedpakjmaa.Sha Go.Proofs.Ytoidbgedpakjmaa.Itms Go.Proofs.Ytoidbgedpakjmaa.T07 Go.Proofs.Ytoidbgedpakjmaa.T08 Go.Proofs.Ytoidbgedpakjmaa.QTail Go.Proofs.Ytoidbgedpakjmaa.WSeq Go.Proofs.Ytoidbgedpakjmaa.Ord Go.Proofs.Ytoidbgedpakjmaa.W08 Go.Proofs.Ytoidbgedpakjmaa.Dif Go.Proofs.Ytoidbgedpakjmaa.Mp Go.Proofs.Ytoidbgedpakjmaa.Tree Go.Proofs.Ytoidbgedpakjmaa.Bld Go.Proofs.Ytoidbgedpakjmaa.Inj Go.Proofs.Ytoidbgedpakjmaa.W07
attribute [local go_sem] Str_size Str_toList Str_extract
def nd0 : List UInt8 := [80, 0, 0]
theorem nd0_eq : nodeB 0 [] = nd0 := by decide
theorem tree0 : treeS [] = (sha nd0, [nd0]) := by rw [tree_nil_eq, nd0_eq]
def l1 : List Itm := [([97], [49])]
def nd1 : List UInt8 := [80, 0, 1, 0, 1, 97, 0, 1, 49]
theorem nd1_eq : nodeB 0 l1 = nd1 := by decide
theorem right1 : rightS l1 = true := by decide
theorem parse1 : parseS nd1 = some (0, l1) := by decide
theorem cut1 : cutS (l1.map form) = [1] := by
  have hp : partS (l1.map form) = 1 := by
    unfold partS
    rw [partGo_stop _ _ _ _ (by decide)]
    rfl
  rw [cut_cons _ (by decide), hp]
  rfl
theorem tree1 : treeS l1 = (sha nd1, [nd1]) := by
  have h1 : levelS 0 l1 = ([upS 0 l1], [nodeB 0 l1]) := by
    unfold levelS; rw [cut1]; rfl
  rw [treeS, if_neg (by decide), h1, rise_one 1 _ rfl, List.append_nil, nd1_eq]
  have h2 : (upS 0 l1).2 = sha nd1 ++ be 1 8 := by rw [upS, nd1_eq]; rfl
  show ((upS 0 l1).2.take 32, [nd1]) = _
  rw [h2, List.take_left' (sha_len _)]
/-- a source of one node -/
theorem few1 : FewS l1 := ⟨by decide, fun i hi => by obtain rfl : i = 0 := by simp [l1] at hi; omega
                                                     exact ⟨by decide, by decide⟩⟩
theorem ris1 : risingS l1 = l1 := by decide
theorem few0 : FewS [] := ⟨by decide, fun i hi => by simp at hi⟩
theorem ris0 : risingS [] = [] := by decide
theorem dif01 : diffS [] l1 = [([97], [], [49], false, true)] := by unfold diffS; rw [merge_nil]; decide
theorem heap_src {r0 r1 nd0 nd1 : List UInt8} (h0 : treeS [] = (r0, [nd0])) (h1 : treeS l1 = (r1, [nd1])) : SrcQ (heapF [nd0, nd1]) := by
  have q0 := MapQ.src (map_q [] few0)
  have q1 := MapQ.src (map_q l1 few1)
  rw [ris0, h0] at q0
  rw [ris1, h1] at q1
  refine SrcQ.heap fun s hs => ?_
  rcases List.mem_cons.1 hs with e | hs
  · rw [e]; exact q0 nd0 (List.mem_singleton.2 rfl)
  · rw [List.mem_singleton.1 hs]; exact q1 nd1 (List.mem_singleton.2 rfl)
theorem rests01 {r0 r1 nd0 nd1 : List UInt8} (h0 : treeS [] = (r0, [nd0])) (h1 : treeS l1 = (r1, [nd1])) (hs : sha nd0 ≠ sha nd1) : ∃ l m, restsE (heapF [nd0, nd1]) r0 r1 = some (l, m) ∧ diffS l m = [([97], [], [49], false, true)] := by
  have q0 := map_q [] few0
  have q1 := map_q l1 few1
  rw [ris0] at q0
  rw [ris1] at q1
  have hl := diff_law [] l1 q0 q1
  rw [h0, h1, dif01] at hl
  refine hl fun a ha b hb e => ?_
  rcases List.mem_cons.1 ha with e1 | ha
  · rcases List.mem_cons.1 hb with e2 | hb
    · rw [e1, e2]
    · rw [e1, List.mem_singleton.1 hb] at e; exact absurd e hs
  · rcases List.mem_cons.1 hb with e2 | hb
    · rw [List.mem_singleton.1 ha, e2] at e; exact absurd e.symm hs
    · rw [List.mem_singleton.1 ha, List.mem_singleton.1 hb]
theorem heap_lt {W : World} {hb mb n : Nat} {f} (h : HeapT W hb mb n f) : hb < W.heap.size ∧ mb < W.heap.size := by
  obtain ⟨g1, D, ⟨es, clock, g2, F, hs, hD⟩, h3⟩ := h
  exact ⟨(Array.getElem?_eq_some_iff.1 g1).1, (Array.getElem?_eq_some_iff.1 g2).1⟩
set_option maxRecDepth 100000 in
set_option maxHeartbeats 3200000 in
theorem awake_gen10 (r0 r1 nd0 nd1 : List UInt8) (F : Src) (h0 : treeS [] = (r0, [nd0])) (h1 : treeS l1 = (r1, [nd1])) (hr0 : r0.length ≤ 1000) (hr1 : r1.length ≤ 1000) (hF : heapF [nd0, nd1] = F) (hq : SrcQ F) (l m : List Itm) (hr : restsE F r0 r1 = some (l, m)) (hd : diffS l m = [([97], [], [49], false, true)]) (n0 : nd0.length ≤ 1000) (n1 : nd1.length ≤ 1000) (w : World) :
    Calls Try.prog 6 #[] w fun e w' => e = .returned (.bool true) ∧ Below w.heap.size w w' := by
  have HQ := hid hq
  have HR := hid hr
  have HD := hid hd
  have hbn := build_any none 0 [] (by decide) (by decide) w (fun b o e => by cases e) (.inl rfl)
  simp only [List.length_nil] at hbn
  have HBN := hid hbn
  clear hbn
  clear hq hr hd
  go_enter Try.func6, Try.ntmps6
  go_wp2_with fail
  (with_reducible refine HBN.out.mono ?_); rintro e w1 ⟨ho, hb1⟩
  rcases ho with ⟨hf, _⟩ | ⟨_, v, rfl, hown⟩
  · cases hf
  rw [h0] at hown ⊢
  obtain ⟨A0, c0, rfl⟩ := own_succ hown
  have HB1 := hid hb1
  replace hown : w1.ownsRow w.heap.size 9 1 (.slice A0 1 c0) 1 (strs [nd0]) := hown
  have HO1 := hid hown
  obtain ⟨w2, hw2⟩ : ∃ w2, w2 = w1.alloc (Obj.cells #[.string (Str [97]), .string (Str [49])] 51) := ⟨_, rfl⟩
  have hal2 : Below w1.heap.size w1 w2 := by rw [hw2]; exact below_al (below_rf w1) _
  have hr2 : Rd w2 (some ⟨w1.heap.size, 0, none⟩) (its l1) := by
    refine .inr ⟨_, _, rfl, fun j x hj => ?_⟩
    rw [hw2, World.cell?_alloc_at _ _ _ _ rfl, Nat.zero_add, ← hj]
    simp [its, l1]
  have HPA := hid (pairs_any (some ⟨w1.heap.size, 0, none⟩) 1 l1 (by decide) w2 hr2)
  have HB2 := hid (below_tr hb1 hal2)
  have HO2 := hid (own_of_below hown hal2)
  clear hb1 hown hal2 hr2
  rw [Str_def, Str_def] at hw2
  go_wp2_with fail
  rw [← hw2]
  clear hw2
  refine HPA.out.mono ?_; rintro e w3 ⟨⟨v3, rfl, hown3⟩, hb3⟩
  obtain ⟨Ap, cp, rfl, hcp, hrp, _, _⟩ := Rd.own' hown3
  have HBU := hid (build_any Ap cp l1 hcp (by decide) w3 (fun b o e => own_low hown3 e) hrp)
  have HB3 := hid (below_tr HB2.out hb3)
  have HO3 := hid (own_of_below HO2.out hb3)
  clear hown3 hrp hcp hb3 HPA
  go_wp2_with fail
  refine HBU.out.mono ?_; rintro e w4 ⟨ho, hb4⟩
  rcases ho with ⟨hf, _⟩ | ⟨_, v4, rfl, hown4⟩
  · rw [right1] at hf; cases hf
  rw [h1] at hown4 ⊢
  obtain ⟨A4, c4, rfl, hc4, hr4, hn4, hs4⟩ := Rd.own' hown4
  have HB4 := hid (below_tr HB3.out hb4)
  have HO4 := hid (own_of_below HO3.out hb4)
  have HR4 := hid hr4
  clear hown4 hb4 HBU hr4
  go_wp2_with (at_builtin; (refine wpList_appR ti_str (.tmp 23) (.tmp 24) (by rfl) (by rfl) w.heap.size (strs [nd1]) A4 1 c4 (by rfl) (by rfl) HR4.out HO4.out (by rfl) (strs_one _) HB4.out.size (by decide) ?_; intro A5 c5 w5 ho5 hg5))
  obtain ⟨A5', c5', e5, hc5, hr5, _, _⟩ := Rd.own' ho5
  injection e5 with e5 _ e5'
  subst e5; subst e5'
  have HB5 := hid (HB4.out.grown hg5 HB4.out.size (fun k hk => own_block_base HO4.out k hk))
  clear ho5 hg5 HO4 HR4
  have HNH := hid (show Calls Try.prog 11 #[.slice A5 2 c5] w5 _ from newheap_any [nd0, nd1] A5 c5 w5 (by simp) hr5 (fun i hi => by
    rcases (by simp at hi; omega : i = 0 ∨ i = 1) with rfl | rfl
    · show nd0.length ≤ _; omega
    · show nd1.length ≤ _; omega))
  rw [hF] at HNH
  clear hr5
  go_wp2_with fail
  (with_reducible refine HNH.out.mono ?_); rintro e w6 ⟨⟨hb, mb, n, rfl, _, hH, _, _⟩, hb6⟩
  have HDF := hid (diff_any hb mb n F HQ.out r0 r1 (by omega) (by omega) w6 hH (heap_lt hH).1 (heap_lt hH).2)
  have HB6 := hid (HB5.out.trans (hb6.mono HB5.out.size))
  clear hH hb6 HNH
  go_wp2_with fail
  (with_reducible refine HDF.out.mono ?_); rintro e w7 ⟨ho, hb7⟩
  rw [HR.out] at ho
  obtain ⟨v7, rfl, hown7⟩ := ho
  dsimp only at hown7
  rw [HD.out] at hown7
  obtain ⟨A7, c7, rfl, hc7, hr7, hn7, hs7⟩ := Rd.own' hown7
  have HB7 := hid (HB6.out.trans (hb7.mono HB6.out.size))
  have HAP := hid (show Calls Try.prog 19 #[.slice A7 1 c7] w7 _ from apply_any A7 c7 [([97], [], [49], false, true)] (by decide) w7 hr7)
  obtain ⟨ba, oa, rfl, p1, p2, p3, p4, p5⟩ := JoinS.rd_btd hr7 (j := 0) (by decide)
  rw [Nat.zero_mul, Nat.add_zero] at p1 p2 p3 p4 p5
  have q1 : w7.cell? ⟨ba, oa, none⟩ = some (.string ⟨#[97]⟩) := by rw [← Str_def [97]]; exact p1
  have q2 : w7.cell? ⟨ba, oa + 1, none⟩ = some (.string ⟨#[]⟩) := by rw [← Str_def []]; exact p2
  have q3 : w7.cell? ⟨ba, oa + 2, none⟩ = some (.string ⟨#[49]⟩) := by rw [← Str_def [49]]; exact p3
  have q4 : w7.cell? ⟨ba, oa + 3, none⟩ = some (.bool false) := by exact p4
  have q5 : w7.cell? ⟨ba, oa + 4, none⟩ = some (.bool true) := by exact p5
  clear hb7 HDF hr7 hown7 p1 p2 p3 p4 p5
  simp only [List.length_cons, List.length_nil]
  go_wp2_with fail
  (with_reducible refine HAP.out.mono ?_); rintro e w8 ⟨⟨v8, rfl, hown8⟩, hb8⟩
  obtain ⟨A8, c8, rfl⟩ := own_succ hown8
  have HB8 := hid (HB7.out.trans (hb8.mono HB7.out.size))
  clear hown8 hb8 HAP
  rw [show (applyS [([97], [], [49], false, true)]).length = 1 from rfl]
  go_wp2
  go_ret
  exact ⟨rfl, HB8.out⟩
theorem nd0_short : nd0.length ≤ 1000 := by decide
theorem nd1_short : nd1.length ≤ 1000 := by decide
theorem awake10_any (w : World) : Calls Try.prog 6 #[] w fun e w' => e = .returned (.bool true) ∧ Below w.heap.size w w' := by
  obtain ⟨l, m, h1, h2⟩ := rests01 tree0 tree1 (show sha nd0 ≠ sha nd1 by unfold nd0 nd1; rw [nd0_sha, nd1_sha]; decide)
  exact awake_gen10 (sha nd0) (sha nd1) nd0 nd1 (heapF [nd0, nd1]) tree0 tree1 (by rw [sha_len]; omega) (by rw [sha_len]; omega) rfl (heap_src tree0 tree1) l m h1 h2 nd0_short nd1_short w
end Go.Proofs.Ytoidbgedpakjmaa.D10
