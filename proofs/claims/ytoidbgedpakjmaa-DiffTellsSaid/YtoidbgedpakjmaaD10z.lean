/- The walks of layer 10: all changes (begun). -/
import Derived.Test.YtoidbgedpakjmaaD10q
import Derived.Test.YtoidbgedpakjmaaJoincS
set_option linter.unusedVariables false
set_option linter.unusedSimpArgs false
namespace Go.Proofs.Ytoidbgedpakjmaa.D10
open Go Go.RowKit Go.Proofs.Ytoidbgedpakjmaa.Lib Go.Proofs.Ytoidbgedpakjmaa.Sha Go.Proofs.Ytoidbgedpakjmaa.Itms Go.Proofs.Ytoidbgedpakjmaa.T08 Go.Proofs.Ytoidbgedpakjmaa.QTail Go.Proofs.Ytoidbgedpakjmaa.WSeq Go.Proofs.Ytoidbgedpakjmaa.Ord Go.Proofs.Ytoidbgedpakjmaa.W08 Go.Proofs.Ytoidbgedpakjmaa.Dif Go.Proofs.Ytoidbgedpakjmaa.Mp Go.Proofs.Ytoidbgedpakjmaa.Tree Go.Proofs.Ytoidbgedpakjmaa.Bld
attribute [local go_sem] Str_size Str_toList Str_extract
theorem ti_chg : TI Try.prog 33 39 5 56 := TI.of (by kernel_rfl) (by kernel_rfl) (by decide) (by decide)
set_option maxRecDepth 100000 in
/-- seq.Joined over seq.Of -/
theorem join_of (Bs : Nat) (A B : Option Addr) (c d : Nat) (l m : List Itm) (hl : l.length ≤ 1000000) (hm : m.length ≤ 1000000) (w : World) (hbs : w.cell? ⟨Bs, 0, none⟩ = some (.slice A l.length c)) (hBs : Bs < w.heap.size) (hA : SlOk w A c l) (hB : SlOk w B d m)
    (hs1 : ∀ a b, A = some a → B = some b → a.block ≠ b.block) (hs2 : ∀ b, B = some b → b.block ≠ Bs) :
    Calls Try.prog 28 #[.func (.func 48) #[] #[.pointer (some ⟨Bs, 0, none⟩)], .slice B m.length d] w fun e w' => (∃ v, e = .returned v ∧ w'.ownsRow w.heap.size 82 5 v (JoinS.joinP l m).length (JoinS.bts (JoinS.joinP l m))) ∧ Below w.heap.size w w' := by
  have hRl : ∀ k, RunsS.ROf Bs A k → k < w.heap.size := fun k hk => by
    rcases hk with h | ⟨b, o, e, h⟩
    · omega
    · have h9 := hA.lt _ e
      dsimp only at h9
      omega
  refine (JoinS.joined_any 48 #[.pointer (some ⟨Bs, 0, none⟩)] (enters_of Try.func48 (by kernel_rfl) rfl) l m hl hm _ _ (RunsS.of_iter Bs A c l (by omega) w hbs hA.rd hRl) w hRl (fun k hk => rfl)
    (fun k => ∃ o, B = some ⟨k, o, none⟩) (fun k ⟨o, e⟩ hr => by
      rcases hr with h | ⟨b, o', e', h⟩
      · exact hs2 _ e h
      · exact hs1 _ _ e' e h.symm) (fun k ⟨o, e⟩ => hB.lt _ e) B d hB.cap hB.rd hB.nil hB.spot (fun bb oo e => ⟨oo, e⟩)).mono ?_
  rintro e w6 ⟨h1, h2, h3⟩
  exact ⟨h1, h2.quiet h3⟩
/-- what diff.Diff answers -/
def DiffOut (B : Nat) (r : Option (List Itm × List Itm)) (e : Ending) (W : World) : Prop := match r with
  | none => e = .returned (.tuple #[.slice none 0 0, .int .i64 6])
  | some q => ∃ v, e = .returned (.tuple #[v, .int .i64 0]) ∧ W.ownsRow B 39 5 v (diffS q.1 q.2).length (JoinS.bts (diffS q.1 q.2))
theorem merge_len_aux : ∀ (n : Nat) (a b : List Itm), a.length + b.length ≤ n → (mergeS a b).length ≤ a.length + b.length := by
  intro n
  induction n with
  | zero =>
    intro a b h
    obtain rfl : a = [] := List.eq_nil_of_length_eq_zero (by omega)
    obtain rfl : b = [] := List.eq_nil_of_length_eq_zero (by simp at h; rw [h]; rfl)
    rw [merge_nil]; simp
  | succ n ih =>
    intro a b h
    cases a with
    | nil => rw [merge_nil]; simp
    | cons x a =>
      cases b with
      | nil => rw [merge_end]; simp
      | cons y b =>
        rw [merge_cons]
        simp only [List.length_cons] at h
        have h1 := ih (x :: a) b (by simp only [List.length_cons]; omega)
        have h2 := ih a b (by omega)
        have h3 := ih a (y :: b) (by simp only [List.length_cons]; omega)
        simp only [List.length_cons] at h1 h3 ⊢
        split
        · simp only [List.length_cons]; omega
        · split
          · simp only [List.length_cons]; omega
          · simp only [List.length_cons]; omega
theorem merge_len (a b : List Itm) : (mergeS a b).length ≤ a.length + b.length := merge_len_aux _ a b (Nat.le_refl _)
theorem diff_len (a b : List Itm) : (diffS a b).length ≤ a.length + b.length := Nat.le_trans (List.length_filter_le _ _) (merge_len a b)
theorem chg_yes (z : List JoinS.Bo) (j : Nat) (h : j < z.length) (hc : chgS (JoinS.btd z j) = true) : (z.drop j).filter chgS = JoinS.btd z j :: (z.drop (j + 1)).filter chgS := by
  rw [List.drop_eq_getElem_cons h, ← JoinS.btd_eq z j h, List.filter_cons_of_pos hc]
theorem chg_no (z : List JoinS.Bo) (j : Nat) (h : j < z.length) (hc : chgS (JoinS.btd z j) = false) : (z.drop j).filter chgS = (z.drop (j + 1)).filter chgS := by
  rw [List.drop_eq_getElem_cons h, ← JoinS.btd_eq z j h, List.filter_cons_of_neg (by rw [hc]; decide)]
set_option maxRecDepth 100000 in
set_option maxHeartbeats 6400000 in
theorem diff_ne (hb mb n : Nat) (F : Src) (hF : ∀ k s, F k = some s → s.length ≤ 1000000000) (a b : List UInt8) (ha : a.length ≤ 1000000000) (hbl : b.length ≤ 1000000000)
    (hNa : ∀ k l, atS F a = some (k + 1, l) → cnt (k + 1) l ≤ 100000) (hNb : ∀ k l, atS F b = some (k + 1, l) → cnt (k + 1) l ≤ 100000)
    (hoa : ∀ s, readS F a = some s → SideOk s) (hob : ∀ s, readS F b = some s → SideOk s)
    (hls : ∀ l m, restsS F a b = some (l, m) → l.length ≤ 1000000 ∧ m.length ≤ 1000000) (hab : a ≠ b) (w : World) (hH : HeapT w hb mb n F) (hhb : hb < w.heap.size) (hmb : mb < w.heap.size) :
    Calls Try.prog 12 #[.iface 31 (.pointer (some ⟨hb, 0, none⟩)), .string (Str a), .string (Str b)] w fun e w' => DiffOut w.heap.size (restsS F a b) e w' ∧ Below w.heap.size w w' := by
  have HH := hid hH
  have HF := hid hF
  have gab : (a == b) = false := beq_eq_false_iff_ne.2 hab
  have HRA := hid (read_any hb mb n F hF a ha (fun k l h => Nat.le_trans (hNa k l h) (by omega)) w hH hhb hmb)
  have HNB := hid (fun k l (h : atS F b = some (k + 1, l)) => Nat.le_trans (hNb k l h) (by omega : 100000 ≤ 1000000))
  have HOA := hid hoa
  have HOB := hid hob
  clear hF hNa hNb hoa hob hH
  go_enter Try.func12, Try.ntmps12
  go_wp2_with fail
  (with_reducible refine HRA.out.mono ?_); rintro e w1 ⟨ho1, hb1⟩
  have HB1 := hid hb1
  have HRB := hid (read_any hb mb n F HF.out b hbl HNB.out w1 (HH.out.below hb1) (by have := hb1.size; omega) (by have := hb1.size; omega))
  clear hb1 HRA
  rcases ho1 with ⟨hn1, p1, rfl⟩ | ⟨x, q1, hx, hq1, rfl, hsx⟩
  · go_wp2_with fail
    (with_reducible refine HRB.out.mono ?_); rintro e w2 ⟨ho2, hb2⟩
    have HB2 := hid (HB1.out.trans (hb2.mono HB1.out.size))
    clear hb2 HRB
    have HE := hid (show restsS F a b = none by unfold restsS; rw [hn1])
    rcases ho2 with ⟨hn2, p2, rfl⟩ | ⟨y, q2, hy, hq2, rfl, hsy⟩
    · go_wp2
      go_ret2
      exact ⟨by rw [HE.out]; rfl, HB2.out⟩
    · go_wp2
      go_ret2
      exact ⟨by rw [HE.out]; rfl, HB2.out⟩
  · go_wp2_with fail
    (with_reducible refine HRB.out.mono ?_); rintro e w2 ⟨ho2, hb2⟩
    have HB2 := hid (HB1.out.trans (hb2.mono HB1.out.size))
    have HS2 := hid (hsx.below hb2)
    have HSX1 := hid hsx
    have HB12 := hid hb2
    clear hb2 HRB hsx
    rcases ho2 with ⟨hn2, p2, rfl⟩ | ⟨y, q2, hy, hq2, rfl, hsy⟩
    · have HE := hid (show restsS F a b = none by unfold restsS; rw [hx]; dsimp only; rw [hn2])
      go_wp2
      go_ret2
      exact ⟨by rw [HE.out]; rfl, HB2.out⟩
    · have HNM := hid (side_names _ q2 y b hbl (HOB.out y hy) w2 hsy)
      have HY2 := hid hsy
      clear hsy
      go_wp2_with fail
      (with_reducible refine HNM.out.mono ?_); rintro e w3 ⟨⟨m1, n1, rfl, hm1⟩, hb3⟩
      have HB3 := hid (HB2.out.trans (hb3.mono HB2.out.size))
      have HB13 := hid (HB12.out.trans (hb3.mono HB12.out.size))
      have HB23 := hid hb3
      have HX3 := hid (HS2.out.below hb3)
      have HY3 := hid (HY2.out.below hb3)
      have HRS := hid (side_rest hb mb n F HF.out _ q1 x a ha (HOA.out x hx) m1 n1 _ w1 w3 HSX1.out HB13.out (HH.out.below HB3.out) hm1)
      clear hm1 hb3 HNM
      go_wp2_with fail
      (with_reducible refine HRS.out.mono ?_); rintro e w4 ⟨ho4, hb4⟩
      have HB4 := hid (HB3.out.trans (hb4.mono HB3.out.size))
      have HB24 := hid (HB23.out.trans (hb4.mono HB23.out.size))
      have HX4 := hid (HX3.out.below hb4)
      have HY4 := hid (HY3.out.below hb4)
      have HNX := hid (side_names _ q1 x a ha (HOA.out x hx) w4 HX4.out)
      clear hb4 HRS
      cases hl4 : restS F a (namesF b y) x with
      | none =>
        rw [hl4] at ho4
        obtain rfl := ho4
        go_wp2_with fail
        (with_reducible refine HNX.out.mono ?_); rintro e w5 ⟨⟨m2, n2, rfl, hm2⟩, hb5⟩
        have HB5 := hid (HB4.out.trans (hb5.mono HB4.out.size))
        have HRS := hid (side_rest hb mb n F HF.out _ q2 y b hbl (HOB.out y hy) m2 n2 _ w2 w5 HY2.out (HB24.out.trans (hb5.mono HB24.out.size)) (HH.out.below HB5.out) hm2)
        clear hm2 hb5 HNX
        go_wp2_with fail
        (with_reducible refine HRS.out.mono ?_); rintro e w6 ⟨ho6, hb6⟩
        have HB6 := hid (HB5.out.trans (hb6.mono HB5.out.size))
        have HE := hid (show restsS F a b = none by unfold restsS; rw [hx]; dsimp only; rw [hy]; dsimp only; rw [hl4])
        clear hb6
        cases hl6 : restS F b (namesF a x) y with
        | none =>
          rw [hl6] at ho6
          obtain rfl := ho6
          go_wp2
          go_ret2
          exact ⟨by rw [HE.out]; rfl, HB6.out⟩
        | some m =>
          rw [hl6] at ho6
          obtain ⟨A6, c6, rfl, hsm, hp6⟩ := ho6
          clear hsm hp6
          go_wp2
          go_ret2
          exact ⟨by rw [HE.out]; rfl, HB6.out⟩
      | some l =>
        rw [hl4] at ho4
        obtain ⟨A4, c4, rfl, hsl, hp4⟩ := ho4
        have HP4 := hid hp4
        have HSL4 := hid hsl
        go_wp2_with fail
        (with_reducible refine HNX.out.mono ?_); rintro e w5 ⟨⟨m2, n2, rfl, hm2⟩, hb5⟩
        have hb5' := hb5
        have HZ45 := hid hb5.size
        have HB5 := hid (HB4.out.trans (hb5.mono HB4.out.size))
        have HRS := hid (side_rest hb mb n F HF.out _ q2 y b hbl (HOB.out y hy) m2 n2 _ w2 w5 HY2.out (HB24.out.trans (hb5.mono HB24.out.size)) (HH.out.below HB5.out) hm2)
        clear hm2 hb5 HNX
        go_wp2_with fail
        (with_reducible refine HRS.out.mono ?_); rintro e w6 ⟨ho6, hb6⟩
        have HB6 := hid (HB5.out.trans (hb6.mono HB5.out.size))
        have HL6 := hid ((hsl.below hb5').below hb6)
        clear hb6 hsl HRS
        cases hl6 : restS F b (namesF a x) y with
        | none =>
          rw [hl6] at ho6
          obtain rfl := ho6
          have HE := hid (show restsS F a b = none by unfold restsS; rw [hx]; dsimp only; rw [hy]; dsimp only; rw [hl4]; dsimp only; rw [hl6])
          go_wp2
          go_ret2
          exact ⟨by rw [HE.out]; rfl, HB6.out⟩
        | some m =>
          rw [hl6] at ho6
          obtain ⟨A6, c6, rfl, hsm, hp6⟩ := ho6
          have HP6 := hid hp6
          have HM6 := hid hsm
          clear hsm
          go_wp2_with fail
          (with_reducible refine (RunsS.of_any A4 l.length c4 w6).mono ?_); rintro e w7 ⟨rfl, hw7⟩
          have hb7 : Below w6.heap.size w6 w7 := by rw [hw7]; exact below_al (below_rf w6) _
          have HB7 := hid (HB6.out.trans (hb7.mono HB6.out.size))
          have HM7 := hid (HM6.out.below hb7)
          have HL7 := hid (HL6.out.below hb7)
          have hz7 : w7.heap.size = w6.heap.size + 1 := by rw [hw7]; simp
          have c7 : w7.cell? ⟨w6.heap.size, 0, none⟩ = some (.slice A4 l.length c4) := by rw [Go.Lib.cell_of_heap (show w7.heap[w6.heap.size]? = some (Obj.cells #[.slice A4 l.length c4] 28 (0, 0)) by rw [hw7]; exact heap_new _ _)]; rfl
          have hlen := hls l m (by unfold restsS; rw [hx]; dsimp only; rw [hy]; dsimp only; rw [hl4]; dsimp only; rw [hl6])
          have HJ := hid (join_of w6.heap.size A4 A6 c4 c6 l m hlen.1 hlen.2 w7 c7 (by omega) HL7.out HM7.out (fun p q e1 e2 => by
            have g1 := HP4.out p e1
            have g2 := HP6.out q e2
            have g3 := HSL4.out.lt p e1
            have g4 := HZ45.out
            have g5 := HB23.out.size
            omega) (fun q e2 => by have := HM6.out.lt q e2; omega))
          clear hw7 hb7
          go_wp2_with fail
          (with_reducible refine HJ.out.mono ?_); rintro e w8 ⟨⟨v8, rfl, hown8⟩, hb8⟩
          have HB8 := hid (HB7.out.trans (hb8.mono HB7.out.size))
          obtain ⟨z, hz⟩ : ∃ z, z = JoinS.joinP l m := ⟨_, rfl⟩
          rw [← hz] at hown8
          obtain ⟨A8, c8, rfl, _, hr8, _, _⟩ := Rd.own' hown8
          clear hb8 hown8 HJ
          have HE := hid (show restsS F a b = some (l, m) by unfold restsS; rw [hx]; dsimp only; rw [hy]; dsimp only; rw [hl4]; dsimp only; rw [hl6])
          have HD := hid (show z.filter chgS = diffS l m by rw [hz, join_merge]; rfl)
          have HZL := hid (show z.length ≤ 4000000 by rw [hz, join_merge]; have := merge_len l m; have := hlen.1; have := hlen.2; omega)
          have HRZ := hid hr8
          have HS8 := hid HB8.out.size
          clear hz hr8
          clear HH HF HNB HOA HOB hls HX3 HX4 HY3 HY4 HSX1 HSL4 HP4 HP6 HM6 HM7 HL6 HL7 HS2 HY2 hx hy hl4 hl6
          go_wp2
          go_loopw [14, 69] (fun ov jv wr => ∃ (out : List JoinS.Bo) (j : Nat), j ≤ z.length ∧ jv = .int .i64 (j : Int) ∧ out.length ≤ j ∧ Hid (out ++ (z.drop j).filter chgS = diffS l m) ∧ wr.ownsRow w8.heap.size 39 5 ov out.length (JoinS.bts out) ∧ Hid (Below w8.heap.size w8 wr)) (fun _ jv _ => z.length - (intOf jv).toNat)
          case atStart => exact ⟨[], 0, by omega, rfl, by simp, hid (by rw [List.drop_zero, List.nil_append]; exact HD.out), own_nil _ _ _ _, hid (below_rf w8)⟩
          case round =>
            obtain ⟨out, j, hj, rfl, hol, HC, hown, HBJ⟩ := hrel
            obtain ⟨Av, cv, rfl⟩ := own_succ hown
            have hzl := HZL.out
            by_cases hlt : j < z.length
            · obtain ⟨ba, oa, rfl, p1, p2, p3, p4, p5⟩ := JoinS.rd_btd (HRZ.out.below HBJ.out) hlt
              have hyes := chg_yes z j hlt
              have hno := chg_no z j hlt
              obtain ⟨⟨x1, x2, x3, x4, x5⟩, hx⟩ : ∃ x, x = JoinS.btd z j := ⟨_, rfl⟩
              rw [← hx] at p1 p2 p3 p4 p5 hyes hno
              dsimp only at p1 p2 p3 p4 p5
              obtain ⟨w9, hw9⟩ : ∃ w9, w9 = wr.alloc (Obj.cells #[.string (Str x1), .string (Str x2), .string (Str x3), .bool x4, .bool x5] 82) := ⟨_, rfl⟩
              have hb9 : Below wr.heap.size wr w9 := by rw [hw9]; exact below_al (below_rf wr) _
              have hn9 : w9.heap[wr.heap.size]? = some (Obj.cells #[.string (Str x1), .string (Str x2), .string (Str x3), .bool x4, .bool x5] 82 (0, 0)) := by rw [hw9]; exact heap_new _ _
              have y0 : w9.cell? ⟨wr.heap.size, 0, none⟩ = some (.string (Str x1)) := by rw [Go.Lib.cell_of_heap hn9]; rfl
              have y1 : w9.cell? ⟨wr.heap.size, 1, none⟩ = some (.string (Str x2)) := by rw [Go.Lib.cell_of_heap hn9]; rfl
              have y2 : w9.cell? ⟨wr.heap.size, 2, none⟩ = some (.string (Str x3)) := by rw [Go.Lib.cell_of_heap hn9]; rfl
              have y3 : w9.cell? ⟨wr.heap.size, 3, none⟩ = some (.bool x4) := by rw [Go.Lib.cell_of_heap hn9]; rfl
              have y4 : w9.cell? ⟨wr.heap.size, 4, none⟩ = some (.bool x5) := by rw [Go.Lib.cell_of_heap hn9]; rfl
              have HB9 := hid (below_tr HBJ.out hb9)
              have HO9 := hid (own_of_below hown hb9)
              have HZ9 := hid (show w9.heap.size = wr.heap.size + 1 by rw [hw9]; simp)
              have HYES := hid hyes
              have HNO := hid hno
              rw [hw9] at y0 y1 y2 y3 y4
              clear hx hb9 hn9 hown hyes hno
              by_cases h45 : x4 = x5
              · subst h45
                have g45 : (x4 != x4) = false := by cases x4 <;> rfl
                by_cases h23 : x2 = x3
                · subst h23
                  have g23 : (x2 == x2) = true := beq_self_eq_true _
                  have g23n : (x2 != x2) = false := by rw [bne, g23]; rfl
                  have HC2 := hid (show out ++ (z.drop (j + 1)).filter chgS = diffS l m by rw [← HC.out, HNO.out (by unfold chgS; rw [g45, g23n]; rfl)])
                  go_wp2
                  rw [← hw9]
                  go_roundw
                  case rel => exact ⟨out, j + 1, by omega, by go_num, by omega, HC2, HO9.out, HB9⟩
                  case measure => simp [intOf]; omega
                · have g23 : (x2 == x3) = false := beq_eq_false_iff_ne.2 h23
                  have g23n : (x2 != x3) = true := by rw [bne, g23]; rfl
                  have HC2 := hid (show (out ++ [(x1, x2, x3, x4, x4)]) ++ (z.drop (j + 1)).filter chgS = diffS l m by rw [← HC.out, HYES.out (by unfold chgS; rw [g45, g23n]; rfl)]; simp)
                  go_wp2_with (at_builtin; (rw [← hw9]; (refine wpList_app1 ti_chg (.tmp 85) (.tmp 97) (by rfl) (by rfl) w8.heap.size [.string (Str x1), .string (Str x2), .string (Str x3), .bool x4, .bool x4] 39 1 (by rfl) (by rw [HZ9.out]; rfl) HO9.out rfl (by simp [Value.oneCell']) HB9.out HB9.out.size (by omega) ?_); intro A' c' w10 ho10 hg10 hB10 hb10))
                  go_wp2
                  go_roundw
                  case rel => exact ⟨out ++ [(x1, x2, x3, x4, x4)], j + 1, by omega, by go_num, by rw [List.length_append, List.length_singleton]; omega, HC2, by rw [JoinS.bts_app, List.length_append]; exact ho10, hid hB10⟩
                  case measure => simp [intOf]; omega
              · have g45 : (x4 != x5) = true := by cases x4 <;> cases x5 <;> first | rfl | exact absurd rfl h45
                have HC2 := hid (show (out ++ [(x1, x2, x3, x4, x5)]) ++ (z.drop (j + 1)).filter chgS = diffS l m by rw [← HC.out, HYES.out (by unfold chgS; rw [g45]; rfl)]; simp)
                go_wp2_with (at_builtin; (rw [← hw9]; (refine wpList_app1 ti_chg (.tmp 85) (.tmp 97) (by rfl) (by rfl) w8.heap.size [.string (Str x1), .string (Str x2), .string (Str x3), .bool x4, .bool x5] 39 1 (by rfl) (by rw [HZ9.out]; rfl) HO9.out rfl (by simp [Value.oneCell']) HB9.out HB9.out.size (by omega) ?_); intro A' c' w10 ho10 hg10 hB10 hb10))
                go_wp2
                go_roundw
                case rel => exact ⟨out ++ [(x1, x2, x3, x4, x5)], j + 1, by omega, by go_num, by rw [List.length_append, List.length_singleton]; omega, HC2, by rw [JoinS.bts_app, List.length_append]; exact ho10, hid hB10⟩
                case measure => simp [intOf]; omega
            · obtain rfl : j = z.length := by omega
              have HC2 := hid (show out = diffS l m by rw [← HC.out, List.drop_length]; simp)
              go_wp2
              go_ret2
              exact ⟨by rw [HE.out]; exact ⟨_, rfl, by rw [← HC2.out]; exact own_base hown (by have := HB8.out.size; omega)⟩, HB8.out.trans (HBJ.out.mono HB8.out.size)⟩
set_option maxRecDepth 100000 in
theorem diff_eq (S : Value) (a : List UInt8) (w : World) :
    Calls Try.prog 12 #[S, .string (Str a), .string (Str a)] w fun e w' => DiffOut w.heap.size (some ([], [])) e w' ∧ Below w.heap.size w w' := by
  have gab : (a == a) = true := beq_self_eq_true _
  go_enter Try.func12, Try.ntmps12
  go_wp2
  go_ret2
  exact ⟨⟨_, rfl, by rw [diff_nil]; exact own_nil _ _ _ _⟩, below_rf w⟩
theorem diff_any (hb mb n : Nat) (F : Src) (hq : SrcQ F) (a b : List UInt8) (ha : a.length ≤ 1000000000) (hbl : b.length ≤ 1000000000) (w : World) (hH : HeapT w hb mb n F) (hhb : hb < w.heap.size) (hmb : mb < w.heap.size) :
    Calls Try.prog 12 #[.iface 31 (.pointer (some ⟨hb, 0, none⟩)), .string (Str a), .string (Str b)] w fun e w' => DiffOut w.heap.size (restsE F a b) e w' ∧ Below w.heap.size w w' := by
  unfold restsE
  by_cases e : a = b
  · subst e
    rw [if_pos rfl]; exact diff_eq _ a w
  · rw [if_neg e]
    exact diff_ne hb mb n F (fun k s h => by have := hq.short k s h; omega) a b ha hbl (fun k l h => by have := hq.at h; dsimp only at this; omega) (fun k l h => by have := hq.at h; dsimp only at this; omega) (fun s h => (hq.side h).1) (fun s h => (hq.side h).1) (fun l m h => hq.rests h) e w hH hhb hmb
end Go.Proofs.Ytoidbgedpakjmaa.D10
