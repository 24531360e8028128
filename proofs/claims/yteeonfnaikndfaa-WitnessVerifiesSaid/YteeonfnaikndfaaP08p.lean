/- The walk of the document's answer: what bytes are a node. -/
import Derived.Test.YteeonfnaikndfaaP08
import Derived.Test.YteeonfnaikndfaaW08u
set_option linter.unusedVariables false
set_option linter.unusedSimpArgs false
namespace Go.Proofs.Yteeonfnaikndfaa.P08
open Go Go.RowKit Go.Proofs.Yteeonfnaikndfaa Go.Proofs.Yteeonfnaikndfaa.Lib Go.Proofs.Yteeonfnaikndfaa.Sha Go.Proofs.Yteeonfnaikndfaa.T07 Go.Proofs.Yteeonfnaikndfaa.T08 Go.Proofs.Yteeonfnaikndfaa.Itms Go.Proofs.Yteeonfnaikndfaa.WSeq Go.Proofs.Yteeonfnaikndfaa.Ord Go.Proofs.Yteeonfnaikndfaa.W08 Go.Proofs.Yteeonfnaikndfaa.W01 Go.Proofs.Yteeonfnaikndfaa.Inj Go.Proofs.Yteeonfnaikndfaa.Tree Go.Proofs.Yteeonfnaikndfaa.Bld Go.Proofs.Yteeonfnaikndfaa.QTail
attribute [local go_sem] Str_size Str_toList Str_extract Str_append Str_get bt_nn bt_lt take_rest List.length_append
/-- the fields that were read of a pair -/
def FldsAt (r : List UInt8) (k : Nat) (r' a b : List UInt8) : Prop :=
  if k = 0 then r' = r ∧ a = [] ∧ b = [] else if k = 1 then fieldS r = some (a, r') ∧ b = [] else ∃ r1, fieldS r = some (a, r1) ∧ fieldS r1 = some (b, r')
theorem flds_0 (r : List UInt8) : FldsAt r 0 r [] [] := by unfold FldsAt; rw [if_pos rfl]; exact ⟨rfl, rfl, rfl⟩
theorem flds_1 {r a r1 : List UInt8} (h : fieldS r = some (a, r1)) : FldsAt r 1 r1 a [] := by unfold FldsAt; rw [if_neg (by decide), if_pos rfl]; exact ⟨h, rfl⟩
theorem flds_2 {r a b r1 r2 : List UInt8} (h1 : fieldS r = some (a, r1)) (h2 : fieldS r1 = some (b, r2)) : FldsAt r 2 r2 a b := by unfold FldsAt; rw [if_neg (by decide), if_neg (by decide)]; exact ⟨r1, h1, h2⟩
theorem right_snoc (acc : List Itm) (x : Itm) : rightS (acc ++ [x]) = (rightS acc && !badS x && (acc.isEmpty || ltS (lastS acc) x.1)) := by
  unfold rightS
  rw [okS_snoc, List.any_append]
  simp
  cases okS acc <;> cases acc.any badS <;> cases badS x <;> cases acc.isEmpty <;> cases ltS (lastS acc) x.1 <;> rfl
theorem right_front (acc l : List Itm) (h : rightS (acc ++ l) = true) : rightS acc = true := by
  unfold rightS at h ⊢
  rw [List.any_append] at h
  simp only [Bool.and_eq_true] at h ⊢
  have h1 := okS_take (acc ++ l) acc.length h.1
  rw [List.take_left] at h1
  refine ⟨h1, ?_⟩
  have h2 := h.2
  cases ha : acc.any badS with
  | false => rfl
  | true => rw [ha] at h2; simp at h2
/-- one of a node's texts: what is read of it, pair by pair -/
structure PHead (s : List UInt8) (lv N : Nat) : Prop where
  len : 3 ≤ s.length
  e0 : bt s 0 = 80
  e1 : bt s 1 = (lv : Int)
  e2 : bt s 2 = (N : Int)
  lv32 : lv ≤ 32
  n16 : N ≤ 16
  says : parseS s = (match parseGo lv N (s.drop 3) with | none => none | some (l, r) => if r = [] ∧ ¬ (0 < lv ∧ l.length = 0) ∧ rightS l = true then some (lv, l) else none)
theorem parse_bad {s : List UInt8} {lv N : Nat} (h : PHead s lv N) (acc : List Itm) (hr : rightS acc = false) (hg : ∀ l r, parseGo lv N (s.drop 3) = some (l, r) → ∃ l', l = acc ++ l') : parseS s = none := by
  rw [h.says]
  cases hp : parseGo lv N (s.drop 3) with
  | none => rfl
  | some q =>
    obtain ⟨l, r⟩ := q
    obtain ⟨l', rfl⟩ := hg l r hp
    dsimp only
    rw [if_neg]
    intro hh
    rw [right_front _ _ hh.2.2] at hr; cases hr
theorem flds_none {γ : Type} {r r' a b : List UInt8} {k : Nat} (F : List UInt8 → List UInt8 → List UInt8 → Option γ) (h : FldsAt r k r' a b) (hk : k < 2) (hf : fieldS r' = none) : (match fieldS r with
    | none => none
    | some (a, r1) => match fieldS r1 with
      | none => none
      | some (b, r2) => F a b r2) = none := by
  rcases (by omega : k = 0 ∨ k = 1) with rfl | rfl
  · unfold FldsAt at h
    rw [if_pos rfl] at h
    obtain ⟨rfl, _, _⟩ := h
    rw [hf]
  · unfold FldsAt at h
    rw [if_neg (by decide), if_pos rfl] at h
    rw [h.1]
    dsimp only
    rw [hf]
theorem flds_two {γ : Type} {r r' a b : List UInt8} (F : List UInt8 → List UInt8 → List UInt8 → Option γ) (h : FldsAt r 2 r' a b) : (match fieldS r with
    | none => none
    | some (a, r1) => match fieldS r1 with
      | none => none
      | some (b, r2) => F a b r2) = F a b r' := by
  unfold FldsAt at h
  rw [if_neg (by decide), if_neg (by decide)] at h
  obtain ⟨r1, h1, h2⟩ := h
  rw [h1]
  dsimp only
  rw [h2]
theorem flds_at0 {r r' a b : List UInt8} (h : FldsAt r 0 r' a b) : r' = r ∧ a = [] ∧ b = [] := by
  unfold FldsAt at h; rw [if_pos rfl] at h; exact h
theorem flds_at1 {r r' a b : List UInt8} (h : FldsAt r 1 r' a b) : fieldS r = some (a, r') ∧ b = [] := by
  unfold FldsAt at h; rw [if_neg (by decide), if_pos rfl] at h; exact h
/-- what the document's answer tells of a text -/
def ParseRef (B : Nat) (s : List UInt8) (e : Ending) (W : World) : Prop :=
  (parseS s = none ∧ e = .returned (.tuple #[.int .i64 0, .slice none 0 0, .bool false])) ∨
  ∃ lv l v, parseS s = some (lv, l) ∧ e = .returned (.tuple #[.int .i64 (lv : Int), v, .bool true]) ∧ W.ownsRow B 27 2 v l.length (its l)
theorem lastS_itm (l : List Itm) (h : 0 < l.length) : lastS l = (itm l (l.length - 1)).1 := by
  unfold lastS itm
  rw [List.getLast?_eq_getElem?, List.getD_eq_getElem?_getD, List.getElem?_eq_getElem (by omega)]; rfl
set_option maxRecDepth 100000 in
set_option maxHeartbeats 6400000 in
theorem parse_ref_any (s : List UInt8) (w : World) (hs : s.length ≤ 1000000000) :
    Calls Try.prog 41 #[.string (Str s)] w fun e w' => ParseRef w.heap.size s e w' ∧ Below w.heap.size w w' := by
  go_enter Try.func41, Try.ntmps41
  cases hh : headOk s with
  | false =>
    have hp : parseS s = none := by unfold parseS; rw [hh]; rfl
    have HP := hid hp
    have b0 := bt_nn s 0; have b1 := bt_nn s 1; have b2 := bt_nn s 2
    clear hp
    by_cases h3 : s.length < 3
    · have g3 : decide ((s.length : Int) < 3) = true := decide_eq_true (by omega)
      clear hh h3
      go_wp2
      go_ret3
      exact ⟨.inl ⟨HP.out, rfl⟩, below_rf w⟩
    · have g3 : decide ((s.length : Int) < 3) = false := decide_eq_false (by omega)
      by_cases h0 : bt s 0 = 80
      · have g0 : (bt s 0 == 80) = true := beq_iff_eq.2 h0
        have g0' : (bt s 0 != 80) = false := by rw [bne, g0]; rfl
        by_cases h1 : 32 < bt s 1
        · have g1 : decide ((32 : Int) < bt s 1) = true := decide_eq_true h1
          clear hh h0 h1
          go_wp2
          go_ret3
          exact ⟨.inl ⟨HP.out, rfl⟩, below_rf w⟩
        · have g1 : decide ((32 : Int) < bt s 1) = false := decide_eq_false h1
          have h2 : 16 < bt s 2 := by
            rcases Int.lt_or_le 16 (bt s 2) with h | h
            · exact h
            · have : headOk s = true := by simp only [headOk, Bool.and_eq_true, decide_eq_true_eq]; exact ⟨⟨⟨by omega, h0⟩, by omega⟩, h⟩
              rw [this] at hh; cases hh
          have g2 : decide ((16 : Int) < bt s 2) = true := decide_eq_true h2
          clear hh h0 h1 h2
          go_wp2
          go_ret3
          exact ⟨.inl ⟨HP.out, rfl⟩, below_rf w⟩
      · have g0 : (bt s 0 == 80) = false := beq_eq_false_iff_ne.2 h0
        have g0' : (bt s 0 != 80) = true := by rw [bne, g0]; rfl
        clear hh h0
        go_wp2
        go_ret3
        exact ⟨.inl ⟨HP.out, rfl⟩, below_rf w⟩
  | true =>
    simp only [headOk, Bool.and_eq_true, decide_eq_true_eq] at hh
    obtain ⟨⟨⟨h3, h0⟩, h1⟩, h2⟩ := hh
    have g0 : (bt s 0 == 80) = true := beq_iff_eq.2 h0
    have g0' : (bt s 0 != 80) = false := by rw [bne, g0]; rfl
    have g1 : decide ((32 : Int) < bt s 1) = false := decide_eq_false (by omega)
    have g2 : decide ((16 : Int) < bt s 2) = false := decide_eq_false (by omega)
    have g3 : decide ((s.length : Int) < 3) = false := decide_eq_false (by omega)
    obtain ⟨lv, hlv⟩ : ∃ lv, lv = (bat s 1).toNat := ⟨_, rfl⟩
    obtain ⟨N, hN⟩ : ∃ N, N = (bat s 2).toNat := ⟨_, rfl⟩
    have e1 : bt s 1 = (lv : Int) := by rw [hlv]; rfl
    have e2 : bt s 2 = (N : Int) := by rw [hN]; rfl
    have hlv2 : lv ≤ 32 := by omega
    have hN2 : N ≤ 16 := by omega
    have HH := hid (show PHead s lv N from ⟨h3, h0, e1, e2, hlv2, hN2, by
      unfold parseS headOk
      rw [if_pos (by simp only [Bool.and_eq_true, decide_eq_true_eq]; exact ⟨⟨⟨h3, h0⟩, h1⟩, h2⟩), ← hlv, ← hN]
      rcases parseGo lv N (s.drop 3) with _ | ⟨l, r⟩ <;> rfl⟩)
    rw [e1] at h1 g1
    rw [e2] at h2 g2
    have wl : IntKind.i64.wrap (lv : Int) = (lv : Int) := wrap_i _ (by omega) (by omega)
    have wn : IntKind.i64.wrap (N : Int) = (N : Int) := wrap_i _ (by omega) (by omega)
    have hs3 : (s.drop 3).length ≤ 1000000000 := by rw [List.length_drop]; omega
    clear h0 hlv hN
    go_wp2
    go_loopw [7, 8, 9] (fun rs v i wr => ∃ (k : Nat) (acc : List Itm) (r : List UInt8), k ≤ N ∧ i = .int .i64 (k : Int) ∧ rs = .string (Str r) ∧ r.length ≤ 1000000000 ∧ acc.length = k ∧ Hid (parseGo lv N (s.drop 3) = (match parseGo lv (N - k) r with | none => none | some (l, r') => some (acc ++ l, r'))) ∧ Hid (rightS acc = true) ∧ wr.ownsRow w.heap.size 27 2 v acc.length (its acc) ∧ Hid (Below w.heap.size w wr)) (fun _ _ i _ => N - (intOf i).toNat)
    case atStart => exact ⟨0, [], s.drop 3, by omega, rfl, rfl, hs3, rfl, hid (by rw [Nat.sub_zero]; cases parseGo lv N (s.drop 3) with | none => rfl | some q => rfl), hid rfl, own_nil _ _ _ _, hid (below_rf w)⟩
    case round =>
      obtain ⟨k, acc, r, hk, rfl, rfl, hrl, hal, HG, HRI, hown, HB⟩ := hrel
      have HAL := hid hal
      have hacc : acc.length ≤ 16 := by omega
      by_cases hlt : k < N
      · obtain ⟨A0, c0, rfl⟩ := own_succ hown
        obtain ⟨w1, hw1⟩ : ∃ w1, w1 = wr.alloc (Obj.cells #[Value.string (Str []), Value.string (Str [])] 47) := ⟨_, rfl⟩
        have hb1 : Below wr.heap.size wr w1 := by rw [hw1]; exact below_al (below_rf wr) _
        have hx1 : w1.heap[wr.heap.size]? = some (Obj.cells #[Value.string (Str []), Value.string (Str [])] 47 (0, 0)) := by rw [hw1]; exact heap_new _ _
        have hne : (Value.slice A0 acc.length c0).ownBlock ≠ some wr.heap.size := fun e => by
          have := own_lt hown wr.heap.size e
          omega
        have HNE := hid hne
        have HX1 := hid hx1
        have HB1 := hid (below_tr HB.out hb1)
        have HOWN1 := hid (own_of_below hown hb1)
        have HSZ := hid (HB.out.size)
        have hstep : parseGo lv (N - k) r = (match fieldS r with
            | none => none
            | some (a, r1) => match fieldS r1 with
              | none => none
              | some (b, r2) => if okVal lv b = true then (match parseGo lv (N - (k + 1)) r2 with | none => none | some (l, r3) => some ((a, b) :: l, r3)) else none) := by
          rw [show N - k = (N - (k + 1)) + 1 by omega]; rfl
        have HST := hid hstep
        have HRL := hid hrl
        rw [Str_nil] at hw1
        have HGG := hid HG.out
        clear hstep hown hb1 hx1 hne hal HG
        go_wp2
        rw [← hw1]
        clear hw1
        obtain ⟨wo, rfl⟩ : ∃ wo, wo = wr := ⟨_, rfl⟩
        go_loopw [7, 11] (fun rs2 i2 wi => ∃ (k2 : Nat) (r2 a b : List UInt8), k2 ≤ 2 ∧ i2 = .int .i64 (k2 : Int) ∧ rs2 = .string (Str r2) ∧ r2.length ≤ 1000000000 ∧ a.length ≤ 1000000000 ∧ b.length ≤ 1000000000 ∧ Hid (FldsAt r k2 r2 a b) ∧ Hid (wi.heap[wo.heap.size]? = some (Obj.cells #[.string (Str a), .string (Str b)] 47 (0, 0))) ∧ Hid (wi.ownsRow w.heap.size 27 2 (.slice A0 acc.length c0) acc.length (its acc)) ∧ Hid (Below w.heap.size w wi)) (fun _ i2 _ => 2 - (intOf i2).toNat)
        case atStart => exact ⟨0, r, [], [], by omega, rfl, rfl, HRL.out, by simp, by simp, hid (flds_0 r), HX1, HOWN1, HB1⟩
        case round =>
          obtain ⟨k2, r2, a, b, hk2, rfl, rfl, hr2, hal2, hbl2, HFL, HX, HOW, HB2⟩ := hrel
          have b0 := bt_nn r2 0
          have b1 := bt_nn r2 1
          have b2 := bt_lt r2 0
          have b3 := bt_lt r2 1
          by_cases hlt2 : k2 < 2
          · by_cases hl2 : r2.length < 2
            · have g1 : decide ((r2.length : Int) < 2) = true := decide_eq_true (by omega)
              have hf : fieldS r2 = none := by unfold fieldS; rw [if_pos hl2]
              have HN : Hid (parseS s = none) := hid (by rw [HH.out.says, HGG.out, HST.out, flds_none _ HFL.out hlt2 hf])
              clear hf hl2
              go_wp2
              go_ret3
              exact ⟨.inl ⟨HN.out, rfl⟩, HB2.out⟩
            · have g1 : decide ((r2.length : Int) < 2) = false := decide_eq_false (by omega)
              obtain ⟨n, hn⟩ : ∃ n, n = n2 r2 := ⟨_, rfl⟩
              have hnb : bt r2 0 * 256 + bt r2 1 = (n : Int) := by rw [hn, bt_bat, bt_bat]; unfold n2; omega
              have hn1 : n < 65536 := by omega
              have v0 : IntKind.i64.wrap (bt r2 0) = bt r2 0 := wrap_i _ (by omega) (by omega)
              have v1 : IntKind.i64.wrap (bt r2 1) = bt r2 1 := wrap_i _ (by omega) (by omega)
              have v2 : IntKind.i64.wrap (bt r2 0 * 256) = bt r2 0 * 256 := wrap_i _ (by omega) (by omega)
              have v3 : IntKind.i64.wrap (bt r2 0 * 256 + bt r2 1) = (n : Int) := by rw [hnb]; exact wrap_i _ (by omega) (by omega)
              have v4 : IntKind.i64.wrap (2 + (n : Int)) = 2 + (n : Int) := wrap_i _ (by omega) (by omega)
              by_cases hl3 : r2.length - 2 < n
              · have g2 : decide ((r2.length : Int) < 2 + (n : Int)) = true := decide_eq_true (by omega)
                have hf : fieldS r2 = none := by unfold fieldS; rw [if_neg hl2, ← hn, if_pos hl3]
                have HN : Hid (parseS s = none) := hid (by rw [HH.out.says, HGG.out, HST.out, flds_none _ HFL.out hlt2 hf])
                have hl2' : 2 ≤ r2.length := by omega
                clear hf hl2 hl3 hn hnb
                go_wp2
                go_quiet (fail)
                go_wp2
                go_ret3
                exact ⟨.inl ⟨HN.out, rfl⟩, below_drewN HB2.out _⟩
              · have g2 : decide ((r2.length : Int) < 2 + (n : Int)) = false := decide_eq_false (by omega)
                have hf : fieldS r2 = some ((r2.drop 2).take n, (r2.drop 2).drop n) := by unfold fieldS; rw [if_neg hl2, ← hn, if_neg hl3]
                have HF := hid hf
                have hl2' : 2 ≤ r2.length := by omega
                have hl3' : 2 + n ≤ r2.length := by omega
                clear hf hl2 hl3 hn hnb
                rcases (by omega : k2 = 0 ∨ k2 = 1) with rfl | rfl
                · obtain ⟨rfl, rfl, rfl⟩ := flds_at0 HFL.out
                  have q0 : wr.cell? ⟨wo.heap.size, 0, none⟩ = some (.string (Str [])) := by rw [Go.Lib.cell_of_heap HX.out]; rfl
                  have q1 : wr.frozen? ⟨wo.heap.size, 0, none⟩ = false := Go.Lib.frozen_of_heap HX.out 0
                  go_wp2
                  go_quiet (fail)
                  go_wp2
                  go_roundw
                  case rel => exact ⟨1, r2.drop (2 + n), (r2.drop 2).take n, [], by omega, rfl, rfl, by rw [List.length_drop]; omega, by rw [List.length_take, List.length_drop]; omega, by simp, hid (flds_1 (by rw [HF.out, List.drop_drop])), hid (heap_setCell_same (wr.drewN nq) wo.heap.size 0 _ _ _ HX.out), hid (own_setCell (show (wr.drewN nq).ownsRow _ _ _ _ _ _ from HOW.out) ⟨wo.heap.size, 0, none⟩ _ HNE.out), hid ((below_drewN HB2.out nq).setCell (p := ⟨wo.heap.size, 0, none⟩) HSZ.out _)⟩
                  case measure => simp [intOf]
                · obtain ⟨hf1, rfl⟩ := flds_at1 HFL.out
                  have HF1 := hid hf1
                  clear hf1
                  have q0 : wr.cell? ⟨wo.heap.size, 1, none⟩ = some (.string (Str [])) := by rw [Go.Lib.cell_of_heap HX.out]; rfl
                  have q1 : wr.frozen? ⟨wo.heap.size, 1, none⟩ = false := Go.Lib.frozen_of_heap HX.out 1
                  go_wp2
                  go_quiet (fail)
                  go_wp2
                  go_roundw
                  case rel => exact ⟨2, r2.drop (2 + n), a, (r2.drop 2).take n, by omega, rfl, rfl, by rw [List.length_drop]; omega, hal2, by rw [List.length_take, List.length_drop]; omega, hid (flds_2 HF1.out (by rw [HF.out, List.drop_drop])), hid (heap_setCell_same (wr.drewN nq) wo.heap.size 1 _ _ _ HX.out), hid (own_setCell (show (wr.drewN nq).ownsRow _ _ _ _ _ _ from HOW.out) ⟨wo.heap.size, 1, none⟩ _ HNE.out), hid ((below_drewN HB2.out nq).setCell (p := ⟨wo.heap.size, 1, none⟩) HSZ.out _)⟩
                  case measure => simp [intOf]
          · obtain rfl : k2 = 2 := by omega
            have hst2 : parseGo lv (N - k) r = (if okVal lv b = true then (match parseGo lv (N - (k + 1)) r2 with | none => none | some (l, r3) => some ((a, b) :: l, r3)) else none) := by rw [HST.out, flds_two _ HFL.out]
            have hgo : okVal lv b = true → parseGo lv N (s.drop 3) = (match parseGo lv (N - (k + 1)) r2 with | none => none | some (l, r') => some (acc ++ [(a, b)] ++ l, r')) := by
              intro h
              rw [HGG.out, hst2, if_pos h]
              cases parseGo lv (N - (k + 1)) r2 with
              | none => rfl
              | some q => obtain ⟨l, r3⟩ := q; simp
            have hno : okVal lv b = false → parseS s = none := by
              intro h
              rw [HH.out.says, HGG.out, hst2, if_neg (by rw [h]; decide)]
            have hbad : rightS (acc ++ [(a, b)]) = false → parseS s = none := by
              intro h
              cases ho : okVal lv b with
              | false => exact hno ho
              | true => exact parse_bad HH.out _ h (fun l r' hg => by
                  rw [hgo ho] at hg
                  cases hq : parseGo lv (N - (k + 1)) r2 with
                  | none => rw [hq] at hg; cases hg
                  | some q => rw [hq] at hg; injection hg with hg; injection hg with hg1 hg2; exact ⟨q.1, hg1.symm⟩)
            have HGO := hid hgo
            have HNO := hid hno
            have HBAD := hid hbad
            have HRS : Hid (rightS (acc ++ [(a, b)]) = (!badS (a, b) && (acc.isEmpty || ltS (lastS acc) a))) := hid (by rw [right_snoc, HRI.out, Bool.true_and])
            have p0 : wr.cell? ⟨wo.heap.size, 0, none⟩ = some (.string (Str a)) := by rw [Go.Lib.cell_of_heap HX.out]; rfl
            have p1 : wr.cell? ⟨wo.heap.size, 1, none⟩ = some (.string (Str b)) := by rw [Go.Lib.cell_of_heap HX.out]; rfl
            obtain ⟨w5, hw5⟩ : ∃ w5, w5 = wr.alloc (Obj.cells #[.string (Str a), .string (Str b)] 27) := ⟨_, rfl⟩
            have hb5 : Below wr.heap.size wr w5 := by rw [hw5]; exact below_al (below_rf wr) _
            have hy5 : w5.heap[wr.heap.size]? = some (Obj.cells #[.string (Str a), .string (Str b)] 27 (0, 0)) := by rw [hw5]; exact heap_new _ _
            have y0 : w5.cell? ⟨wr.heap.size, 0, none⟩ = some (.string (Str a)) := by rw [Go.Lib.cell_of_heap hy5]; rfl
            have y1 : w5.cell? ⟨wr.heap.size, 1, none⟩ = some (.string (Str b)) := by rw [Go.Lib.cell_of_heap hy5]; rfl
            have HB5 := hid (below_tr HB2.out hb5)
            have HOW5 := hid (own_of_below HOW.out hb5)
            have HZ5 : Hid (wr.heap.size < w5.heap.size) := hid (by rw [hw5]; simp)
            clear hst2 hgo hno hbad hb5 hy5
            go_wp2
            rw [← hw5]
            clear hw5
            by_cases c1 : 2000 < a.length
            · have g4 : decide ((2000 : Int) < (a.length : Int)) = true := decide_eq_true (by omega)
              have HN : Hid (parseS s = none) := hid (HBAD.out (by rw [HRS.out, show badS (a, b) = true by unfold badS; rw [decide_eq_true (show 2000 < (a, b).1.length from c1)]; rfl]; rfl))
              clear c1
              go_quiet (fail)
              go_wp2
              go_ret3
              exact ⟨.inl ⟨HN.out, rfl⟩, below_drewN HB5.out _⟩
            · have g4 : decide ((2000 : Int) < (a.length : Int)) = false := decide_eq_false (by omega)
              by_cases c2 : 8000 < b.length
              · have g5 : decide ((8000 : Int) < (b.length : Int)) = true := decide_eq_true (by omega)
                have HN : Hid (parseS s = none) := hid (HBAD.out (by rw [HRS.out, show badS (a, b) = true by unfold badS; rw [decide_eq_true (show 8000 < (a, b).2.length from c2), Bool.or_true]]; rfl))
                clear c1 c2
                go_quiet (fail)
                go_wp2
                go_ret3
                exact ⟨.inl ⟨HN.out, rfl⟩, below_drewN HB5.out _⟩
              · have g5 : decide ((8000 : Int) < (b.length : Int)) = false := decide_eq_false (by omega)
                have hnb : badS (a, b) = false := by unfold badS; rw [decide_eq_false (show ¬ 2000 < (a, b).1.length from c1), decide_eq_false (show ¬ 8000 < (a, b).2.length from c2)]; rfl
                have HRS2 : Hid (rightS (acc ++ [(a, b)]) = (acc.isEmpty || ltS (lastS acc) a)) := hid (by rw [HRS.out, hnb]; rfl)
                clear c1 c2 hnb HRS
                by_cases c3 : 0 < acc.length
                · have g6 : decide ((0 : Int) < (acc.length : Int)) = true := decide_eq_true (by omega)
                  have g6n : decide (0 < acc.length) = true := decide_eq_true c3
                  have hwl : IntKind.i64.wrap ((acc.length : Int) - 1) = (acc.length : Int) - 1 := by rw [IntKind.wrap_i64]; omega
                  have hnn : ((acc.length : Int) - 1).toNat = acc.length - 1 := by omega
                  have hn0 : (0 : Int) ≤ (acc.length : Int) - 1 := by omega
                  have hn1 : (acc.length : Int) - 1 < (acc.length : Int) := by omega
                  obtain ⟨bx, ox, rfl, hcx, _⟩ := rd_itm (rd_own HOW5.out) (j := acc.length - 1) (by omega)
                  have hls := lastS_itm acc c3
                  obtain ⟨lk, hlk⟩ : ∃ lk, lk = (itm acc (acc.length - 1)).1 := ⟨_, rfl⟩
                  rw [← hlk] at hcx hls
                  have hem : acc.isEmpty = false := by cases acc with | nil => simp at c3 | cons _ _ => rfl
                  have HRS3 : Hid (rightS (acc ++ [(a, b)]) = ltS lk a) := hid (by rw [HRS2.out, hem, hls]; rfl)
                  clear hls hlk hem HRS2 c3
                  cases hlt9 : ltS lk a with
                  | false =>
                    have HN : Hid (parseS s = none) := hid (HBAD.out (by rw [HRS3.out, hlt9]))
                    have hlt8 : Op.bytesLess lk a = false := hlt9
                    clear hlt9
                    go_quiet (fail)
                    go_wp2
                    go_ret3
                    exact ⟨.inl ⟨HN.out, rfl⟩, below_drewN HB5.out _⟩
                  | true =>
                    have HRN : Hid (rightS (acc ++ [(a, b)]) = true) := hid (by rw [HRS3.out, hlt9])
                    have hlt8 : Op.bytesLess lk a = true := hlt9
                    clear hlt9
                    go_quiet (fail)
                    have HOWN : Hid ((w5.drewN nq).ownsRow w.heap.size 27 2 (.slice (some ⟨bx, ox, none⟩) acc.length c0) acc.length (its acc)) := hid (show w5.ownsRow _ _ _ _ _ _ from HOW5.out)
                    have HBN : Hid (Below w.heap.size w (w5.drewN nq)) := hid (below_drewN HB5.out nq)
                    clear hwl hnn hn0 hn1
                    by_cases hl0 : lv = 0
                    · have hz : decide ((0 : Int) < (lv : Int)) = false := decide_eq_false (by omega)
                      have hz2 : decide (0 < lv) = false := decide_eq_false (by omega)
                      have hov : okVal lv b = true := by unfold okVal; rw [decide_eq_true hl0]; rfl
                      have HG2 := hid (HGO.out hov)
                      clear hov hl0
                      go_wp2_with (at_builtin; (refine wpList_appN ti_ritem (.tmp 129) (.tmp 131) (by rfl) (by rfl) w.heap.size [.string (Str a), .string (Str b)] 27 1 1 (by rfl) (by rfl) HOWN.out (by rfl) (by simp [Value.oneCell']) HBN.out HBN.out.size (by omega) ?_; intro A7 c7 w7 ho7 hg7 hB7 hs7))
                      go_wp2
                      go_roundw
                      case rel => exact ⟨k + 1, acc ++ [(a, b)], r2, by omega, by go_num, rfl, hr2, by have := HAL.out; simp; omega, HG2, HRN, by rw [its_app, List.length_append]; exact ho7, hid hB7⟩
                      case measure => simp [intOf]; omega
                    · have hz : decide ((0 : Int) < (lv : Int)) = true := decide_eq_true (by omega)
                      have hz2 : decide (0 < lv) = true := decide_eq_true (by omega)
                      have hov : okVal lv b = (decide (b.length = 40) && decide (1 ≤ told b) && decide (told b ≤ 1099511627776)) := by unfold okVal; rw [decide_eq_false hl0]; rfl
                      by_cases h40 : b.length = 40
                      · rw [decide_eq_true h40] at hov
                        have h40b : ((b.length : Int) == 40) = true := beq_iff_eq.2 (by omega)
                        have h40c : ((b.length : Int) != 40) = false := by rw [bne, h40b]; rfl
                        have h40d : 32 ≤ b.length := by omega
                        have h40e : (32 : Int) ≤ (b.length : Int) := by omega
                        have HCN := hid (fun W => count_any b W h40)
                        have hca : capT b = if told b ≤ 1099511627776 then told b else 1099511627777 := rfl
                        obtain ⟨t, ht⟩ : ∃ t, t = told b := ⟨_, rfl⟩
                        obtain ⟨q, hq⟩ : ∃ q, q = capT b := ⟨_, rfl⟩
                        rw [← ht] at hov hca
                        rw [← hq] at hca HCN
                        have HCA := hid hca
                        clear h40 ht hl0 hq hca
                        go_wp2_with fail
                        (with_reducible refine (HCN.out _).mono ?_); rintro e w9 ⟨rfl, rfl⟩
                        by_cases ht1 : 1 ≤ t
                        · have hq1 : 1 ≤ q := by rw [HCA.out]; split <;> omega
                          have g7 : decide ((q : Int) < 1) = false := decide_eq_false (by omega)
                          have g7n : decide (q < 1) = false := decide_eq_false (by omega)
                          go_wp2_with fail
                          (with_reducible refine (HCN.out _).mono ?_); rintro e w9 ⟨rfl, rfl⟩
                          by_cases ht2 : t ≤ 1099511627776
                          · have g8 : decide ((1099511627776 : Int) < (q : Int)) = false := decide_eq_false (by rw [HCA.out, if_pos ht2]; omega)
                            rw [decide_eq_true ht1, decide_eq_true ht2] at hov
                            have HG2 := hid (HGO.out hov)
                            clear hov ht1 ht2 hq1
                            go_wp2_with (at_builtin; (refine wpList_appN ti_ritem (.tmp 129) (.tmp 131) (by rfl) (by rfl) w.heap.size [.string (Str a), .string (Str b)] 27 1 1 (by rfl) (by rfl) HOWN.out (by rfl) (by simp [Value.oneCell']) HBN.out HBN.out.size (by omega) ?_; intro A7 c7 w7 ho7 hg7 hB7 hs7))
                            go_wp2
                            go_roundw
                            case rel => exact ⟨k + 1, acc ++ [(a, b)], r2, by omega, by go_num, rfl, hr2, by have := HAL.out; simp; omega, HG2, HRN, by rw [its_app, List.length_append]; exact ho7, hid hB7⟩
                            case measure => simp [intOf]; omega
                          · have g8 : decide ((1099511627776 : Int) < (q : Int)) = true := decide_eq_true (by rw [HCA.out, if_neg ht2]; omega)
                            have HN := hid (HNO.out (by rw [hov, decide_eq_false ht2, Bool.and_false]))
                            clear hov ht1 ht2 hq1
                            go_wp2
                            go_ret3
                            exact ⟨.inl ⟨HN.out, rfl⟩, HBN.out⟩
                        · have hq1 : q = 0 := by rw [HCA.out, if_pos (by omega)]; omega
                          have g7 : decide ((q : Int) < 1) = true := decide_eq_true (by omega)
                          have g7n : decide (q < 1) = true := decide_eq_true (by omega)
                          have HN := hid (HNO.out (by rw [hov, decide_eq_false ht1, Bool.and_false, Bool.false_and]))
                          clear hov ht1 hq1
                          go_wp2
                          go_ret3
                          exact ⟨.inl ⟨HN.out, rfl⟩, HBN.out⟩
                      · rw [decide_eq_false h40] at hov
                        have h40b : ((b.length : Int) == 40) = false := beq_eq_false_iff_ne.2 (by omega)
                        have h40c : ((b.length : Int) != 40) = true := by rw [bne, h40b]; rfl
                        have HN := hid (HNO.out (by rw [hov]; rfl))
                        clear hov h40 hl0
                        go_wp2
                        go_ret3
                        exact ⟨.inl ⟨HN.out, rfl⟩, HBN.out⟩
                · have g6 : decide ((0 : Int) < (acc.length : Int)) = false := decide_eq_false (by omega)
                  have g6n : decide (0 < acc.length) = false := decide_eq_false c3
                  have he0 : acc = [] := List.eq_nil_of_length_eq_zero (by omega)
                  have HRN : Hid (rightS (acc ++ [(a, b)]) = true) := hid (by rw [HRS2.out, he0]; rfl)
                  clear he0 c3 HRS2
                  go_quiet (fail)
                  have HOWN : Hid ((w5.drewN nq).ownsRow w.heap.size 27 2 (.slice A0 acc.length c0) acc.length (its acc)) := hid (show w5.ownsRow _ _ _ _ _ _ from HOW5.out)
                  have HBN : Hid (Below w.heap.size w (w5.drewN nq)) := hid (below_drewN HB5.out nq)
                  by_cases hl0 : lv = 0
                  · have hz : decide ((0 : Int) < (lv : Int)) = false := decide_eq_false (by omega)
                    have hz2 : decide (0 < lv) = false := decide_eq_false (by omega)
                    have hov : okVal lv b = true := by unfold okVal; rw [decide_eq_true hl0]; rfl
                    have HG2 := hid (HGO.out hov)
                    clear hov hl0
                    go_wp2_with (at_builtin; (refine wpList_appN ti_ritem (.tmp 129) (.tmp 131) (by rfl) (by rfl) w.heap.size [.string (Str a), .string (Str b)] 27 1 1 (by rfl) (by rfl) HOWN.out (by rfl) (by simp [Value.oneCell']) HBN.out HBN.out.size (by omega) ?_; intro A7 c7 w7 ho7 hg7 hB7 hs7))
                    go_wp2
                    go_roundw
                    case rel => exact ⟨k + 1, acc ++ [(a, b)], r2, by omega, by go_num, rfl, hr2, by have := HAL.out; simp; omega, HG2, HRN, by rw [its_app, List.length_append]; exact ho7, hid hB7⟩
                    case measure => simp [intOf]; omega
                  · have hz : decide ((0 : Int) < (lv : Int)) = true := decide_eq_true (by omega)
                    have hz2 : decide (0 < lv) = true := decide_eq_true (by omega)
                    have hov : okVal lv b = (decide (b.length = 40) && decide (1 ≤ told b) && decide (told b ≤ 1099511627776)) := by unfold okVal; rw [decide_eq_false hl0]; rfl
                    by_cases h40 : b.length = 40
                    · rw [decide_eq_true h40] at hov
                      have h40b : ((b.length : Int) == 40) = true := beq_iff_eq.2 (by omega)
                      have h40c : ((b.length : Int) != 40) = false := by rw [bne, h40b]; rfl
                      have h40d : 32 ≤ b.length := by omega
                      have h40e : (32 : Int) ≤ (b.length : Int) := by omega
                      have HCN := hid (fun W => count_any b W h40)
                      have hca : capT b = if told b ≤ 1099511627776 then told b else 1099511627777 := rfl
                      obtain ⟨t, ht⟩ : ∃ t, t = told b := ⟨_, rfl⟩
                      obtain ⟨q, hq⟩ : ∃ q, q = capT b := ⟨_, rfl⟩
                      rw [← ht] at hov hca
                      rw [← hq] at hca HCN
                      have HCA := hid hca
                      clear h40 ht hl0 hq hca
                      go_wp2_with fail
                      (with_reducible refine (HCN.out _).mono ?_); rintro e w9 ⟨rfl, rfl⟩
                      by_cases ht1 : 1 ≤ t
                      · have hq1 : 1 ≤ q := by rw [HCA.out]; split <;> omega
                        have g7 : decide ((q : Int) < 1) = false := decide_eq_false (by omega)
                        have g7n : decide (q < 1) = false := decide_eq_false (by omega)
                        go_wp2_with fail
                        (with_reducible refine (HCN.out _).mono ?_); rintro e w9 ⟨rfl, rfl⟩
                        by_cases ht2 : t ≤ 1099511627776
                        · have g8 : decide ((1099511627776 : Int) < (q : Int)) = false := decide_eq_false (by rw [HCA.out, if_pos ht2]; omega)
                          rw [decide_eq_true ht1, decide_eq_true ht2] at hov
                          have HG2 := hid (HGO.out hov)
                          clear hov ht1 ht2 hq1
                          go_wp2_with (at_builtin; (refine wpList_appN ti_ritem (.tmp 129) (.tmp 131) (by rfl) (by rfl) w.heap.size [.string (Str a), .string (Str b)] 27 1 1 (by rfl) (by rfl) HOWN.out (by rfl) (by simp [Value.oneCell']) HBN.out HBN.out.size (by omega) ?_; intro A7 c7 w7 ho7 hg7 hB7 hs7))
                          go_wp2
                          go_roundw
                          case rel => exact ⟨k + 1, acc ++ [(a, b)], r2, by omega, by go_num, rfl, hr2, by have := HAL.out; simp; omega, HG2, HRN, by rw [its_app, List.length_append]; exact ho7, hid hB7⟩
                          case measure => simp [intOf]; omega
                        · have g8 : decide ((1099511627776 : Int) < (q : Int)) = true := decide_eq_true (by rw [HCA.out, if_neg ht2]; omega)
                          have HN := hid (HNO.out (by rw [hov, decide_eq_false ht2, Bool.and_false]))
                          clear hov ht1 ht2 hq1
                          go_wp2
                          go_ret3
                          exact ⟨.inl ⟨HN.out, rfl⟩, HBN.out⟩
                      · have hq1 : q = 0 := by rw [HCA.out, if_pos (by omega)]; omega
                        have g7 : decide ((q : Int) < 1) = true := decide_eq_true (by omega)
                        have g7n : decide (q < 1) = true := decide_eq_true (by omega)
                        have HN := hid (HNO.out (by rw [hov, decide_eq_false ht1, Bool.and_false, Bool.false_and]))
                        clear hov ht1 hq1
                        go_wp2
                        go_ret3
                        exact ⟨.inl ⟨HN.out, rfl⟩, HBN.out⟩
                    · rw [decide_eq_false h40] at hov
                      have h40b : ((b.length : Int) == 40) = false := beq_eq_false_iff_ne.2 (by omega)
                      have h40c : ((b.length : Int) != 40) = true := by rw [bne, h40b]; rfl
                      have HN := hid (HNO.out (by rw [hov]; rfl))
                      clear hov h40 hl0
                      go_wp2
                      go_ret3
                      exact ⟨.inl ⟨HN.out, rfl⟩, HBN.out⟩
      · obtain rfl : k = N := by omega
        have hg := HG.out
        rw [Nat.sub_self] at hg
        have hps : parseS s = (if r = [] ∧ ¬ (0 < lv ∧ acc.length = 0) then some (lv, acc) else none) := by
          rw [HH.out.says, hg]
          simp [parseGo, HRI.out]
        have HPS := hid hps
        have HOWN := hid hown
        clear hg hps hown
        by_cases hr : r = []
        · have hrb : (r != []) = false := by rw [hr]; rfl
          have HR := hid hr
          by_cases hz : 0 < lv
          · have g4 : decide ((0 : Int) < (lv : Int)) = true := decide_eq_true (by omega)
            have g5 : decide (0 < lv) = true := decide_eq_true hz
            by_cases hk0 : acc.length = 0
            · have g6 : ((k : Int) == 0) = true := beq_iff_eq.2 (by omega)
              have HN : Hid (parseS s = none) := hid (by rw [HPS.out, if_neg (fun h => h.2 ⟨hz, hk0⟩)])
              clear hr hk0 hz hal
              go_wp2
              go_ret3
              exact ⟨.inl ⟨HN.out, rfl⟩, HB.out⟩
            · have g6 : ((k : Int) == 0) = false := beq_eq_false_iff_ne.2 (by omega)
              have HN : Hid (parseS s = some (lv, acc)) := hid (by rw [HPS.out, if_pos ⟨hr, fun h => hk0 h.2⟩])
              clear hr hk0 hz hal
              go_wp2
              go_ret3
              exact ⟨.inr ⟨lv, acc, _, HN.out, rfl, HOWN.out⟩, HB.out⟩
          · have g4 : decide ((0 : Int) < (lv : Int)) = false := decide_eq_false (by omega)
            have g5 : decide (0 < lv) = false := decide_eq_false hz
            have HN : Hid (parseS s = some (lv, acc)) := hid (by rw [HPS.out, if_pos ⟨hr, fun h => hz h.1⟩])
            clear hr hz hal
            go_wp2
            go_ret3
            exact ⟨.inr ⟨lv, acc, _, HN.out, rfl, HOWN.out⟩, HB.out⟩
        · have hrb : (r == []) = false := beq_eq_false_iff_ne.2 hr
          have HN : Hid (parseS s = none) := hid (by rw [HPS.out, if_neg (fun h => hr h.1)])
          clear hr hal
          go_wp2
          go_ret3
          exact ⟨.inl ⟨HN.out, rfl⟩, HB.out⟩
end Go.Proofs.Yteeonfnaikndfaa.P08
