/- The standard library's stable sort and CompactFunc over pairs of a number and a text, of short lists. -/
import Derived.Test.YtiemcfkekaklgaaPrJ
import Derived.Test.YtiemcfkekaklgaaRun
import Derived.Test.YtiemcfkekaklgaaStab
import Derived.Test.YtiemcfkekaklgaaMild
import Derived.Test.YtiemcfkekaklgaaBlk
import Derived.Test.YtiemcfkekaklgaaProg
import Derived.BigRegion
import Derived.Shelf.Abstract
set_option linter.unusedVariables false
set_option linter.unusedSimpArgs false
namespace Go.Proofs.Ytiemcfkekaklgaa.StabJ
open Go.RowKit Go.Shelf Go.Proofs.Ytiemcfkekaklgaa.Lib Go.Proofs.Ytiemcfkekaklgaa.PrJ Go.Proofs.Ytiemcfkekaklgaa.Run Go.Proofs.Ytiemcfkekaklgaa.Stab Go.Proofs.Ytiemcfkekaklgaa.QTail
abbrev d0 : Itm := (0, [])
theorem own_set {W : World} {base : Nat} {e : TypeId} {size g n cap k : Nat} {xs : List Value} (h : W.ownsRow base e size (.slice (some ⟨g, 0, none⟩) n cap) k xs) {j : Nat} (hj : j < xs.length) (v : Value) :
    (W.setCell ⟨g, j, none⟩ v).ownsRow base e size (.slice (some ⟨g, 0, none⟩) n cap) k (xs.set j v) := by
  refine ⟨by rw [List.length_set]; exact h.1, .inr ?_⟩
  rcases h.2 with ⟨e, _⟩ | ⟨g', cap', cur, e, hb, hh, h1, h2, h3, h4⟩
  · cases e
  · injection e with e1 e2 e3
    injection e1 with e1; injection e1 with e1
    subst e1 e3
    exact ⟨g, cap, cur.setIfInBounds j v, by rw [e2], hb, heap_setCell_same W g j cur e v hh, h1, h2, by simpa using h3, by rw [Array.toList_setIfInBounds, List.take_set, h4]⟩
theorem its_set (L : List Itm) (x : Itm) : ∀ i, ((its L).set (i * 2) ((.int .i64 (x).1))).set (i * 2 + 1) (.string (Str (x).2)) = its (L.set i x) := by
  induction L with
  | nil => intro i; simp [its]
  | cons y L ih =>
    intro i
    cases i with
    | zero => rfl
    | succ i =>
      rw [its_cons, List.set_cons_succ, its_cons, ← ih i, show (i + 1) * 2 = i * 2 + 2 by omega]
      rfl
/-- The row of the list that is sorted in place. -/
def RowL (W : World) (base g cap : Nat) (L : List Itm) : Prop := W.ownsRow base 59 2 (.slice (some ⟨g, 0, none⟩) L.length cap) L.length (its L)
theorem RowL.cells {W : World} {base g cap : Nat} {L : List Itm} (h : RowL W base g cap L) {i : Nat} (hi : i < L.length) : W.cell? ⟨g, i * 2, none⟩ = some ((.int .i64 ((itm L i)).1)) ∧ W.cell? ⟨g, i * 2 + 1, none⟩ = some (.string (Str ((itm L i)).2)) := by
  obtain ⟨A, c, e, hc, hr⟩ := Rd.own h
  injection e with e1 _ _
  subst e1
  obtain ⟨b, o, e, h1, h2⟩ := rd_itm hr hi
  injection e with e; injection e with e1 e2; subst e1; subst e2
  rw [Nat.zero_add] at h1 h2
  exact ⟨h1, h2⟩
theorem RowL.fro {W : World} {base g cap : Nat} {L : List Itm} (h : RowL W base g cap L) (j : Nat) : W.frozen? ⟨g, j, none⟩ = false := by
  rcases h.2 with ⟨e, _⟩ | ⟨g', cap', cur, e, hb, hh, h1⟩
  · cases e
  · injection e with e1 e2 e3
    injection e1 with e1; injection e1 with e1
    subst e1
    exact frozen_of_row W g j _ _ hh
theorem RowL.lt {W : World} {base g cap : Nat} {L : List Itm} (h : RowL W base g cap L) : g < W.heap.size := own_lt' h g rfl
theorem RowL.mv {W W' : World} {O : Nat → Prop} {base g cap : Nat} {L : List Itm} (h : RowL W base g cap L) (hm : Mv O W W') (hn : ¬ O g) : RowL W' base g cap L := own_mv h hm (fun k hk => by
  have : g = k := by simpa [Value.ownBlock] using hk
  rw [← this]; exact hn)
theorem RowL.put {W : World} {base g cap : Nat} {L : List Itm} (h : RowL W base g cap L) {i : Nat} (hi : i < L.length) (x : Itm) : RowL ((W.setCell ⟨g, i * 2, none⟩ ((.int .i64 (x).1))).setCell ⟨g, i * 2 + 1, none⟩ (.string (Str (x).2))) base g cap (L.set i x) := by
  unfold RowL at h ⊢
  rw [List.length_set, ← its_set L x i]
  have hl := its_len L
  exact own_set (own_set h (by omega) _) (by rw [List.length_set]; omega) _
theorem mv_swap (W : World) (g i1 i2 i3 i4 : Nat) (v1 v2 v3 v4 : Value) : Mv (fun k => k = g) W ((((W.setCell ⟨g, i1, none⟩ v1).setCell ⟨g, i2, none⟩ v2).setCell ⟨g, i3, none⟩ v3).setCell ⟨g, i4, none⟩ v4).drew := by
  have h1 : ∀ (X : World) (i : Nat) (v : Value), Mv (fun k => k = g) X (X.setCell ⟨g, i, none⟩ v) := fun X i v => Mv.setCell _ _ _ rfl
  have h4 := (((h1 W i1 v1).trans (h1 _ i2 v2) (O := fun k => k = g) (fun _ h => h) (fun _ _ h => h)).trans (h1 _ i3 v3) (O := fun k => k = g) (fun _ h => h) (fun _ _ h => h)).trans (h1 _ i4 v4) (O := fun k => k = g) (fun _ h => h) (fun _ _ h => h)
  exact ⟨h4.os, h4.tape, h4.output, h4.size, h4.block⟩
theorem el_itm (L : List Itm) (i : Nat) : el d0 L i = itm L i := rfl
set_option maxRecDepth 100000 in
set_option maxHeartbeats 800000 in
theorem swr_any (base g cap : Nat) (L : List Itm) (a b n : Nat) (cmp : Value) (hl : L.length ≤ 1000000000) (ha : a + n ≤ L.length) (hb : b + n ≤ L.length) (w : World) (h : RowL w base g cap L) :
    Calls Try.prog 62 #[.slice (some ⟨g, 0, none⟩) L.length cap, .int .i64 (a : Int), .int .i64 (b : Int), .int .i64 (n : Int), cmp] w fun e w' => (∃ v, e = .returned v) ∧ RowL w' base g cap (swr d0 L a b n 0) ∧ Mv (fun k => k = g) w w' := by
  go_enter Try.func62, Try.ntmps62
  go_wp2
  go_loopw [10] (fun i wr => ∃ k : Nat, k ≤ n ∧ i = .int .i64 (k : Int) ∧ ∃ M : List Itm, M.length = L.length ∧ RowL wr base g cap M ∧ Hid (swr d0 M a b n k = swr d0 L a b n 0) ∧ Hid (Mv (fun j => j = g) w wr)) (fun i _ => n - (intOf i).toNat)
  case atStart => exact ⟨0, by omega, rfl, L, rfl, h, hid rfl, hid (Mv.refl _ _)⟩
  case round =>
    obtain ⟨k, hk, rfl, M, hM, hrow, HE, HM⟩ := hrel
    by_cases hlt : k < n
    · obtain ⟨a1, a2⟩ := hrow.cells (i := a + k) (by omega)
      obtain ⟨b1, b2⟩ := hrow.cells (i := b + k) (by omega)
      have f1 := hrow.fro ((a + k) * 2)
      have f2 := hrow.fro ((a + k) * 2 + 1)
      have f3 := hrow.fro ((b + k) * 2)
      have f4 := hrow.fro ((b + k) * 2 + 1)
      obtain ⟨x, hx⟩ : ∃ x, x = itm M (a + k) := ⟨_, rfl⟩
      obtain ⟨y, hy⟩ : ∃ y, y = itm M (b + k) := ⟨_, rfl⟩
      rw [← hx] at a1 a2
      rw [← hy] at b1 b2
      have p1 := hrow.put (i := a + k) (by omega) y
      obtain ⟨c1, c2⟩ := p1.cells (i := b + k) (by simp; omega)
      have e1 := p1.fro ((b + k) * 2)
      have e2 := p1.fro ((b + k) * 2 + 1)
      have P2 := hid (p1.put (i := b + k) (by simp; omega) x)
      have HX := hid hx
      have HY := hid hy
      clear hx hy
      go_wp2
      go_region
      go_wp2
      go_roundw
      case rel =>
        refine ⟨k + 1, by omega, by simp, swp d0 M (a + k) (b + k), by rw [swp_len, hM], ?_, hid ?_, hid ?_⟩
        · rw [show swp d0 M (a + k) (b + k) = (M.set (a + k) y).set (b + k) x by rw [HX.out, HY.out]; rfl]
          exact P2.out
        · rw [← HE.out, swr.eq_1 d0 M a b n k, if_pos hlt]
        · exact HM.out.trans (O := fun j => j = g) (O2 := fun j => j = g) (mv_swap _ _ _ _ _ _ _ _ _ _) (fun _ h => h) (fun _ _ h => h)
      case measure => simp [intOf]; omega
    · obtain rfl : k = n := by omega
      go_wp2
      go_end0
      refine ⟨⟨_, rfl⟩, ?_, HM.out⟩
      rw [← HE.out, swr.eq_1 d0 M a b k k, if_neg (by omega)]
      exact hrow
/-- What the comparing function owes. -/
def CmpOk (cf : Nat) (cmp : Itm → Itm → Int) : Prop := ∀ (x y : Itm) (W : World), Calls Try.prog cf #[.agg #[(.int .i64 (x).1), (.string (Str (x).2))], .agg #[(.int .i64 (y).1), (.string (Str (y).2))]] W fun e w' => e = .returned (.int .i64 (cmp x y)) ∧ Below W.heap.size W w'
def ltC (cmp : Itm → Itm → Int) (x y : Itm) : Bool := decide (cmp x y < 0)
theorem CmpOk.at {cf : Nat} {cmp : Itm → Itm → Int} (h : CmpOk cf cmp) (x y : Itm) {w W : World} (hW : Below w.heap.size w W) : Calls Try.prog cf #[.agg #[(.int .i64 (x).1), (.string (Str (x).2))], .agg #[(.int .i64 (y).1), (.string (Str (y).2))]] W fun e w' => e = .returned (.int .i64 (cmp x y)) ∧ Below w.heap.size w w' :=
  (h x y W).mono fun e w' ⟨he, hb⟩ => ⟨he, hW.trans (hb.mono hW.size)⟩
theorem RowL.bcells {w W : World} {base g cap : Nat} {L : List Itm} (h : RowL w base g cap L) (hW : Below w.heap.size w W) {i : Nat} (hi : i < L.length) : W.cell? ⟨g, i * 2, none⟩ = some ((.int .i64 ((itm L i)).1)) ∧ W.cell? ⟨g, i * 2 + 1, none⟩ = some (.string (Str ((itm L i)).2)) := by
  obtain ⟨h1, h2⟩ := h.cells hi
  exact ⟨(hW.cell (p := ⟨g, i * 2, none⟩) h.lt).trans h1, (hW.cell (p := ⟨g, i * 2 + 1, none⟩) h.lt).trans h2⟩
set_option maxRecDepth 100000 in
set_option maxHeartbeats 1600000 in
theorem insort_any (base g cap : Nat) (L : List Itm) (a b cf : Nat) (cmp : Itm → Itm → Int) (hcf : CmpOk cf cmp) (eg : ∀ args w, (callFunc cf args).run Try.prog w = .ok (.enter cf args) w) (hl : L.length ≤ 1000000000) (ha : a ≤ 1000000000) (hb : b ≤ L.length) (w : World) (h : RowL w base g cap L) :
    Calls Try.prog 57 #[.slice (some ⟨g, 0, none⟩) L.length cap, .int .i64 (a : Int), .int .i64 (b : Int), .func (.func cf) #[] #[]] w fun e w' => (∃ v, e = .returned v) ∧ RowL w' base g cap (insort d0 (ltC cmp) L a b) ∧ Mv (fun k => k = g) w w' := by
  go_enter Try.func57, Try.ntmps57
  go_wp2
  go_loopw [8] (fun i wr => ∃ k : Nat, a + 1 ≤ k ∧ (k ≤ b ∨ k = a + 1) ∧ i = .int .i64 (k : Int) ∧ ∃ M : List Itm, Hid (M.length = L.length) ∧ RowL wr base g cap M ∧ Hid (insS d0 (ltC cmp) M a b k = insort d0 (ltC cmp) L a b) ∧ Hid (Mv (fun j => j = g) w wr)) (fun i _ => b - (intOf i).toNat)
  case atStart => exact ⟨a + 1, by omega, by omega, by simp, L, hid rfl, h, hid rfl, hid (Mv.refl _ _)⟩
  case round =>
    obtain ⟨k, hk1, hk2, rfl, M, HMl, hrow, HE, HM⟩ := hrel
    by_cases hlt : k < b
    · have HLEN : Hid (k < M.length) := hid (by have := HMl.out; omega)
      clear h
      go_wp2
      go_loopw [9] (fun i wr => ∃ j : Nat, a ≤ j ∧ j ≤ k ∧ i = .int .i64 (j : Int) ∧ ∃ N : List Itm, Hid (N.length = L.length) ∧ RowL wr base g cap N ∧ Hid (ins1 d0 (ltC cmp) N a j = ins1 d0 (ltC cmp) M a k) ∧ Hid (Mv (fun j => j = g) w wr)) (fun i _ => (intOf i).toNat)
      case atStart => exact ⟨k, by omega, by omega, rfl, M, HMl, hrow, hid rfl, HM⟩
      case round =>
        clear hrow HM
        obtain ⟨j, hj1, hj2, rfl, N, HNl, hrown, HEN, HMN⟩ := hrel
        by_cases haj : a < j
        · obtain ⟨j', rfl⟩ : ∃ j', j = j' + 1 := ⟨j - 1, by omega⟩
          have HL1 : Hid (j' + 1 < N.length) := hid (by have := HNl.out; have := HMl.out; have := HLEN.out; omega)
          have hL2 : j' + 1 < L.length := by have := HNl.out; have := HL1.out; omega
          have hL3 : j' < L.length := by omega
          have hwj : IntKind.i64.wrap (j' : Int) = (j' : Int) := by rw [IntKind.wrap_i64]; omega
          obtain ⟨x, hx⟩ : ∃ x, x = itm N (j' + 1) := ⟨_, rfl⟩
          obtain ⟨y, hy⟩ : ∃ y, y = itm N j' := ⟨_, rfl⟩
          have hc1 := fun W (hW : Below wr.heap.size wr W) => hrown.bcells hW HL1.out
          have hc2 := fun W (hW : Below wr.heap.size wr W) => hrown.bcells hW (i := j') (Nat.lt_of_succ_lt HL1.out)
          rw [← hx] at hc1
          rw [← hy] at hc2
          have hcm := fun W (hW : Below wr.heap.size wr W) => hcf.at x y hW
          obtain ⟨r, hr⟩ : ∃ r, r = cmp x y := ⟨_, rfl⟩
          rw [← hr] at hcm
          have g1 : decide ((a : Int) < (j' : Int) + 1) = true := decide_eq_true (by omega)
          have HX := hid hx
          have HY := hid hy
          have HR := hid hr
          have hswp : Hid (swp d0 N (j' + 1) j' = (N.set (j' + 1) y).set j' x) := hid (by rw [hx, hy]; rfl)
          clear hx hy hr
          go_wp2
          refine wp_region_mild wr.heap.size (by kernel_rfl) (by kernel_rfl) ?_
          repeat (
            refine wpQuiet_step (fun K hK => ?_)
            first
              | (refine mild_skip (by rfl) (hK _ ?_)
                 clear hK K)
              | (refine mild_read (by rfl) ?_
                 apply Exists.intro
                 refine ⟨fun W hW => ?_, hK _ ?_⟩
                 (go_simp; first | rfl | (rw [if_neg (by omega)]) | (rw [if_pos (by omega)]))
                 clear hK K)
              | (refine mild_call (by rfl) ?_
                 apply Exists.intro
                 apply Exists.intro
                 refine ⟨fun W hW => ?_, ?_⟩
                 (go_simp; exact ⟨rfl, rfl⟩)
                 apply Exists.intro
                 refine ⟨fun W hW => ?_, hK _ ?_⟩
                 (with_reducible exact (hcm W hW))
                 clear hK K)
            go_simp)
          refine wpQuiet_nil ?_
          intro W2 hW2
          have hr2 := hrown.mv (Mv.of_below (O := fun _ => False) hW2) (fun h => h)
          have HM2 := hid (HMN.out.trans (Mv.of_below (O := fun j => j = g) hW2) (O := fun j => j = g) (fun _ h => h) (fun _ _ h => h))
          clear hc1 hc2 hcm hrown hW2 HMN
          by_cases hlt0 : r < 0
          · have g2 : decide (r < (0 : Int)) = true := decide_eq_true hlt0
            have HE2 : Hid (ins1 d0 (ltC cmp) (swp d0 N (j' + 1) j') a j' = ins1 d0 (ltC cmp) M a k) := hid (by
              rw [← HEN.out, ins1.eq_1 d0 (ltC cmp) N a (j' + 1), if_pos haj, if_pos (by
                unfold ltC
                rw [el_itm, el_itm, Nat.add_sub_cancel, ← HX.out, ← HY.out, ← HR.out, g2])]
              rfl)
            obtain ⟨a1, a2⟩ := hr2.cells HL1.out
            obtain ⟨b1, b2⟩ := hr2.cells (Nat.lt_of_succ_lt HL1.out)
            rw [← HX.out] at a1 a2
            rw [← HY.out] at b1 b2
            have f1 := hr2.fro ((j' + 1) * 2)
            have f2 := hr2.fro ((j' + 1) * 2 + 1)
            have f3 := hr2.fro (j' * 2)
            have f4 := hr2.fro (j' * 2 + 1)
            have p1 := hr2.put HL1.out y
            obtain ⟨c1, c2⟩ := p1.cells (i := j') (by rw [List.length_set]; exact Nat.lt_of_succ_lt HL1.out)
            have e1 := p1.fro (j' * 2)
            have e2 := p1.fro (j' * 2 + 1)
            have P2 := hid (p1.put (i := j') (by rw [List.length_set]; exact Nat.lt_of_succ_lt HL1.out) x)
            clear p1 HEN
            go_wp2
            go_region
            go_wp2
            go_roundw
            case rel =>
              refine ⟨j', by omega, by omega, by simp, swp d0 N (j' + 1) j', hid (by rw [swp_len]; exact HNl.out), ?_, HE2, hid ?_⟩
              · rw [hswp.out]
                exact P2.out
              · exact HM2.out.trans (O := fun j => j = g) (O2 := fun j => j = g) (mv_swap _ _ _ _ _ _ _ _ _ _) (fun _ h => h) (fun _ _ h => h)
            case measure => simp [intOf]
          · have g2 : decide (r < (0 : Int)) = false := decide_eq_false hlt0
            have HE2 : Hid (N = ins1 d0 (ltC cmp) M a k) := hid (by
              rw [← HEN.out, ins1.eq_1 d0 (ltC cmp) N a (j' + 1), if_pos haj, if_neg (by
                unfold ltC
                rw [el_itm, el_itm, Nat.add_sub_cancel, ← HX.out, ← HY.out, ← HR.out, g2]
                decide)])
            have hge0 : 0 ≤ r := by omega
            clear HEN
            go_wp2
            go_roundw
            case rel =>
              refine ⟨k + 1, by omega, by omega, by simp, N, HNl, hr2, hid ?_, HM2⟩
              rw [← HE.out, insS.eq_1 d0 (ltC cmp) M a b k, if_pos hlt, HE2.out]
            case measure => simp [intOf]; omega
        · have hja : j = a := by omega
          subst hja
          have g1 : decide ((j : Int) < (j : Int)) = false := decide_eq_false (by omega)
          have HE2 : Hid (N = ins1 d0 (ltC cmp) M j k) := hid (by
            rw [← HEN.out, ins1.eq_1 d0 (ltC cmp) N j j, if_neg (by omega)])
          go_wp2
          go_quiet (fail)
          go_wp2
          go_roundw
          case rel =>
            refine ⟨k + 1, by omega, by omega, by simp, N, HNl, hrown, hid ?_, hid ?_⟩
            · rw [← HE.out, insS.eq_1 d0 (ltC cmp) M j b k, if_pos hlt, HE2.out]
            · exact HMN.out.trans (Mv.drewN _ _) (O := fun j => j = g) (O2 := fun _ => False) (fun _ h => h) (fun _ _ h => h.elim)
          case measure => simp [intOf]; omega
    · go_wp2
      go_end0
      refine ⟨⟨_, rfl⟩, ?_, HM.out⟩
      rw [← HE.out, insS.eq_1 d0 (ltC cmp) M a b k, if_neg (by omega)]
      exact hrow
set_option maxRecDepth 100000 in
set_option maxHeartbeats 3200000 in
theorem stable_any (base g cap cf : Nat) (cmp : Itm → Itm → Int) (hcf : CmpOk cf cmp) (eg : ∀ args w, (callFunc cf args).run Try.prog w = .ok (.enter cf args) w) (L : List Itm) (hl : L.length ≤ 19) (w : World) (h : RowL w base g cap L) :
    Calls Try.prog 53 #[.slice (some ⟨g, 0, none⟩) L.length cap, .int .i64 (L.length : Int), .func (.func cf) #[] #[]] w fun e w' => (∃ v, e = .returned v) ∧ RowL w' base g cap (stable d0 (ltC cmp) L) ∧ Mv (fun k => k = g) w w' := by
  obtain ⟨n, hn⟩ : ∃ n, n = L.length := ⟨_, rfl⟩
  have HINS := hid (insort_any base g cap L 0 L.length cf cmp hcf eg (by omega) (by omega) (Nat.le_refl _) w h)
  have HDEF : Hid (stable d0 (ltC cmp) L = insort d0 (ltC cmp) L 0 n) := hid (by
    unfold stable
    rw [← hn, blocks.eq_1, if_neg (by omega), merges.eq_1, if_neg (by omega)])
  rw [← hn] at HINS hl ⊢
  have q1 : decide ((20 : Int) ≤ (n : Int)) = false := decide_eq_false (by omega)
  have q2 : decide ((20 : Int) < (n : Int)) = false := decide_eq_false (by omega)
  clear hn
  go_enter Try.func53, Try.ntmps53
  go_wp2
  go_loopw [7, 8] (fun i j wr => i = .int .i64 0 ∧ j = .int .i64 20 ∧ w = wr) (fun i j _ => 0)
  case atStart => exact ⟨rfl, rfl, rfl⟩
  case round =>
    obtain ⟨rfl, rfl, rfl⟩ := hrel
    go_wp2_with fail
    refine HINS.out.mono ?_; rintro e w1 ⟨⟨v, rfl⟩, hr1, hm1⟩
    have HR1 := hid hr1
    have HM1 := hid hm1
    clear hr1 hm1 h
    go_wp2
    go_loopw [6] (fun i wr => i = .int .i64 20 ∧ w1 = wr) (fun i _ => 0)
    case atStart => exact ⟨rfl, rfl⟩
    case round =>
      obtain ⟨rfl, rfl⟩ := hrel
      go_wp2
      go_end0
      exact ⟨⟨_, rfl⟩, by rw [HDEF.out]; exact HR1.out, HM1.out⟩
def cpA (e : Itm → Itm → Bool) (L : List Itm) (k : Nat) : Nat := if k < L.length then (if e (itm L k) (itm L (k - 1)) then k else cpA e L (k + 1)) else L.length
termination_by L.length - k
/-- from k0 on, all behind the first two that are equal -/
def cpB (e : Itm → Itm → Bool) (M : List Itm) (k0 k j : Nat) : List Itm :=
  if k0 + j < M.length then (if e (itm M (k0 + j)) (itm M (k0 + j - 1)) then cpB e M k0 k (j + 1) else cpB e (M.set k (itm M (k0 + j))) k0 (k + 1) (j + 1)) else M.take k
termination_by M.length - j
decreasing_by all_goals (try simp only [List.length_set]); all_goals omega
/-- as slices.CompactFunc goes -/
def compactL (e : Itm → Itm → Bool) (L : List Itm) : List Itm := if L.length < 2 then L else if cpA e L 1 < L.length then cpB e L (cpA e L 1) (cpA e L 1) 1 else L
def EqOk (ef : Nat) (e : Itm → Itm → Bool) : Prop := ∀ (x y : Itm) (W : World), Calls Try.prog ef #[.agg #[(.int .i64 (x).1), (.string (Str (x).2))], .agg #[(.int .i64 (y).1), (.string (Str (y).2))]] W fun r w' => r = .returned (.bool (e x y)) ∧ Below W.heap.size W w'
theorem EqOk.at {ef : Nat} {e : Itm → Itm → Bool} (h : EqOk ef e) (x y : Itm) {w W : World} (hW : Below w.heap.size w W) : Calls Try.prog ef #[.agg #[(.int .i64 (x).1), (.string (Str (x).2))], .agg #[(.int .i64 (y).1), (.string (Str (y).2))]] W fun r w' => r = .returned (.bool (e x y)) ∧ Below w.heap.size w w' :=
  (h x y W).mono fun r w' ⟨he, hb⟩ => ⟨he, hW.trans (hb.mono hW.size)⟩
theorem RowL.cap_le {W : World} {base g cap : Nat} {L : List Itm} (h : RowL W base g cap L) : L.length ≤ cap ∧ cap ≤ maxLen := by
  rcases h.2 with ⟨e, _⟩ | ⟨g', cap', cur, e, hb, hh, h1, h2, _⟩
  · cases e
  · injection e with e1 e2 e3
    subst e3; exact ⟨h1, h2⟩
theorem its_take2 (L : List Itm) (k : Nat) : (its L).take (k * 2) = its (L.take k) := by rw [Nat.mul_comm, its_take]
theorem clear_tail (W : World) (base g cap k : Nat) (L : List Itm) (h : RowL W base g cap L) (hk : k < L.length) :
    ∃ W', (∀ ty, (Builtin.clear_ #[56] ty #[.slice (some ⟨g, k * 2, none⟩) (L.length - k) (cap - k)]).run Try.prog W = .ok (.tuple #[]) W') ∧ W'.ownsRow base 59 2 (.slice (some ⟨g, 0, none⟩) k cap) k (its (L.take k)) ∧ Mv (fun j => j = g) W W' := by
  have hu : Try.prog.underlying 56 = some (.slice 59) := by kernel_rfl
  have hz : ∀ w, (zeroValue 59).run Try.prog w = .ok (.agg #[.int .i64 0, .string ⟨#[]⟩]) w := fun w => by kernel_rfl
  rcases h.2 with ⟨e, _⟩ | ⟨g', cap', cur, e, hb, hh, h1, h2, h3, h4⟩
  · cases e
  injection e with e1 e2 e3
  injection e1 with e1; injection e1 with e1
  subst e1 e3
  obtain ⟨zs, hzs⟩ : ∃ zs, zs = (Builtin.zeroCells (Value.agg #[.int .i64 0, .string ⟨#[]⟩]).cells (L.length - k)).toList := ⟨_, rfl⟩
  have hzl : zs.length = (L.length - k) * 2 := by rw [hzs]; simp [Builtin.zeroCells, Value.cells]
  have hz1 : ∀ v ∈ zs, v.oneCell' = true := by
    intro v hv
    rw [hzs] at hv
    simp [Builtin.zeroCells, Value.cells] at hv
    obtain ⟨i, _, rfl⟩ := hv
    rcases Nat.mod_two_eq_zero_or_one i with h | h <;> simp [h, Value.oneCell']
  have hst := storeCells_B Try.prog g (k * 2) 59 (0, 0) zs 0 cur W hh (.inl rfl) (by rw [hzl]; omega) hz1
  obtain ⟨RR, hRR⟩ : ∃ RR, RR = (cur.toList.take (k * 2 + 0) ++ zs ++ cur.toList.drop (k * 2 + 0 + zs.length)).toArray := ⟨_, rfl⟩
  rw [← hRR] at hst
  obtain ⟨m, hm⟩ : ∃ m, L.length - k = m + 1 := ⟨L.length - k - 1, by omega⟩
  refine ⟨W.setRow g RR, ?_, ⟨?_, .inr ⟨g, cap, RR, rfl, hb, setRow_heap W g cur _ _ _ hh, by omega, h2, ?_, ?_⟩⟩, ?_⟩
  · intro ty
    rw [hm] at hzs ⊢
    simp [Builtin.clear_, run_underlying hu, hz, ← hzs, hst]
  · rw [its_len]; simp; omega
  · rw [hRR]; simp [hzl]; omega
  · rw [hRR]
    show List.take (k * 2) (cur.toList.take (k * 2 + 0) ++ zs ++ cur.toList.drop (k * 2 + 0 + zs.length)) = _
    rw [List.append_assoc, List.take_append_of_le_length (by simp; omega)]
    rw [← its_take2, ← h4, List.take_take, List.take_take]
    congr 1; omega
  · exact ⟨rfl, rfl, rfl, by simp, fun j hj hne => setRow_other W g j _ (fun e => hne e)⟩
theorem cpA_pos (e : Itm → Itm → Bool) (L : List Itm) (n : Nat) : ∀ k, L.length - k = n → 1 ≤ k → 1 ≤ L.length → 1 ≤ cpA e L k := by
  induction n with
  | zero => intro k h1 h2 h3; rw [cpA, if_neg (by omega)]; exact h3
  | succ n ih =>
    intro k h1 h2 h3; rw [cpA]; split
    · split
      · exact h2
      · exact ih _ (by omega) (by omega) h3
    · exact h3
set_option maxRecDepth 100000 in
set_option maxHeartbeats 3200000 in
theorem compact_any (base g cap ef : Nat) (e : Itm → Itm → Bool) (hef : EqOk ef e) (eg : ∀ args w, (callFunc ef args).run Try.prog w = .ok (.enter ef args) w) (L : List Itm) (hl : L.length ≤ 1000000000) (w : World) (h : RowL w base g cap L) :
    Calls Try.prog 49 #[.slice (some ⟨g, 0, none⟩) L.length cap, .func (.func ef) #[] #[]] w fun r w' => (∃ v, r = .returned v ∧ w'.ownsRow base 59 2 v (compactL e L).length (its (compactL e L))) ∧ Mv (fun k => k = g) w w' := by
  obtain ⟨n, hn⟩ : ∃ n, n = L.length := ⟨_, rfl⟩
  obtain ⟨hcap, hcm⟩ := h.cap_le
  have HN := hid hn
  rw [← hn] at hcap hl ⊢
  clear hn
  go_enter Try.func49, Try.ntmps49
  by_cases hn2 : n < 2
  · have q1 : decide ((n : Int) < 2) = true := decide_eq_true (by omega)
    go_wp2
    refine bodyPost_ret (results_tmp rfl _ _ _) rfl ?_
    have hc : compactL e L = L := by unfold compactL; rw [← HN.out, if_pos hn2]
    rw [hc]
    exact ⟨⟨_, rfl, by rw [HN.out]; exact h⟩, Mv.refl _ _⟩
  · have q1 : decide ((n : Int) < 2) = false := decide_eq_false (by omega)
    have HCO : Hid (compactL e L = if cpA e L 1 < n then cpB e L (cpA e L 1) (cpA e L 1) 1 else L) := hid (by unfold compactL; rw [← HN.out, if_neg hn2])
    go_wp2
    go_loopw [5] (fun k wr => ∃ k' : Nat, 1 ≤ k' ∧ k' ≤ n ∧ k = .int .i64 (k' : Int) ∧ RowL wr base g cap L ∧ Hid (cpA e L k' = cpA e L 1) ∧ Hid (Mv (fun j => j = g) w wr)) (fun k _ => n + 1 - (intOf k).toNat)
    case atStart => exact ⟨1, by omega, by omega, rfl, h, hid rfl, hid (Mv.refl _ _)⟩
    case round =>
      clear h
      obtain ⟨k, hk1, hkn, rfl, hrow, HE, HM⟩ := hrel
      by_cases hlt : k < n
      · obtain ⟨km, hkm⟩ : ∃ km, km = k - 1 := ⟨_, rfl⟩
        have hL2 : km < n := by omega
        have hkm2 : (k : Int) - 1 = (km : Int) := by omega
        have hwk : IntKind.i64.wrap (km : Int) = (km : Int) := by rw [IntKind.wrap_i64]; omega
        have hwk2 : IntKind.i64.wrap (k : Int) = (k : Int) := by rw [IntKind.wrap_i64]; omega
        obtain ⟨x, hx⟩ : ∃ x, x = itm L k := ⟨_, rfl⟩
        obtain ⟨y, hy⟩ : ∃ y, y = itm L km := ⟨_, rfl⟩
        have hc1 := fun W (hW : Below wr.heap.size wr W) => hrow.bcells hW (i := k) (by rw [← HN.out]; exact hlt)
        have hc2 := fun W (hW : Below wr.heap.size wr W) => hrow.bcells hW (i := km) (by rw [← HN.out]; exact hL2)
        rw [← hx] at hc1
        rw [← hy] at hc2
        have hcm := fun W (hW : Below wr.heap.size wr W) => hef.at x y hW
        obtain ⟨r, hr⟩ : ∃ r, r = e x y := ⟨_, rfl⟩
        rw [← hr] at hcm
        have HST : Hid (cpA e L k = if r then k else cpA e L (k + 1)) := hid (by rw [cpA.eq_1, ← HN.out, if_pos hlt, ← hkm, ← hx, ← hy, ← hr])
        clear hx hy hr hkm
        go_wp2
        refine wp_region_mild wr.heap.size (by kernel_rfl) (by kernel_rfl) ?_
        repeat (
          refine wpQuiet_step (fun K hK => ?_)
          first
            | (refine mild_skip (by rfl) (hK _ ?_)
               clear hK K)
            | (refine mild_read (by rfl) ?_
               apply Exists.intro
               refine ⟨fun W hW => ?_, hK _ ?_⟩
               (go_simp; first | rfl | (rw [if_neg (by omega)]) | (rw [if_pos (by omega)]))
               clear hK K)
            | (refine mild_call (by rfl) ?_
               apply Exists.intro
               apply Exists.intro
               refine ⟨fun W hW => ?_, ?_⟩
               (go_simp; exact ⟨rfl, rfl⟩)
               apply Exists.intro
               refine ⟨fun W hW => ?_, hK _ ?_⟩
               (with_reducible exact (hcm W hW))
               clear hK K)
          go_simp)
        refine wpQuiet_nil ?_
        intro W2 hW2
        have hr2 := hrow.mv (Mv.of_below (O := fun _ => False) hW2) (fun h => h)
        have HM2 := hid (HM.out.trans (Mv.of_below (O := fun j => j = g) hW2) (O := fun j => j = g) (fun _ h => h) (fun _ _ h => h))
        clear hc1 hc2 hcm hrow hW2 HM
        cases r with
        | false =>
          go_wp2
          go_roundw
          case rel => exact ⟨k + 1, by omega, by omega, by simp, hr2, hid (HST.out.symm.trans HE.out), HM2⟩
          case measure => simp [intOf]; omega
        | true =>
          have HK0 : Hid (k = cpA e L 1) := hid (by rw [← HE.out, HST.out]; rfl)
          have hne : ¬ cap = k := by omega
          have HCO2 : Hid (compactL e L = cpB e L k k 1) := hid (by rw [HCO.out, ← HK0.out, if_pos hlt])
          have HLL : Hid (L.length = n) := hid HN.out.symm
          clear HE HST hL2 hwk HCO
          go_wp2
          go_loopw [5, 7] (fun i j wr => ∃ k' t : Nat, k ≤ k' ∧ k' + 1 ≤ k + t ∧ k + t ≤ n ∧ i = .int .i64 (k' : Int) ∧ j = .int .i64 (t : Int) ∧ ∃ M : List Itm, Hid (M.length = n) ∧ RowL wr base g cap M ∧ Hid (cpB e M k k' t = cpB e L k k 1) ∧ Hid (Mv (fun j => j = g) w wr)) (fun _ j _ => n + 1 - (intOf j).toNat)
          case atStart => exact ⟨k, 1, Nat.le_refl _, by omega, by omega, rfl, rfl, L, HLL, hr2, hid rfl, HM2⟩
          case round =>
            clear hr2 HM2 hkm2
            obtain ⟨k', t, hk2, hkt, htn, rfl, rfl, M, HMl, hrow, HE, HM⟩ := hrel
            by_cases hlt2 : k + t < n
            · have q2 : decide ((t : Int) < ((n - k : Nat) : Int)) = true := decide_eq_true (by omega)
              obtain ⟨tm, htm⟩ : ∃ tm, tm = t - 1 := ⟨_, rfl⟩
              have htm2 : (t : Int) - 1 = (tm : Int) := by omega
              have hb1 : t < n - k := by omega
              have hb2 : tm < n - k := by omega
              have hb3 : k' < n := by omega
              have hwk : IntKind.i64.wrap (tm : Int) = (tm : Int) := by rw [IntKind.wrap_i64]; omega
              have hwk3 : IntKind.i64.wrap (t : Int) = (t : Int) := by rw [IntKind.wrap_i64]; omega
              have hwk4 : IntKind.i64.wrap (k' : Int) = (k' : Int) := by rw [IntKind.wrap_i64]; omega
              obtain ⟨x, hx⟩ : ∃ x, x = itm M (k + t) := ⟨_, rfl⟩
              obtain ⟨y, hy⟩ : ∃ y, y = itm M (k + tm) := ⟨_, rfl⟩
              have hc1 := fun W (hW : Below wr.heap.size wr W) => hrow.bcells hW (i := k + t) (by rw [HMl.out]; exact hlt2)
              have hc2 := fun W (hW : Below wr.heap.size wr W) => hrow.bcells hW (i := k + tm) (by rw [HMl.out]; omega)
              rw [← hx, Nat.add_mul] at hc1
              rw [← hy, Nat.add_mul] at hc2
              have hcm := fun W (hW : Below wr.heap.size wr W) => hef.at x y hW
              obtain ⟨r, hr⟩ : ∃ r, r = e x y := ⟨_, rfl⟩
              rw [← hr] at hcm
              have HST : Hid (cpB e M k k' t = if r then cpB e M k k' (t + 1) else cpB e (M.set k' x) k (k' + 1) (t + 1)) := hid (by
                rw [cpB.eq_1, HMl.out, if_pos hlt2, show k + t - 1 = k + tm by omega, ← hx, ← hy, ← hr])
              have HX := hid hx
              clear hx hy hr htm
              go_wp2
              refine wp_region_mild wr.heap.size (by kernel_rfl) (by kernel_rfl) ?_
              repeat (
                refine wpQuiet_step (fun K hK => ?_)
                first
                  | (refine mild_skip (by rfl) (hK _ ?_)
                     clear hK K)
                  | (refine mild_read (by rfl) ?_
                     apply Exists.intro
                     refine ⟨fun W hW => ?_, hK _ ?_⟩
                     (go_simp; first | rfl | (rw [if_neg (by omega)]) | (rw [if_pos (by omega)]))
                     clear hK K)
                  | (refine mild_call (by rfl) ?_
                     apply Exists.intro
                     apply Exists.intro
                     refine ⟨fun W hW => ?_, ?_⟩
                     (go_simp; exact ⟨rfl, rfl⟩)
                     apply Exists.intro
                     refine ⟨fun W hW => ?_, hK _ ?_⟩
                     (with_reducible exact (hcm W hW))
                     clear hK K)
                go_simp)
              refine wpQuiet_nil ?_
              intro W2 hW2
              have hr2 := hrow.mv (Mv.of_below (O := fun _ => False) hW2) (fun h => h)
              have HM2 := hid (HM.out.trans (Mv.of_below (O := fun j => j = g) hW2) (O := fun j => j = g) (fun _ h => h) (fun _ _ h => h))
              clear hc1 hc2 hcm hrow hW2 HM
              cases r with
              | true =>
                go_wp2
                go_roundw
                case rel => exact ⟨k', t + 1, by omega, by omega, by omega, rfl, by simp, M, HMl, hr2, hid (HST.out.symm.trans HE.out), HM2⟩
                case measure => simp [intOf]; omega
              | false =>
                obtain ⟨a1, a2⟩ := hr2.cells (i := k + t) (by rw [HMl.out]; exact hlt2)
                rw [← HX.out, Nat.add_mul] at a1 a2
                obtain ⟨b1, b2⟩ := hr2.cells (i := k') (by rw [HMl.out]; exact hb3)
                have f1 := hr2.fro (k' * 2)
                have f2 := hr2.fro (k' * 2 + 1)
                have P2 := hid (hr2.put (i := k') (by rw [HMl.out]; exact hb3) x)
                clear hr2
                go_wp2
                go_roundw
                case rel =>
                  refine ⟨k' + 1, t + 1, by omega, by omega, by omega, by simp, by simp, M.set k' x, hid (by rw [List.length_set]; exact HMl.out), P2.out, hid (HST.out.symm.trans HE.out), hid ?_⟩
                  exact (HM2.out.trans (Mv.setCell (O := fun j => j = g) W2 ⟨g, k' * 2, none⟩ _ rfl) (O := fun j => j = g) (fun _ h => h) (fun _ _ h => h)).trans (Mv.setCell (O := fun j => j = g) _ ⟨g, k' * 2 + 1, none⟩ _ rfl) (fun _ h => h) (fun _ _ h => h)
                case measure => simp [intOf]; omega
            · have q2 : decide ((t : Int) < ((n - k : Nat) : Int)) = false := decide_eq_false (by omega)
              have hb3 : k' < n := by omega
              have hne2 : ¬ cap = k' := by omega
              have hkc : k' ≤ cap := by omega
              have HRES : Hid (compactL e L = M.take k') := hid (by rw [HCO2.out, ← HE.out, cpB.eq_1, HMl.out, if_neg hlt2])
              have hcl := clear_tail wr base g cap k' M hrow (by rw [HMl.out]; exact hb3)
              rw [HMl.out] at hcl
              obtain ⟨W4, hW4, hown4, hm4⟩ := hcl
              have HOW := hid hown4
              have HM4 := hid (HM.out.trans hm4 (O := fun j => j = g) (fun _ h => h) (fun _ _ h => h))
              have HLE : Hid ((M.take k').length = k') := hid (by rw [List.length_take, HMl.out]; omega)
              have hkn4 : k' ≤ n := by omega
              clear hown4 hm4 hrow
              go_wp2
              refine bodyPost_ret (results_tmp rfl _ _ _) rfl ?_
              rw [HRES.out, HLE.out]
              exact ⟨⟨_, rfl, HOW.out⟩, HM4.out⟩
      · have HEND : Hid (compactL e L = L) := hid (by
          have : k = n := by omega
          rw [HCO.out, ← HE.out, cpA.eq_1, ← HN.out, if_neg hlt, if_neg (by omega)])
        go_wp2
        refine bodyPost_ret (results_tmp rfl _ _ _) rfl ?_
        rw [HEND.out]
        exact ⟨⟨_, rfl, by rw [HN.out] at *; exact hrow⟩, HM.out⟩
set_option maxRecDepth 100000 in
theorem sortst_any (base g cap cf : Nat) (cmp : Itm → Itm → Int) (hcf : CmpOk cf cmp) (eg : ∀ args w, (callFunc cf args).run Try.prog w = .ok (.enter cf args) w) (L : List Itm) (hl : L.length ≤ 19) (w : World) (h : RowL w base g cap L) :
    Calls Try.prog 46 #[.slice (some ⟨g, 0, none⟩) L.length cap, .func (.func cf) #[] #[]] w fun e w' => (∃ v, e = .returned v) ∧ RowL w' base g cap (stable d0 (ltC cmp) L) ∧ Mv (fun k => k = g) w w' := by
  have HST := hid (stable_any base g cap cf cmp hcf eg L hl w h)
  clear h hcf
  go_enter Try.func46, Try.ntmps46
  go_wp2_with fail
  refine HST.out.mono ?_; rintro e w1 ⟨⟨v, rfl⟩, hr1, hm1⟩
  go_wp2
  go_end0
  exact ⟨⟨_, rfl⟩, hr1, hm1⟩
/-- as slices.Reverse goes -/
def revL (L : List Itm) (i j : Nat) : List Itm := if i < j then revL (swp d0 L i j) (i + 1) (j - 1) else L
termination_by j - i
theorem revL_len (n : Nat) : ∀ (i j : Nat) (L : List Itm), j - i ≤ n → (revL L i j).length = L.length := by
  induction n with
  | zero => intro i j L h; rw [revL, if_neg (by omega)]
  | succ n ih =>
    intro i j L h; rw [revL]; split
    · rw [ih _ _ _ (by omega), swp_len]
    · rfl
set_option maxRecDepth 100000 in
set_option maxHeartbeats 1600000 in
theorem reverse_any (base g cap : Nat) (L : List Itm) (hl : L.length ≤ 1000000000) (hl0 : 0 < L.length) (w : World) (h : RowL w base g cap L) :
    Calls Try.prog 45 #[.slice (some ⟨g, 0, none⟩) L.length cap] w fun e w' => (∃ v, e = .returned v) ∧ RowL w' base g cap (revL L 0 (L.length - 1)) ∧ Mv (fun k => k = g) w w' := by
  obtain ⟨n, hn⟩ : ∃ n, L.length = n + 1 := ⟨L.length - 1, by omega⟩
  have HN := hid hn
  rw [hn]
  have hl2 : n ≤ 1000000000 := by omega
  clear hn hl hl0
  go_enter Try.func45, Try.ntmps45
  go_wp2
  go_loopw [2, 3] (fun i j wr => ∃ (i' : Nat) (j' : Int), i' ≤ n + 1 ∧ -1 ≤ j' ∧ j' ≤ n ∧ i = .int .i64 (i' : Int) ∧ j = .int .i64 j' ∧ ∃ M : List Itm, Hid (M.length = n + 1) ∧ RowL wr base g cap M ∧ Hid (revL M i' j'.toNat = revL L 0 n) ∧ Hid (Mv (fun j => j = g) w wr)) (fun i j _ => n + 1 - (intOf i).toNat)
  case atStart => exact ⟨0, n, by omega, by omega, by omega, rfl, by simp, L, HN, h, hid rfl, hid (Mv.refl _ _)⟩
  case round =>
    clear h
    obtain ⟨i, j', hi, hj0, hj, rfl, rfl, M, HMl, hrow, HE, HM⟩ := hrel
    by_cases hlt : (i : Int) < j'
    · obtain ⟨j, rfl⟩ : ∃ j : Nat, j' = (j : Int) := ⟨j'.toNat, by omega⟩
      have hM := HMl.out
      have hL1 : j < n + 1 := by omega
      have hL2 : i < n + 1 := by omega
      obtain ⟨a1, a2⟩ := hrow.cells (i := i) (by omega)
      obtain ⟨b1, b2⟩ := hrow.cells (i := j) (by omega)
      obtain ⟨y, hy⟩ : ∃ y, y = itm M i := ⟨_, rfl⟩
      obtain ⟨z, hz⟩ : ∃ z, z = itm M j := ⟨_, rfl⟩
      have hswp : Hid (swp d0 M i j = (M.set i z).set j y) := hid (by rw [hy, hz]; rfl)
      rw [← hy] at a1 a2
      rw [← hz] at b1 b2
      have f1 := hrow.fro (i * 2)
      have f2 := hrow.fro (i * 2 + 1)
      have f3 := hrow.fro (j * 2)
      have f4 := hrow.fro (j * 2 + 1)
      have p1 := hrow.put (i := i) (by omega) z
      obtain ⟨c1, c2⟩ := p1.cells (i := j) (by rw [List.length_set]; omega)
      have e1 := p1.fro (j * 2)
      have e2 := p1.fro (j * 2 + 1)
      have P2 := hid (p1.put (i := j) (by rw [List.length_set]; omega) y)
      have hwi : IntKind.i64.wrap (i : Int) = (i : Int) := by rw [IntKind.wrap_i64]; omega
      have hwj : IntKind.i64.wrap (j : Int) = (j : Int) := by rw [IntKind.wrap_i64]; omega
      clear hy hz p1 hM hrow
      go_wp2
      go_region
      go_wp2
      go_roundw
      case rel =>
        refine ⟨i + 1, (j : Int) - 1, by omega, by omega, by omega, by simp, rfl, swp d0 M i j, hid (by rw [swp_len]; exact HMl.out), ?_, hid ?_, hid ?_⟩
        · rw [hswp.out]; exact P2.out
        · rw [← HE.out, Int.toNat_natCast, revL.eq_1 M i j, if_pos (by omega), show ((j : Int) - 1).toNat = j - 1 by omega]
        · exact HM.out.trans (O := fun j => j = g) (O2 := fun j => j = g) (mv_swap _ _ _ _ _ _ _ _ _ _) (fun _ h => h) (fun _ _ h => h)
      case measure => simp [intOf]; omega
    · have q1 : decide ((i : Int) < j') = false := decide_eq_false hlt
      go_wp2
      go_end0
      refine ⟨⟨_, rfl⟩, ?_, HM.out⟩
      try simp only [Nat.add_sub_cancel]
      rw [← HE.out, revL.eq_1, if_neg (by omega)]
      exact hrow
theorem ti_pairZ : TI Try.prog 56 59 2 24 := TI.of (by kernel_rfl) (by kernel_rfl) (by decide) (by decide)
set_option maxRecDepth 100000 in
set_option maxHeartbeats 1600000 in
theorem clone_any (A : Option Addr) (c : Nat) (L : List Itm) (hl : L.length ≤ 1000000000) (hA : A = none → L.length = 0 ∧ c = 0) (hsp : ∀ a, A = some a → a.spot = none) (w : World) (h : Rd w A (its L)) :
    Calls Try.prog 44 #[.slice A L.length c] w fun e w' => (∃ v, e = .returned v ∧ w'.ownsRow w.heap.size 59 2 v L.length (its L)) ∧ Below w.heap.size w w' := by
  go_enter Try.func44, Try.ntmps44
  cases A with
  | none =>
    obtain ⟨h0, rfl⟩ := hA rfl
    obtain rfl : L = [] := List.length_eq_zero_iff.1 h0
    have hq : ∀ W, (binOp BinOp.eql 56 (Value.slice none 0 0) (Value.slice none 0 0)).run Try.prog W = .ok (.bool true) W := fun W => by kernel_rfl
    go_wp2
    go_ret
    exact ⟨⟨_, rfl, own_nil _ _ _ _⟩, below_rf w⟩
  | some a =>
    have hone : ∀ u ∈ its L, u.oneCell' = true := its_one L
    have hlen := its_len L
    have hnews := hid (h.alloc (Obj.cells #[] 59))
    have HSP := hid hsp
    have hq : ∀ W, (binOp BinOp.eql 56 (Value.slice (some a) L.length c) (Value.slice none 0 0)).run Try.prog W = .ok (.bool false) W := fun W => by kernel_rfl
    clear h hA hsp
    go_wp2_with (at_builtin; (refine wpList_appS ti_pairZ (.tmp 5) (.tmp 6) (by rfl) (by rfl) w.heap.size (some a) L.length c (its L) (by rfl) (by rfl) (own_empty w 59 2) (by omega) hnews.out (by intro h; cases h) HSP.out hone (below_al (below_rf w) _) (by simp) (by omega) ?_; intro v7 w7 ho7 hg7 hv7 hB7 hz7))
    go_wp2
    go_ret
    exact ⟨⟨_, rfl, by simpa using ho7⟩, hB7⟩
set_option maxRecDepth 100000 in
theorem reverse_nil (A : Option Addr) (c : Nat) (w : World) :
    Calls Try.prog 45 #[.slice A 0 c] w fun e w' => (∃ v, e = .returned v) ∧ w' = w := by
  go_enter Try.func45, Try.ntmps45
  go_wp2
  go_loopw [2, 3] (fun i j wr => i = .int .i64 0 ∧ j = .int .i64 (-1) ∧ wr = w) (fun i j _ => 0)
  case atStart => exact ⟨rfl, rfl, rfl⟩
  case round =>
    obtain ⟨rfl, rfl, rfl⟩ := hrel
    go_wp2
    go_end0
    exact ⟨⟨_, rfl⟩, rfl⟩
set_option maxRecDepth 100000 in
theorem insort_nil (A : Option Addr) (c : Nat) (cmp : Value) (w : World) :
    Calls Try.prog 57 #[.slice A 0 c, .int .i64 0, .int .i64 0, cmp] w fun e w' => (∃ v, e = .returned v) ∧ w' = w := by
  go_enter Try.func57, Try.ntmps57
  go_wp2
  go_loopw [8] (fun i wr => i = .int .i64 1 ∧ wr = w) (fun i _ => 0)
  case atStart => exact ⟨rfl, rfl⟩
  case round =>
    obtain ⟨rfl, rfl⟩ := hrel
    go_wp2
    go_end0
    exact ⟨⟨_, rfl⟩, rfl⟩
set_option maxRecDepth 100000 in
theorem stable_nil (A : Option Addr) (c : Nat) (cmp : Value) (w : World) :
    Calls Try.prog 53 #[.slice A 0 c, .int .i64 0, cmp] w fun e w' => (∃ v, e = .returned v) ∧ w' = w := by
  go_enter Try.func53, Try.ntmps53
  go_wp2
  go_loopw [7, 8] (fun i j wr => i = .int .i64 0 ∧ j = .int .i64 20 ∧ wr = w) (fun i j _ => 0)
  case atStart => exact ⟨rfl, rfl, rfl⟩
  case round =>
    obtain ⟨rfl, rfl, rfl⟩ := hrel
    go_wp2_with fail
    refine (insort_nil A c cmp wr).mono ?_; rintro e w1 ⟨⟨v, rfl⟩, rfl⟩
    go_wp2
    go_loopw [6] (fun i wr => i = .int .i64 20 ∧ wr = w1) (fun i _ => 0)
    case atStart => exact ⟨rfl, rfl⟩
    case round =>
      obtain ⟨rfl, rfl⟩ := hrel
      go_wp2
      go_end0
      exact ⟨⟨_, rfl⟩, rfl⟩
set_option maxRecDepth 100000 in
theorem sortst_nil (A : Option Addr) (c : Nat) (cmp : Value) (w : World) :
    Calls Try.prog 46 #[.slice A 0 c, cmp] w fun e w' => (∃ v, e = .returned v) ∧ w' = w := by
  go_enter Try.func46, Try.ntmps46
  go_wp2_with fail
  refine (stable_nil A c cmp w).mono ?_; rintro e w1 ⟨⟨v, rfl⟩, rfl⟩
  go_wp2
  go_end0
  exact ⟨⟨_, rfl⟩, rfl⟩
set_option maxRecDepth 100000 in
theorem compact_nil (A : Option Addr) (c : Nat) (cmp : Value) (w : World) :
    Calls Try.prog 49 #[.slice A 0 c, cmp] w fun e w' => e = .returned (.slice A 0 c) ∧ w' = w := by
  go_enter Try.func49, Try.ntmps49
  go_wp2
  refine bodyPost_ret (results_tmp rfl _ _ _) rfl ?_
  exact ⟨rfl, rfl⟩
/-- seq.Sorted, plainly -/
def sortedP (lt e : Itm → Itm → Bool) (L : List Itm) : List Itm := compactL e (stable d0 lt (revL L 0 (L.length - 1)))
theorem sortedP_nil (lt e : Itm → Itm → Bool) : sortedP lt e [] = [] := by
  have h1 : (stable d0 lt (revL [] 0 0)).length = 0 := by rw [stable_len, revL_len _ _ _ _ (Nat.le_refl _)]; rfl
  unfold sortedP compactL
  rw [List.length_nil, Nat.zero_sub, if_pos (by omega)]
  exact List.length_eq_zero_iff.1 h1
theorem own_up {O : Nat → Prop} {W W' : World} {base base' : Nat} {e : TypeId} {size : Nat} {v : Value} {k : Nat} {xs : List Value} (h : W.ownsRow base e size v k xs) (hb : base' ≤ base) : W.ownsRow base' e size v k xs := by
  refine ⟨h.1, ?_⟩
  rcases h.2 with h | ⟨g, cap, cur, h1, h2, h3⟩
  · exact .inl h
  · exact .inr ⟨g, cap, cur, h1, Nat.le_trans hb h2, h3⟩
set_option maxRecDepth 100000 in
set_option maxHeartbeats 1600000 in
theorem sorted_any (cmp : Itm → Itm → Int) (e : Itm → Itm → Bool) (hcf : CmpOk 47 cmp) (hef : EqOk 50 e) (A : Option Addr) (c : Nat) (L : List Itm) (hl : L.length ≤ 19) (hA : A = none → L.length = 0 ∧ c = 0) (hsp : ∀ a, A = some a → a.spot = none) (w : World) (h : Rd w A (its L)) :
    Calls Try.prog 30 #[.slice A L.length c] w fun r w' => (∃ v, r = .returned v ∧ w'.ownsRow w.heap.size 59 2 v (sortedP (ltC cmp) e L).length (its (sortedP (ltC cmp) e L))) ∧ Below w.heap.size w w' := by
  have HCL := hid (clone_any A c L (by omega) hA hsp w h)
  clear h hA hsp
  go_enter Try.func30, Try.ntmps30
  go_wp2_with fail
  refine HCL.out.mono ?_; rintro r w1 ⟨⟨v, rfl, hown⟩, hb1⟩
  have HB1 := hid hb1
  by_cases h0 : L.length = 0
  · obtain ⟨A1, c1, rfl⟩ := own_succ hown
    obtain rfl : L = [] := List.length_eq_zero_iff.1 h0
    have HO := hid hown
    simp only [List.length_nil] at *
    clear hown hb1
    go_wp2_with fail
    refine (reverse_nil A1 c1 w1).mono ?_; rintro r w2 ⟨⟨v, rfl⟩, rfl⟩
    go_wp2_with fail
    refine (sortst_nil A1 c1 _ w2).mono ?_; rintro r w3 ⟨⟨v, rfl⟩, rfl⟩
    go_wp2_with fail
    refine (compact_nil A1 c1 _ w3).mono ?_; rintro r w4 ⟨rfl, rfl⟩
    go_wp2
    go_ret
    rw [sortedP_nil]
    exact ⟨⟨_, rfl, HO.out⟩, HB1.out⟩
  · obtain ⟨g, cap, rfl, hge, _, _⟩ := own_Blk hown h0
    have hrow : RowL w1 w.heap.size g cap L := hown
    have HGE := hid hge
    obtain ⟨n, hn⟩ : ∃ n, n = L.length := ⟨_, rfl⟩
    have HRE := hid (reverse_any w.heap.size g cap L (by omega) (by omega) w1 hrow)
    have HN := hid hn
    rw [← hn] at HRE ⊢
    rw [← hn] at hl
    clear hown hb1 hge hrow hn h0
    go_wp2_with fail
    refine HRE.out.mono ?_; rintro r w2 ⟨⟨v, rfl⟩, hr2, hm2⟩
    have hlr : (revL L 0 (n - 1)).length = n := by rw [revL_len _ _ _ _ (Nat.le_refl _), HN.out]
    have HSO := hid (sortst_any w.heap.size g cap 47 cmp hcf (enters_of Try.func47 (by kernel_rfl) rfl) (revL L 0 (n - 1)) (by rw [hlr]; exact hl) w2 hr2)
    have HM2 := hid hm2
    rw [hlr] at HSO
    have HLR := hid hlr
    clear hr2 hm2 hlr
    go_wp2_with fail
    refine HSO.out.mono ?_; rintro r w3 ⟨⟨v, rfl⟩, hr3, hm3⟩
    have hls : (stable d0 (ltC cmp) (revL L 0 (n - 1))).length = n := by rw [stable_len, HLR.out]
    have HCO := hid (compact_any w.heap.size g cap 50 e hef (enters_of Try.func50 (by kernel_rfl) rfl) (stable d0 (ltC cmp) (revL L 0 (n - 1))) (by rw [hls]; omega) w3 hr3)
    have HM3 := hid hm3
    rw [hls] at HCO
    clear hr3 hm3 hls
    go_wp2_with fail
    refine HCO.out.mono ?_; rintro r w4 ⟨⟨v, rfl, ho4⟩, hm4⟩
    have HO4 := hid ho4
    have HM4 := hid hm4
    clear ho4 hm4
    go_wp2
    go_ret
    have hsp : sortedP (ltC cmp) e L = compactL e (stable d0 (ltC cmp) (revL L 0 (n - 1))) := by rw [HN.out]; rfl
    rw [hsp]
    refine ⟨⟨_, rfl, HO4.out⟩, ?_⟩
    have hm : Mv (fun k => k = g) w1 w4 := (HM2.out.trans HM3.out (O := fun k => k = g) (fun _ h => h) (fun _ _ h => h)).trans HM4.out (fun _ h => h) (fun _ _ h => h)
    exact HB1.out.trans (hm.below HB1.out.size (fun k hk e => by have := HGE.out; omega))
end Go.Proofs.Ytiemcfkekaklgaa.StabJ
