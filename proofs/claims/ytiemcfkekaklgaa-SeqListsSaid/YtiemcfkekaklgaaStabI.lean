/- The standard library's stable sort of pairs of a text and a number: the walks. -/
import Derived.Shelf.Abstract
import Derived.Test.YtiemcfkekaklgaaRun
import Derived.Test.YtiemcfkekaklgaaPrs
import Derived.Test.YtiemcfkekaklgaaProg
import Derived.Test.YtiemcfkekaklgaaStab
import Derived.Test.YtiemcfkekaklgaaMild
import Derived.BigRegion
set_option linter.unusedVariables false
set_option linter.unusedSimpArgs false
namespace Go.Proofs.Ytiemcfkekaklgaa.StabI
open Go.RowKit Go.Shelf Go.Proofs.Ytiemcfkekaklgaa.Lib Go.Proofs.Ytiemcfkekaklgaa.Prs Go.Proofs.Ytiemcfkekaklgaa.Run Go.Proofs.Ytiemcfkekaklgaa.Stab Go.Proofs.Ytiemcfkekaklgaa.QTail
abbrev d0 : Itm := ([], 0)
theorem own_set {W : World} {base : Nat} {e : TypeId} {size g n cap k : Nat} {xs : List Value} (h : W.ownsRow base e size (.slice (some ⟨g, 0, none⟩) n cap) k xs) {j : Nat} (hj : j < xs.length) (v : Value) :
    (W.setCell ⟨g, j, none⟩ v).ownsRow base e size (.slice (some ⟨g, 0, none⟩) n cap) k (xs.set j v) := by
  refine ⟨by rw [List.length_set]; exact h.1, .inr ?_⟩
  rcases h.2 with ⟨e, _⟩ | ⟨g', cap', cur, e, hb, hh, h1, h2, h3, h4⟩
  · cases e
  · injection e with e1 e2 e3
    injection e1 with e1; injection e1 with e1
    subst e1 e3
    exact ⟨g, cap, cur.setIfInBounds j v, by rw [e2], hb, heap_setCell_same W g j cur e v hh, h1, h2, by simpa using h3, by rw [Array.toList_setIfInBounds, List.take_set, h4]⟩
theorem its_set (L : List Itm) (x : Itm) : ∀ i, ((its L).set (i * 2) ((.string (Str (x).1)))).set (i * 2 + 1) (.int .i64 (x).2) = its (L.set i x) := by
  induction L with
  | nil => intro i; simp [its]
  | cons y L ih =>
    intro i
    cases i with
    | zero => rfl
    | succ i =>
      rw [its_cons, List.set_cons_succ, its_cons, ← ih i, show (i + 1) * 2 = i * 2 + 2 by omega]
      rfl
/-- The row of the list that is sorted in place. -/
def RowL (W : World) (base g cap : Nat) (L : List Itm) : Prop := W.ownsRow base 49 2 (.slice (some ⟨g, 0, none⟩) L.length cap) L.length (its L)
theorem RowL.cells {W : World} {base g cap : Nat} {L : List Itm} (h : RowL W base g cap L) {i : Nat} (hi : i < L.length) : W.cell? ⟨g, i * 2, none⟩ = some ((.string (Str ((itm L i)).1))) ∧ W.cell? ⟨g, i * 2 + 1, none⟩ = some (.int .i64 ((itm L i)).2) := by
  obtain ⟨A, c, e, hc, hr⟩ := Rd.own h
  injection e with e1 _ _
  subst e1
  obtain ⟨b, o, e, h1, h2⟩ := rd_itm hr hi
  injection e with e; injection e with e1 e2; subst e1; subst e2
  rw [Nat.zero_add] at h1 h2
  exact ⟨h1, h2⟩
theorem RowL.fro {W : World} {base g cap : Nat} {L : List Itm} (h : RowL W base g cap L) (j : Nat) : W.frozen? ⟨g, j, none⟩ = false := by
  rcases h.2 with ⟨e, _⟩ | ⟨g', cap', cur, e, hb, hh, h1⟩
  · cases e
  · injection e with e1 e2 e3
    injection e1 with e1; injection e1 with e1
    subst e1
    exact frozen_of_row W g j _ _ hh
theorem RowL.lt {W : World} {base g cap : Nat} {L : List Itm} (h : RowL W base g cap L) : g < W.heap.size := own_lt' h g rfl
theorem RowL.mv {W W' : World} {O : Nat → Prop} {base g cap : Nat} {L : List Itm} (h : RowL W base g cap L) (hm : Mv O W W') (hn : ¬ O g) : RowL W' base g cap L := own_mv h hm (fun k hk => by
  have : g = k := by simpa [Value.ownBlock] using hk
  rw [← this]; exact hn)
theorem RowL.put {W : World} {base g cap : Nat} {L : List Itm} (h : RowL W base g cap L) {i : Nat} (hi : i < L.length) (x : Itm) : RowL ((W.setCell ⟨g, i * 2, none⟩ ((.string (Str (x).1)))).setCell ⟨g, i * 2 + 1, none⟩ (.int .i64 (x).2)) base g cap (L.set i x) := by
  unfold RowL at h ⊢
  rw [List.length_set, ← its_set L x i]
  have hl := its_len L
  exact own_set (own_set h (by omega) _) (by rw [List.length_set]; omega) _
theorem mv_swap (W : World) (g i1 i2 i3 i4 : Nat) (v1 v2 v3 v4 : Value) : Mv (fun k => k = g) W ((((W.setCell ⟨g, i1, none⟩ v1).setCell ⟨g, i2, none⟩ v2).setCell ⟨g, i3, none⟩ v3).setCell ⟨g, i4, none⟩ v4).drew := by
  have h1 : ∀ (X : World) (i : Nat) (v : Value), Mv (fun k => k = g) X (X.setCell ⟨g, i, none⟩ v) := fun X i v => Mv.setCell _ _ _ rfl
  have h4 := (((h1 W i1 v1).trans (h1 _ i2 v2) (O := fun k => k = g) (fun _ h => h) (fun _ _ h => h)).trans (h1 _ i3 v3) (O := fun k => k = g) (fun _ h => h) (fun _ _ h => h)).trans (h1 _ i4 v4) (O := fun k => k = g) (fun _ h => h) (fun _ _ h => h)
  exact ⟨h4.os, h4.tape, h4.output, h4.size, h4.block⟩
theorem el_itm (L : List Itm) (i : Nat) : el d0 L i = itm L i := rfl
set_option maxRecDepth 100000 in
set_option maxHeartbeats 800000 in
theorem swr_any (base g cap : Nat) (L : List Itm) (a b n : Nat) (cmp : Value) (hl : L.length ≤ 1000000000) (ha : a + n ≤ L.length) (hb : b + n ≤ L.length) (w : World) (h : RowL w base g cap L) :
    Calls Try.prog 61 #[.slice (some ⟨g, 0, none⟩) L.length cap, .int .i64 (a : Int), .int .i64 (b : Int), .int .i64 (n : Int), cmp] w fun e w' => (∃ v, e = .returned v) ∧ RowL w' base g cap (swr d0 L a b n 0) ∧ Mv (fun k => k = g) w w' := by
  go_enter Try.func61, Try.ntmps61
  go_wp2
  go_loopw [10] (fun i wr => ∃ k : Nat, k ≤ n ∧ i = .int .i64 (k : Int) ∧ ∃ M : List Itm, M.length = L.length ∧ RowL wr base g cap M ∧ Hid (swr d0 M a b n k = swr d0 L a b n 0) ∧ Hid (Mv (fun j => j = g) w wr)) (fun i _ => n - (intOf i).toNat)
  case atStart => exact ⟨0, by omega, rfl, L, rfl, h, hid rfl, hid (Mv.refl _ _)⟩
  case round =>
    obtain ⟨k, hk, rfl, M, hM, hrow, HE, HM⟩ := hrel
    by_cases hlt : k < n
    · obtain ⟨a1, a2⟩ := hrow.cells (i := a + k) (by omega)
      obtain ⟨b1, b2⟩ := hrow.cells (i := b + k) (by omega)
      have f1 := hrow.fro ((a + k) * 2)
      have f2 := hrow.fro ((a + k) * 2 + 1)
      have f3 := hrow.fro ((b + k) * 2)
      have f4 := hrow.fro ((b + k) * 2 + 1)
      obtain ⟨x, hx⟩ : ∃ x, x = itm M (a + k) := ⟨_, rfl⟩
      obtain ⟨y, hy⟩ : ∃ y, y = itm M (b + k) := ⟨_, rfl⟩
      rw [← hx] at a1 a2
      rw [← hy] at b1 b2
      have p1 := hrow.put (i := a + k) (by omega) y
      obtain ⟨c1, c2⟩ := p1.cells (i := b + k) (by simp; omega)
      have e1 := p1.fro ((b + k) * 2)
      have e2 := p1.fro ((b + k) * 2 + 1)
      have P2 := hid (p1.put (i := b + k) (by simp; omega) x)
      have HX := hid hx
      have HY := hid hy
      clear hx hy
      go_wp2
      go_region
      go_wp2
      go_roundw
      case rel =>
        refine ⟨k + 1, by omega, by simp, swp d0 M (a + k) (b + k), by rw [swp_len, hM], ?_, hid ?_, hid ?_⟩
        · rw [show swp d0 M (a + k) (b + k) = (M.set (a + k) y).set (b + k) x by rw [HX.out, HY.out]; rfl]
          exact P2.out
        · rw [← HE.out, swr.eq_1 d0 M a b n k, if_pos hlt]
        · exact HM.out.trans (O := fun j => j = g) (O2 := fun j => j = g) (mv_swap _ _ _ _ _ _ _ _ _ _) (fun _ h => h) (fun _ _ h => h)
      case measure => simp [intOf]; omega
    · obtain rfl : k = n := by omega
      go_wp2
      go_end0
      refine ⟨⟨_, rfl⟩, ?_, HM.out⟩
      rw [← HE.out, swr.eq_1 d0 M a b k k, if_neg (by omega)]
      exact hrow
/-- What the comparing function owes. -/
def CmpOk (cf : Nat) (cmp : Itm → Itm → Int) : Prop := ∀ (x y : Itm) (W : World), Calls Try.prog cf #[.agg #[(.string (Str (x).1)), (.int .i64 (x).2)], .agg #[(.string (Str (y).1)), (.int .i64 (y).2)]] W fun e w' => e = .returned (.int .i64 (cmp x y)) ∧ Below W.heap.size W w'
def ltC (cmp : Itm → Itm → Int) (x y : Itm) : Bool := decide (cmp x y < 0)
theorem CmpOk.at {cf : Nat} {cmp : Itm → Itm → Int} (h : CmpOk cf cmp) (x y : Itm) {w W : World} (hW : Below w.heap.size w W) : Calls Try.prog cf #[.agg #[(.string (Str (x).1)), (.int .i64 (x).2)], .agg #[(.string (Str (y).1)), (.int .i64 (y).2)]] W fun e w' => e = .returned (.int .i64 (cmp x y)) ∧ Below w.heap.size w w' :=
  (h x y W).mono fun e w' ⟨he, hb⟩ => ⟨he, hW.trans (hb.mono hW.size)⟩
theorem RowL.bcells {w W : World} {base g cap : Nat} {L : List Itm} (h : RowL w base g cap L) (hW : Below w.heap.size w W) {i : Nat} (hi : i < L.length) : W.cell? ⟨g, i * 2, none⟩ = some ((.string (Str ((itm L i)).1))) ∧ W.cell? ⟨g, i * 2 + 1, none⟩ = some (.int .i64 ((itm L i)).2) := by
  obtain ⟨h1, h2⟩ := h.cells hi
  exact ⟨(hW.cell (p := ⟨g, i * 2, none⟩) h.lt).trans h1, (hW.cell (p := ⟨g, i * 2 + 1, none⟩) h.lt).trans h2⟩
set_option maxRecDepth 100000 in
set_option maxHeartbeats 1600000 in
theorem insort_any (base g cap : Nat) (L : List Itm) (a b cf : Nat) (cmp : Itm → Itm → Int) (hcf : CmpOk cf cmp) (eg : ∀ args w, (callFunc cf args).run Try.prog w = .ok (.enter cf args) w) (hl : L.length ≤ 1000000000) (ha : a ≤ 1000000000) (hb : b ≤ L.length) (w : World) (h : RowL w base g cap L) :
    Calls Try.prog 55 #[.slice (some ⟨g, 0, none⟩) L.length cap, .int .i64 (a : Int), .int .i64 (b : Int), .func (.func cf) #[] #[]] w fun e w' => (∃ v, e = .returned v) ∧ RowL w' base g cap (insort d0 (ltC cmp) L a b) ∧ Mv (fun k => k = g) w w' := by
  go_enter Try.func55, Try.ntmps55
  go_wp2
  go_loopw [8] (fun i wr => ∃ k : Nat, a + 1 ≤ k ∧ (k ≤ b ∨ k = a + 1) ∧ i = .int .i64 (k : Int) ∧ ∃ M : List Itm, Hid (M.length = L.length) ∧ RowL wr base g cap M ∧ Hid (insS d0 (ltC cmp) M a b k = insort d0 (ltC cmp) L a b) ∧ Hid (Mv (fun j => j = g) w wr)) (fun i _ => b - (intOf i).toNat)
  case atStart => exact ⟨a + 1, by omega, by omega, by simp, L, hid rfl, h, hid rfl, hid (Mv.refl _ _)⟩
  case round =>
    obtain ⟨k, hk1, hk2, rfl, M, HMl, hrow, HE, HM⟩ := hrel
    by_cases hlt : k < b
    · have HLEN : Hid (k < M.length) := hid (by have := HMl.out; omega)
      clear h
      go_wp2
      go_loopw [9] (fun i wr => ∃ j : Nat, a ≤ j ∧ j ≤ k ∧ i = .int .i64 (j : Int) ∧ ∃ N : List Itm, Hid (N.length = L.length) ∧ RowL wr base g cap N ∧ Hid (ins1 d0 (ltC cmp) N a j = ins1 d0 (ltC cmp) M a k) ∧ Hid (Mv (fun j => j = g) w wr)) (fun i _ => (intOf i).toNat)
      case atStart => exact ⟨k, by omega, by omega, rfl, M, HMl, hrow, hid rfl, HM⟩
      case round =>
        clear hrow HM
        obtain ⟨j, hj1, hj2, rfl, N, HNl, hrown, HEN, HMN⟩ := hrel
        by_cases haj : a < j
        · obtain ⟨j', rfl⟩ : ∃ j', j = j' + 1 := ⟨j - 1, by omega⟩
          have HL1 : Hid (j' + 1 < N.length) := hid (by have := HNl.out; have := HMl.out; have := HLEN.out; omega)
          have hL2 : j' + 1 < L.length := by have := HNl.out; have := HL1.out; omega
          have hL3 : j' < L.length := by omega
          have hwj : IntKind.i64.wrap (j' : Int) = (j' : Int) := by rw [IntKind.wrap_i64]; omega
          obtain ⟨x, hx⟩ : ∃ x, x = itm N (j' + 1) := ⟨_, rfl⟩
          obtain ⟨y, hy⟩ : ∃ y, y = itm N j' := ⟨_, rfl⟩
          have hc1 := fun W (hW : Below wr.heap.size wr W) => hrown.bcells hW HL1.out
          have hc2 := fun W (hW : Below wr.heap.size wr W) => hrown.bcells hW (i := j') (Nat.lt_of_succ_lt HL1.out)
          rw [← hx] at hc1
          rw [← hy] at hc2
          have hcm := fun W (hW : Below wr.heap.size wr W) => hcf.at x y hW
          obtain ⟨r, hr⟩ : ∃ r, r = cmp x y := ⟨_, rfl⟩
          rw [← hr] at hcm
          have g1 : decide ((a : Int) < (j' : Int) + 1) = true := decide_eq_true (by omega)
          have HX := hid hx
          have HY := hid hy
          have HR := hid hr
          have hswp : Hid (swp d0 N (j' + 1) j' = (N.set (j' + 1) y).set j' x) := hid (by rw [hx, hy]; rfl)
          clear hx hy hr
          go_wp2
          refine wp_region_mild wr.heap.size (by kernel_rfl) (by kernel_rfl) ?_
          repeat (
            refine wpQuiet_step (fun K hK => ?_)
            first
              | (refine mild_skip (by rfl) (hK _ ?_)
                 clear hK K)
              | (refine mild_read (by rfl) ?_
                 apply Exists.intro
                 refine ⟨fun W hW => ?_, hK _ ?_⟩
                 (go_simp; first | rfl | (rw [if_neg (by omega)]) | (rw [if_pos (by omega)]))
                 clear hK K)
              | (refine mild_call (by rfl) ?_
                 apply Exists.intro
                 apply Exists.intro
                 refine ⟨fun W hW => ?_, ?_⟩
                 (go_simp; exact ⟨rfl, rfl⟩)
                 apply Exists.intro
                 refine ⟨fun W hW => ?_, hK _ ?_⟩
                 (with_reducible exact (hcm W hW))
                 clear hK K)
            go_simp)
          refine wpQuiet_nil ?_
          intro W2 hW2
          have hr2 := hrown.mv (Mv.of_below (O := fun _ => False) hW2) (fun h => h)
          have HM2 := hid (HMN.out.trans (Mv.of_below (O := fun j => j = g) hW2) (O := fun j => j = g) (fun _ h => h) (fun _ _ h => h))
          clear hc1 hc2 hcm hrown hW2 HMN
          by_cases hlt0 : r < 0
          · have g2 : decide (r < (0 : Int)) = true := decide_eq_true hlt0
            have HE2 : Hid (ins1 d0 (ltC cmp) (swp d0 N (j' + 1) j') a j' = ins1 d0 (ltC cmp) M a k) := hid (by
              rw [← HEN.out, ins1.eq_1 d0 (ltC cmp) N a (j' + 1), if_pos haj, if_pos (by
                unfold ltC
                rw [el_itm, el_itm, Nat.add_sub_cancel, ← HX.out, ← HY.out, ← HR.out, g2])]
              rfl)
            obtain ⟨a1, a2⟩ := hr2.cells HL1.out
            obtain ⟨b1, b2⟩ := hr2.cells (Nat.lt_of_succ_lt HL1.out)
            rw [← HX.out] at a1 a2
            rw [← HY.out] at b1 b2
            have f1 := hr2.fro ((j' + 1) * 2)
            have f2 := hr2.fro ((j' + 1) * 2 + 1)
            have f3 := hr2.fro (j' * 2)
            have f4 := hr2.fro (j' * 2 + 1)
            have p1 := hr2.put HL1.out y
            obtain ⟨c1, c2⟩ := p1.cells (i := j') (by rw [List.length_set]; exact Nat.lt_of_succ_lt HL1.out)
            have e1 := p1.fro (j' * 2)
            have e2 := p1.fro (j' * 2 + 1)
            have P2 := hid (p1.put (i := j') (by rw [List.length_set]; exact Nat.lt_of_succ_lt HL1.out) x)
            clear p1 HEN
            go_wp2
            go_region
            go_wp2
            go_roundw
            case rel =>
              refine ⟨j', by omega, by omega, by simp, swp d0 N (j' + 1) j', hid (by rw [swp_len]; exact HNl.out), ?_, HE2, hid ?_⟩
              · rw [hswp.out]
                exact P2.out
              · exact HM2.out.trans (O := fun j => j = g) (O2 := fun j => j = g) (mv_swap _ _ _ _ _ _ _ _ _ _) (fun _ h => h) (fun _ _ h => h)
            case measure => simp [intOf]
          · have g2 : decide (r < (0 : Int)) = false := decide_eq_false hlt0
            have HE2 : Hid (N = ins1 d0 (ltC cmp) M a k) := hid (by
              rw [← HEN.out, ins1.eq_1 d0 (ltC cmp) N a (j' + 1), if_pos haj, if_neg (by
                unfold ltC
                rw [el_itm, el_itm, Nat.add_sub_cancel, ← HX.out, ← HY.out, ← HR.out, g2]
                decide)])
            have hge0 : 0 ≤ r := by omega
            clear HEN
            go_wp2
            go_roundw
            case rel =>
              refine ⟨k + 1, by omega, by omega, by simp, N, HNl, hr2, hid ?_, HM2⟩
              rw [← HE.out, insS.eq_1 d0 (ltC cmp) M a b k, if_pos hlt, HE2.out]
            case measure => simp [intOf]; omega
        · have hja : j = a := by omega
          subst hja
          have g1 : decide ((j : Int) < (j : Int)) = false := decide_eq_false (by omega)
          have HE2 : Hid (N = ins1 d0 (ltC cmp) M j k) := hid (by
            rw [← HEN.out, ins1.eq_1 d0 (ltC cmp) N j j, if_neg (by omega)])
          go_wp2
          go_quiet (fail)
          go_wp2
          go_roundw
          case rel =>
            refine ⟨k + 1, by omega, by omega, by simp, N, HNl, hrown, hid ?_, hid ?_⟩
            · rw [← HE.out, insS.eq_1 d0 (ltC cmp) M j b k, if_pos hlt, HE2.out]
            · exact HMN.out.trans (Mv.drewN _ _) (O := fun j => j = g) (O2 := fun _ => False) (fun _ h => h) (fun _ _ h => h.elim)
          case measure => simp [intOf]; omega
    · go_wp2
      go_end0
      refine ⟨⟨_, rfl⟩, ?_, HM.out⟩
      rw [← HE.out, insS.eq_1 d0 (ltC cmp) M a b k, if_neg (by omega)]
      exact hrow
end Go.Proofs.Ytiemcfkekaklgaa.StabI
