/- The standard library's stable sort of pairs of a text and a number: the merge in place. -/
import Derived.Test.YtiemcfkekaklgaaStabI
set_option linter.unusedVariables false
set_option linter.unusedSimpArgs false
namespace Go.Proofs.Ytiemcfkekaklgaa.StabI
open Go.RowKit Go.Shelf Go.Proofs.Ytiemcfkekaklgaa.Lib Go.Proofs.Ytiemcfkekaklgaa.Prs Go.Proofs.Ytiemcfkekaklgaa.Run Go.Proofs.Ytiemcfkekaklgaa.Stab Go.Proofs.Ytiemcfkekaklgaa.QTail
set_option maxRecDepth 100000 in
set_option maxHeartbeats 1600000 in
theorem sym_one (base g cap : Nat) (L : List Itm) (a m b cf : Nat) (cmp : Itm → Itm → Int) (hcf : CmpOk cf cmp) (eg : ∀ args w, (callFunc cf args).run Try.prog w = .ok (.enter cf args) w) (hl : L.length ≤ 1000000000) (ha : a < m) (hm : m < b) (hb : b ≤ L.length) (h1 : m - a = 1) (w : World) (h : RowL w base g cap L) :
    Calls Try.prog 56 #[.slice (some ⟨g, 0, none⟩) L.length cap, .int .i64 (a : Int), .int .i64 (m : Int), .int .i64 (b : Int), .func (.func cf) #[] #[]] w fun e w' => (∃ v, e = .returned v) ∧ RowL w' base g cap (sym d0 (ltC cmp) L a m b) ∧ Mv (fun k => k = g) w w' := by
  have g0 : ((m : Int) - (a : Int) == (1 : Int)) = true := beq_iff_eq.2 (by omega)
  have hm1 : m = a + 1 := by omega
  have HM1 := hid hm1
  have ham : a + 1 ≤ m := by omega
  go_enter Try.func56, Try.ntmps56
  obtain ⟨x, hx⟩ : ∃ x, x = itm L a := ⟨_, rfl⟩
  have HX := hid hx
  clear hx h1 hm1
  go_wp2
  go_loopw [10, 11] (fun i j wr => ∃ i' j' : Nat, m ≤ i' ∧ i' ≤ j' ∧ j' ≤ b ∧ i = .int .i64 (i' : Int) ∧ j = .int .i64 (j' : Int) ∧ RowL wr base g cap L ∧ Hid (bsearch (symP1 d0 (ltC cmp) L a) i' j' = bsearch (symP1 d0 (ltC cmp) L a) m b) ∧ Hid (Mv (fun j => j = g) w wr)) (fun i j _ => (intOf j).toNat - (intOf i).toNat)
  case atStart => exact ⟨m, b, by omega, by omega, by omega, rfl, rfl, h, hid rfl, hid (Mv.refl _ _)⟩
  case round =>
    obtain ⟨i, j, hi, hij, hjb, rfl, rfl, hrow, HE, HM⟩ := hrel
    by_cases hlt : i < j
    · obtain ⟨h, hh⟩ : ∃ h, h = (i + j) / 2 := ⟨_, rfl⟩
      have hI : ((i : Int) + (j : Int)) / 2 = (h : Int) := by omega
      have hh1 : i ≤ h := by omega
      have hh2 : h < j := by omega
      have hL1 : h < L.length := by omega
      have hL2 : a < L.length := by omega
      obtain ⟨y, hy⟩ : ∃ y, y = itm L h := ⟨_, rfl⟩
      have hc1 := fun W (hW : Below wr.heap.size wr W) => hrow.bcells hW hL1
      have hc2 := fun W (hW : Below wr.heap.size wr W) => hrow.bcells hW hL2
      rw [← hy] at hc1
      rw [← HX.out] at hc2
      have hcm := fun W (hW : Below wr.heap.size wr W) => hcf.at y x hW
      obtain ⟨r, hr⟩ : ∃ r, r = cmp y x := ⟨_, rfl⟩
      rw [← hr] at hcm
      have hP : Hid (symP1 d0 (ltC cmp) L a h = decide (r < 0)) := hid (by unfold symP1 ltC; rw [el_itm, el_itm, ← hy, ← HX.out, ← hr])
      have HST := hid (bsearch.eq_1 (symP1 d0 (ltC cmp) L a) i j)
      rw [if_pos hlt, ← hh] at HST
      have HH := hid hh
      have HMH := hid hI
      clear hy hr hh
      go_wp2
      refine wp_region_mild wr.heap.size (by kernel_rfl) (by kernel_rfl) ?_
      repeat (
        refine wpQuiet_step (fun K hK => ?_)
        first
          | (refine mild_skip (by rfl) (hK _ ?_)
             clear hK K)
          | (refine mild_read (by rfl) ?_
             apply Exists.intro
             refine ⟨fun W hW => ?_, hK _ ?_⟩
             (go_simp; first | rfl | (rw [if_neg (by omega)]) | (rw [if_pos (by omega)]))
             clear hK K)
          | (refine mild_call (by rfl) ?_
             apply Exists.intro
             apply Exists.intro
             refine ⟨fun W hW => ?_, ?_⟩
             (go_simp; exact ⟨rfl, rfl⟩)
             apply Exists.intro
             refine ⟨fun W hW => ?_, hK _ ?_⟩
             (with_reducible exact (hcm W hW))
             clear hK K)
        go_simp)
      refine wpQuiet_nil ?_
      intro W2 hW2
      have hr2 := hrow.mv (Mv.of_below (O := fun _ => False) hW2) (fun h => h)
      have HM2 := hid (HM.out.trans (Mv.of_below (O := fun j => j = g) hW2) (O := fun j => j = g) (fun _ h => h) (fun _ _ h => h))
      clear hc1 hc2 hcm hrow hW2 HM
      by_cases hlt0 : r < 0
      · rw [hP.out, if_pos (decide_eq_true hlt0)] at HST
        go_wp2
        go_roundw
        case rel => exact ⟨h + 1, j, by omega, by omega, by omega, by simp, rfl, hr2, hid (HST.out.symm.trans HE.out), HM2⟩
        case measure => simp [intOf]; omega
      · rw [hP.out, if_neg (by simpa using hlt0)] at HST
        have hge0 : 0 ≤ r := by omega
        go_wp2
        go_roundw
        case rel => exact ⟨i, h, by omega, by omega, by omega, rfl, rfl, hr2, hid (HST.out.symm.trans HE.out), HM2⟩
        case measure => simp [intOf]; omega
    · obtain rfl : i = j := by omega
      have HST : Hid (i = bsearch (symP1 d0 (ltC cmp) L a) m b) := hid (by rw [← HE.out, bsearch.eq_1, if_neg (by omega)])
      have HSY : Hid (sym d0 (ltC cmp) L a m b = mvR d0 L a (i - 1)) := hid (by rw [sym.eq_1, if_pos (by have := HM1.out; omega), ← HST.out])
      obtain ⟨e, rfl⟩ : ∃ e, i = e + 1 := ⟨i - 1, by omega⟩
      clear HE h
      go_wp2
      go_loopw [13] (fun k wr => ∃ k' : Nat, a ≤ k' ∧ k' ≤ e ∧ k = .int .i64 (k' : Int) ∧ ∃ M : List Itm, Hid (M.length = L.length) ∧ RowL wr base g cap M ∧ Hid (mvR d0 M k' e = mvR d0 L a e) ∧ Hid (Mv (fun j => j = g) w wr)) (fun k _ => e - (intOf k).toNat)
      case atStart => exact ⟨a, by omega, by omega, rfl, L, hid rfl, hrow, hid rfl, HM⟩
      case round =>
        clear hrow HM
        obtain ⟨k, hk1, hk2, rfl, M, HMl, hrow, HE, HM⟩ := hrel
        by_cases hlt : k < e
        · have hM := HMl.out
          have hL1 : k + 1 < L.length := by omega
          have hL2 : k < L.length := by omega
          obtain ⟨a1, a2⟩ := hrow.cells (i := k) (by omega)
          obtain ⟨b1, b2⟩ := hrow.cells (i := k + 1) (by omega)
          obtain ⟨y, hy⟩ : ∃ y, y = itm M k := ⟨_, rfl⟩
          obtain ⟨z, hz⟩ : ∃ z, z = itm M (k + 1) := ⟨_, rfl⟩
          have hswp : Hid (swp d0 M k (k + 1) = (M.set k z).set (k + 1) y) := hid (by rw [hy, hz]; rfl)
          rw [← hy] at a1 a2
          rw [← hz] at b1 b2
          have f1 := hrow.fro (k * 2)
          have f2 := hrow.fro (k * 2 + 1)
          have f3 := hrow.fro ((k + 1) * 2)
          have f4 := hrow.fro ((k + 1) * 2 + 1)
          have p1 := hrow.put (i := k) (by omega) z
          obtain ⟨c1, c2⟩ := p1.cells (i := k + 1) (by rw [List.length_set]; omega)
          have e1 := p1.fro ((k + 1) * 2)
          have e2 := p1.fro ((k + 1) * 2 + 1)
          have P2 := hid (p1.put (i := k + 1) (by rw [List.length_set]; omega) y)
          clear hy hz p1 hM hrow
          go_wp2
          go_region
          go_wp2
          go_roundw
          case rel =>
            refine ⟨k + 1, by omega, by omega, by simp, swp d0 M k (k + 1), hid (by rw [swp_len]; exact HMl.out), ?_, hid ?_, hid ?_⟩
            · rw [hswp.out]; exact P2.out
            · rw [← HE.out, mvR.eq_1 d0 M k e, if_pos hlt]
            · exact HM.out.trans (O := fun j => j = g) (O2 := fun j => j = g) (mv_swap _ _ _ _ _ _ _ _ _ _) (fun _ h => h) (fun _ _ h => h)
          case measure => simp [intOf]; omega
        · go_wp2
          refine bodyPost_ret (results_none rfl _ _ _) rfl ?_
          refine ⟨⟨_, rfl⟩, ?_, HM.out⟩
          rw [HSY.out, Nat.add_sub_cancel, ← HE.out, mvR.eq_1 d0 M k e, if_neg hlt]
          exact hrow
end Go.Proofs.Ytiemcfkekaklgaa.StabI
