/- The standard library's stable sort of pairs of a text and a number: the whole. -/
import Derived.Test.YtiemcfkekaklgaaSymdI
set_option linter.unusedVariables false
set_option linter.unusedSimpArgs false
namespace Go.Proofs.Ytiemcfkekaklgaa.StabI
open Go.RowKit Go.Shelf Go.Proofs.Ytiemcfkekaklgaa.Lib Go.Proofs.Ytiemcfkekaklgaa.Prs Go.Proofs.Ytiemcfkekaklgaa.Run Go.Proofs.Ytiemcfkekaklgaa.Stab Go.Proofs.Ytiemcfkekaklgaa.QTail
set_option maxRecDepth 100000 in
set_option maxHeartbeats 3200000 in
theorem stable_any (base g cap cf : Nat) (cmp : Itm → Itm → Int) (hcf : CmpOk cf cmp) (eg : ∀ args w, (callFunc cf args).run Try.prog w = .ok (.enter cf args) w) (L : List Itm) (hl : L.length ≤ 1000000000) (w : World) (h : RowL w base g cap L) :
    Calls Try.prog 51 #[.slice (some ⟨g, 0, none⟩) L.length cap, .int .i64 (L.length : Int), .func (.func cf) #[] #[]] w fun e w' => (∃ v, e = .returned v) ∧ RowL w' base g cap (stable d0 (ltC cmp) L) ∧ Mv (fun k => k = g) w w' := by
  obtain ⟨n, hn⟩ : ∃ n, n = L.length := ⟨_, rfl⟩
  have hins : ∀ (a b : Nat), a ≤ 1000000000 → b ≤ n → ∀ (M : List Itm), M.length = L.length → ∀ w, RowL w base g cap M → Calls Try.prog 55 #[.slice (some ⟨g, 0, none⟩) n cap, .int .i64 (a : Int), .int .i64 (b : Int), .func (.func cf) #[] #[]] w fun e w' => (∃ v, e = .returned v) ∧ RowL w' base g cap (insort d0 (ltC cmp) M a b) ∧ Mv (fun k => k = g) w w' :=
    fun a b g1 g2 M hM w hw => hn ▸ hM ▸ insort_any base g cap M a b cf cmp hcf eg (by rw [hM]; exact hl) g1 (by rw [hM, ← hn]; exact g2) w hw
  have hsym : ∀ (a m b : Nat), a < m → m < b → b ≤ n → ∀ (M : List Itm), M.length = L.length → ∀ w, RowL w base g cap M → Calls Try.prog 56 #[.slice (some ⟨g, 0, none⟩) n cap, .int .i64 (a : Int), .int .i64 (m : Int), .int .i64 (b : Int), .func (.func cf) #[] #[]] w fun e w' => (∃ v, e = .returned v) ∧ RowL w' base g cap (sym d0 (ltC cmp) M a m b) ∧ Mv (fun k => k = g) w w' :=
    fun a m b g1 g2 g3 M hM w hw => hn ▸ hM ▸ sym_any base g cap cf cmp hcf eg _ M a m b (Nat.le_refl _) (by rw [hM]; exact hl) g1 g2 (by rw [hM, ← hn]; exact g3) w hw
  have HINS := hid hins
  have HSYM := hid hsym
  have hln : n ≤ 1000000000 := by omega
  have HDEF : Hid (stable d0 (ltC cmp) L = merges d0 (ltC cmp) (blocks d0 (ltC cmp) L n 0 20) n 20) := hid (by unfold stable; rw [hn])
  rw [← hn]
  have HN := hid hn
  clear hins hsym hl hn
  go_enter Try.func51, Try.ntmps51
  go_wp2
  go_loopw [7, 8] (fun i j wr => ∃ a b : Nat, Hid (b = a + 20) ∧ a ≤ n ∧ b ≤ 1000000020 ∧ i = .int .i64 (a : Int) ∧ j = .int .i64 (b : Int) ∧ ∃ M : List Itm, Hid (M.length = L.length) ∧ RowL wr base g cap M ∧ Hid (blocks d0 (ltC cmp) M n a b = blocks d0 (ltC cmp) L n 0 20) ∧ Hid (Mv (fun j => j = g) w wr)) (fun i _ _ => n - (intOf i).toNat)
  case atStart => exact ⟨0, 20, hid rfl, Nat.zero_le _, by omega, rfl, rfl, L, hid rfl, h, hid rfl, hid (Mv.refl _ _)⟩
  case round =>
    clear h
    obtain ⟨a, b, HAB0, han, hb20, rfl, rfl, M, HMl, hrow, HE, HM⟩ := hrel
    by_cases hbn : b ≤ n
    · have q1 : decide ((b : Int) ≤ (n : Int)) = true := decide_eq_true (by omega)
      have HRO := hid (HINS.out a b (by omega) hbn M HMl.out wr hrow)
      have HST : Hid (blocks d0 (ltC cmp) M n a b = blocks d0 (ltC cmp) (insort d0 (ltC cmp) M a b) n b (b + 20)) := hid (by rw [blocks.eq_1, if_pos hbn])
      go_wp2_with fail
      refine HRO.out.mono ?_; rintro e w1 ⟨⟨v, rfl⟩, hr1, hm1⟩
      have HR1 := hid hr1
      have HM1 := hid hm1
      clear hr1 hm1
      go_wp2
      go_roundw
      case rel => exact ⟨b, b + 20, hid rfl, hbn, by omega, rfl, by simp, _, hid (by rw [insort_len]; exact HMl.out), HR1.out, hid (by rw [← HST.out, HE.out]), hid (HM.out.trans HM1.out (fun _ h => h) (fun _ _ h => h))⟩
      case measure => simp [intOf]; have := HAB0.out; omega
    · have q1 : decide ((b : Int) ≤ (n : Int)) = false := decide_eq_false (by omega)
      have HRO := hid (HINS.out a n (by omega) (Nat.le_refl _) M HMl.out wr hrow)
      have HBL : Hid (insort d0 (ltC cmp) M a n = blocks d0 (ltC cmp) L n 0 20) := hid (by rw [← HE.out, blocks.eq_1 _ _ _ _ _ b, if_neg hbn])
      go_wp2_with fail
      refine HRO.out.mono ?_; rintro e w1 ⟨⟨v, rfl⟩, hr1, hm1⟩
      have HR1 := hid hr1
      have HM1 := hid (HM.out.trans hm1 (O := fun k => k = g) (fun _ h => h) (fun _ _ h => h))
      clear hr1 hm1 HRO HE HM hrow
      go_wp2
      go_loopw [6] (fun i wr => ∃ k : Nat, 1 ≤ k ∧ k ≤ 4000000000 ∧ i = .int .i64 (k : Int) ∧ ∃ M : List Itm, Hid (M.length = L.length) ∧ RowL wr base g cap M ∧ Hid (merges d0 (ltC cmp) M n k = stable d0 (ltC cmp) L) ∧ Hid (Mv (fun j => j = g) w wr)) (fun i _ => n - (intOf i).toNat)
      case atStart => exact ⟨20, by omega, by omega, rfl, _, hid (by rw [insort_len]; exact HMl.out), HR1.out, hid (by rw [HBL.out, HDEF.out]), HM1⟩
      case round =>
        clear HR1 HM1 HBL HMl
        obtain ⟨k, hk1, hk2, rfl, M1, HMl, hrow, HE, HM⟩ := hrel
        by_cases hkn : k < n
        · have HST : Hid (merges d0 (ltC cmp) M1 n k = merges d0 (ltC cmp) (pass d0 (ltC cmp) M1 n k 0 (2 * k)) n (2 * k)) := hid (by rw [merges.eq_1, if_pos ⟨by omega, hkn⟩])
          have hI : (2 : Int) * (k : Int) = ((2 * k : Nat) : Int) := by omega
          have hI' : (k : Int) * (2 : Int) = ((2 * k : Nat) : Int) := by omega
          obtain ⟨k2, hk2d⟩ : ∃ k2, k2 = 2 * k := ⟨_, rfl⟩
          rw [← hk2d] at HST hI hI'
          have HK2 := hid hk2d
          have hk2b : k2 ≤ 2000000000 := by omega
          clear hk2d
          go_wp2
          go_loopw [7, 8] (fun i j wr => ∃ a b : Nat, Hid (b = a + 2 * k) ∧ a ≤ n ∧ b ≤ 4000000000 ∧ i = .int .i64 (a : Int) ∧ j = .int .i64 (b : Int) ∧ ∃ M : List Itm, Hid (M.length = L.length) ∧ RowL wr base g cap M ∧ Hid (pass d0 (ltC cmp) M n k a b = pass d0 (ltC cmp) M1 n k 0 (2 * k)) ∧ Hid (Mv (fun j => j = g) w wr)) (fun i _ _ => n - (intOf i).toNat)
          case atStart => exact ⟨0, k2, hid (by have := HK2.out; omega), Nat.zero_le _, by omega, rfl, rfl, M1, HMl, hrow, hid (by rw [HK2.out]), HM⟩
          case round =>
            clear hrow HM HMl
            obtain ⟨a1, b1, HAB, han1, hb1, rfl, rfl, M2, HMl, hrow, HE2, HM⟩ := hrel
            by_cases hbn1 : b1 ≤ n
            · have q3 : decide ((b1 : Int) ≤ (n : Int)) = true := decide_eq_true (by omega)
              have HRO := hid (HSYM.out a1 (a1 + k) b1 (by omega) (by have := HAB.out; omega) hbn1 M2 HMl.out wr hrow)
              have HST2 : Hid (pass d0 (ltC cmp) M2 n k a1 b1 = pass d0 (ltC cmp) (sym d0 (ltC cmp) M2 a1 (a1 + k) b1) n k b1 (b1 + 2 * k)) := hid (by rw [pass.eq_1, if_pos ⟨by omega, hbn1⟩])
              have hI3 : (a1 : Int) + (k : Int) = ((a1 + k : Nat) : Int) := by omega
              obtain ⟨m1, hm1d⟩ : ∃ m1, m1 = a1 + k := ⟨_, rfl⟩
              rw [← hm1d] at HRO HST2 hI3
              clear hm1d
              go_wp2_with fail
              refine HRO.out.mono ?_; rintro e w1 ⟨⟨v, rfl⟩, hr1, hm1⟩
              have HR1 := hid hr1
              have HM1 := hid hm1
              clear hr1 hm1
              go_wp2
              go_roundw
              case rel => exact ⟨b1, b1 + k2, hid (by have := HK2.out; omega), hbn1, by omega, rfl, by simp, _, hid (by rw [sym_len d0 _ _ _ _ _ _ (Nat.le_refl _)]; exact HMl.out), HR1.out, hid (by rw [← HE2.out, HST2.out, HK2.out]), hid (HM.out.trans HM1.out (fun _ h => h) (fun _ _ h => h))⟩
              case measure => simp [intOf]; have := HAB.out; omega
            · have q3 : decide ((b1 : Int) ≤ (n : Int)) = false := decide_eq_false (by omega)
              have hI3 : (a1 : Int) + (k : Int) = ((a1 + k : Nat) : Int) := by omega
              by_cases hc : a1 + k < n
              · have HRO := hid (HSYM.out a1 (a1 + k) n (by omega) hc (Nat.le_refl _) M2 HMl.out wr hrow)
                have HST2 : Hid (pass d0 (ltC cmp) M2 n k a1 b1 = sym d0 (ltC cmp) M2 a1 (a1 + k) n) := hid (by rw [pass.eq_1, if_neg (fun h => hbn1 h.2), if_pos hc])
                obtain ⟨m1, hm1d⟩ : ∃ m1, m1 = a1 + k := ⟨_, rfl⟩
                rw [← hm1d] at HRO HST2 hI3 hc
                clear hm1d
                go_wp2_with fail
                refine HRO.out.mono ?_; rintro e w1 ⟨⟨v, rfl⟩, hr1, hm1⟩
                have HR1 := hid hr1
                have HM1 := hid hm1
                clear hr1 hm1
                go_wp2
                go_roundw
                case rel => exact ⟨k2, by have := HK2.out; omega, by omega, rfl, _, hid (by rw [sym_len d0 _ _ _ _ _ _ (Nat.le_refl _)]; exact HMl.out), HR1.out, hid (by rw [← HE.out, HST.out, ← HST2.out, HE2.out, HK2.out]), hid (HM.out.trans HM1.out (fun _ h => h) (fun _ _ h => h))⟩
                case measure => simp [intOf]; have := HK2.out; omega
              · have HST2 : Hid (pass d0 (ltC cmp) M2 n k a1 b1 = M2) := hid (by rw [pass.eq_1, if_neg (fun h => hbn1 h.2), if_neg hc])
                obtain ⟨m1, hm1d⟩ : ∃ m1, m1 = a1 + k := ⟨_, rfl⟩
                rw [← hm1d] at hI3 hc
                clear hm1d
                go_wp2
                go_roundw
                case rel => exact ⟨k2, by have := HK2.out; omega, by omega, rfl, _, HMl, hrow, hid (by rw [← HE.out, HST.out, show pass d0 (ltC cmp) M1 n k 0 k2 = M2 by rw [HK2.out, ← HE2.out, HST2.out]]), HM⟩
                case measure => simp [intOf]; have := HK2.out; omega
        · go_wp2
          go_end0
          refine ⟨⟨_, rfl⟩, ?_, HM.out⟩
          rw [← HE.out, merges.eq_1, if_neg (by omega)]
          exact hrow
end Go.Proofs.Ytiemcfkekaklgaa.StabI
