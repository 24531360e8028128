/- The standard library's stable sort of pairs of a text and a number: rotations. -/
import Derived.Test.YtiemcfkekaklgaaStabI
set_option linter.unusedVariables false
set_option linter.unusedSimpArgs false
namespace Go.Proofs.Ytiemcfkekaklgaa.StabI
open Go.RowKit Go.Shelf Go.Proofs.Ytiemcfkekaklgaa.Lib Go.Proofs.Ytiemcfkekaklgaa.Prs Go.Proofs.Ytiemcfkekaklgaa.Run Go.Proofs.Ytiemcfkekaklgaa.Stab Go.Proofs.Ytiemcfkekaklgaa.QTail
set_option maxRecDepth 100000 in
set_option maxHeartbeats 1600000 in
theorem rot_any (base g cap : Nat) (L : List Itm) (a m b : Nat) (cmp : Value) (hl : L.length ≤ 1000000000) (ha : a < m) (hm : m < b) (hb : b ≤ L.length) (w : World) (h : RowL w base g cap L) :
    Calls Try.prog 59 #[.slice (some ⟨g, 0, none⟩) L.length cap, .int .i64 (a : Int), .int .i64 (m : Int), .int .i64 (b : Int), cmp] w fun e w' => (∃ v, e = .returned v) ∧ RowL w' base g cap (rot d0 L a m b) ∧ Mv (fun k => k = g) w w' := by
  go_enter Try.func59, Try.ntmps59
  have e1 : (m : Int) - (a : Int) = ((m - a : Nat) : Int) := by omega
  have e2 : (b : Int) - (m : Int) = ((b - m : Nat) : Int) := by omega
  go_wp2
  go_loopw [10, 11] (fun i j wr => ∃ i' j' : Nat, 1 ≤ i' ∧ 1 ≤ j' ∧ i' ≤ m ∧ m + j' ≤ L.length ∧ i = .int .i64 (i' : Int) ∧ j = .int .i64 (j' : Int) ∧ ∃ M : List Itm, Hid (M.length = L.length) ∧ RowL wr base g cap M ∧ Hid (rotL d0 M m i' j' = rot d0 L a m b) ∧ Hid (Mv (fun j => j = g) w wr)) (fun i j _ => (intOf j).toNat + (intOf i).toNat)
  case atStart => exact ⟨m - a, b - m, by omega, by omega, by omega, by omega, rfl, rfl, L, hid rfl, h, hid rfl, hid (Mv.refl _ _)⟩
  case round =>
    obtain ⟨i, j, hi, hj, him, hmj, rfl, rfl, M, HMl, hrow, HE, HM⟩ := hrel
    have hs := fun (p q n : Nat) (hp : p + n ≤ L.length) (hq : q + n ≤ L.length) => (HMl.out ▸ swr_any base g cap M p q n cmp (by rw [HMl.out]; exact hl) (by rw [HMl.out]; exact hp) (by rw [HMl.out]; exact hq) wr hrow : Calls Try.prog 61 #[.slice (some ⟨g, 0, none⟩) L.length cap, .int .i64 (p : Int), .int .i64 (q : Int), .int .i64 (n : Int), cmp] wr fun e w' => (∃ v, e = .returned v) ∧ RowL w' base g cap (swr d0 M p q n 0) ∧ Mv (fun k => k = g) wr w')
    have e3 : (m : Int) - (i : Int) = ((m - i : Nat) : Int) := by omega
    by_cases hne : i = j
    · subst hne
      have hsw := hs (m - i) m i (by omega) (by omega)
      have HSW := hid hsw
      have HRO : Hid (rotL d0 M m i i = swr d0 M (m - i) m i 0) := hid (by rw [rotL.eq_1, if_pos (by omega)])
      clear hs hsw e1 e2
      go_wp2_with fail
      refine HSW.out.mono ?_; rintro e w1 ⟨⟨v, rfl⟩, hr1, hm1⟩
      go_wp2
      go_end0
      refine ⟨⟨_, rfl⟩, by rw [← HE.out, HRO.out]; exact hr1, HM.out.trans hm1 (fun _ h => h) (fun _ _ h => h)⟩
    · have q1 : ((i : Int) == (j : Int)) = false := beq_eq_false_iff_ne.2 (by omega)
      have q2 : ((i : Int) != (j : Int)) = true := by simp [bne, q1]
      by_cases hij : j < i
      · have hsw := hs (m - i) m j (by omega) (by omega)
        have HSW := hid hsw
        have HRO : Hid (rotL d0 M m i j = rotL d0 (swr d0 M (m - i) m j 0) m (i - j) j) := hid (by rw [rotL.eq_1, if_neg (by omega), if_pos hij])
        have e4 : (i : Int) - (j : Int) = ((i - j : Nat) : Int) := by omega
        clear hs hsw e1 e2
        go_wp2_with fail
        refine HSW.out.mono ?_; rintro e w1 ⟨⟨v, rfl⟩, hr1, hm1⟩
        have HR1 := hid hr1
        have HM1 := hid hm1
        clear hr1 hm1
        go_wp2
        go_roundw
        case rel => exact ⟨i - j, j, by omega, by omega, by omega, by omega, rfl, rfl, _, hid (by rw [swr_len d0 _ _ _ _ _ _ rfl]; exact HMl.out), HR1.out, hid (by rw [← HE.out, HRO.out]), hid (HM.out.trans HM1.out (fun _ h => h) (fun _ _ h => h))⟩
        case measure => simp [intOf]; omega
      · have hsw := hs (m - i) (m + j - i) i (by omega) (by omega)
        have HSW := hid hsw
        have HRO : Hid (rotL d0 M m i j = rotL d0 (swr d0 M (m - i) (m + j - i) i 0) m i (j - i)) := hid (by rw [rotL.eq_1, if_neg (by omega), if_neg hij])
        have e4 : (j : Int) - (i : Int) = ((j - i : Nat) : Int) := by omega
        have e5 : (m : Int) + (j : Int) - (i : Int) = ((m + j - i : Nat) : Int) := by omega
        have hji : i < j := by omega
        clear hs hsw e1 e2
        go_wp2_with fail
        refine HSW.out.mono ?_; rintro e w1 ⟨⟨v, rfl⟩, hr1, hm1⟩
        have HR1 := hid hr1
        have HM1 := hid hm1
        clear hr1 hm1
        go_wp2
        go_roundw
        case rel => exact ⟨i, j - i, by omega, by omega, by omega, by omega, rfl, rfl, _, hid (by rw [swr_len d0 _ _ _ _ _ _ rfl]; exact HMl.out), HR1.out, hid (by rw [← HE.out, HRO.out]), hid (HM.out.trans HM1.out (fun _ h => h) (fun _ _ h => h))⟩
        case measure => simp [intOf]; omega
end Go.Proofs.Ytiemcfkekaklgaa.StabI
