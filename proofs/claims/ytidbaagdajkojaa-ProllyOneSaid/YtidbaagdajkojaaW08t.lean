/- The walks of layer 8: the document's right pairs. -/
import Derived.Test.YtidbaagdajkojaaW08s
set_option linter.unusedVariables false
set_option linter.unusedSimpArgs false
namespace Go.Proofs.Ytidbaagdajkojaa.W08
open Go.RowKit Go.Proofs.Ytidbaagdajkojaa.Lib Go.Proofs.Ytidbaagdajkojaa.Sha Go.Proofs.Ytidbaagdajkojaa.T07 Go.Proofs.Ytidbaagdajkojaa.T08 Go.Proofs.Ytidbaagdajkojaa.QTail Go.Proofs.Ytidbaagdajkojaa.Bld Go.Proofs.Ytidbaagdajkojaa.Itms Go.Proofs.Ytidbaagdajkojaa.W07 Go.Proofs.Ytidbaagdajkojaa.WSeq
attribute [local go_sem] Str_size Str_toList Str_extract Str_append Str_get bt_nn bt_lt List.length_append take_rest sha_len two_len
theorem lastS_take (l : List Itm) (k : Nat) (h : k < l.length) : lastS (l.take (k + 1)) = (itm l k).1 := by
  rw [take_itm l k h, lastS_snoc]
theorem take_empty (l : List Itm) (k : Nat) (h : k < l.length) : (l.take k).isEmpty = decide (k = 0) := by
  cases k with
  | zero => simp
  | succ k => rw [take_itm l k (by omega), isEmpty_snoc]; simp
theorem right_take (l : List Itm) (k : Nat) (h : k < l.length) : rightS (l.take (k + 1)) = (rightS (l.take k) && (decide (k = 0) || ltS (itm l (k - 1)).1 (itm l k).1) && !badS (itm l k)) := by
  unfold rightS
  rw [take_itm l k h, okS_snoc, take_empty l k h, List.any_append]
  have e : k = 0 ∨ lastS (l.take k) = (itm l (k - 1)).1 := by
    cases k with
    | zero => exact .inl rfl
    | succ k => exact .inr (lastS_take l k (by omega))
  rcases e with rfl | e
  · simp
  · rw [e]
    cases okS (l.take k) <;> cases (l.take k).any badS <;> cases hb : badS (itm l k) <;> cases (decide (k = 0) || ltS (itm l (k - 1)).1 (itm l k).1) <;> simp [hb]
theorem right_prefix (l : List Itm) (k : Nat) (hf : rightS (l.take k) = false) : rightS l = false := by
  unfold rightS at hf ⊢
  rw [Bool.and_eq_false_iff] at hf ⊢
  rcases hf with h | h
  · exact .inl (okS_prefix (List.take_prefix k l) h)
  · refine .inr ?_
    simp only [Bool.not_eq_false'] at h ⊢
    obtain ⟨x, hx, hb⟩ := List.any_eq_true.1 h
    exact List.any_eq_true.2 ⟨x, List.mem_of_mem_take hx, hb⟩
set_option maxRecDepth 100000 in
set_option maxHeartbeats 1600000 in
theorem rright_any (A : Option Addr) (c : Nat) (l : List Itm) (hl : l.length ≤ 1000000) (w : World) (hrd : Rd w A (its l)) :
    Calls Try.prog 27 #[.slice A l.length c] w fun e w' => e = .returned (.bool (rightS l)) ∧ Below w.heap.size w w' := by
  have H0 := hid hrd
  clear hrd
  go_enter Try.func27, Try.ntmps27
  go_wp2
  go_loopw [3] (fun i wr => ∃ k : Nat, k ≤ l.length ∧ i = .int .i64 (k : Int) ∧ Hid (rightS (l.take k) = true) ∧ Below w.heap.size w wr) (fun i _ => l.length - (intOf i).toNat)
  case atStart => exact ⟨0, by omega, rfl, hid rfl, below_rf w⟩
  case round =>
    obtain ⟨k, hk, rfl, HA, hB⟩ := hrel
    by_cases hlt : k < l.length
    · obtain ⟨b, o, rfl, hc1, hc2⟩ := rd_itm (Rd.below H0.out hB) hlt
      have hst := right_take l k hlt
      rw [HA.out, Bool.true_and] at hst
      have hpf := fun h => right_prefix l (k + 1) h
      have hbad : badS (itm l k) = (decide (2000 < (itm l k).1.length) || decide (8000 < (itm l k).2.length)) := rfl
      rw [hbad] at hst
      have hprev : k ≠ 0 → wr.cell? ⟨b, o + (k - 1) * 2, none⟩ = some (.string (Str (itm l (k - 1)).1)) := by
        intro h0
        obtain ⟨b', o', e, h1, _⟩ := rd_itm (Rd.below H0.out hB) (j := k - 1) (by omega)
        injection e with e; injection e with e1 e2; subst e1; subst e2
        exact h1
      obtain ⟨kx, hkx⟩ : ∃ kx, kx = (itm l k).1 := ⟨_, rfl⟩
      obtain ⟨vx, hvx⟩ : ∃ vx, vx = (itm l k).2 := ⟨_, rfl⟩
      obtain ⟨ky, hky⟩ : ∃ ky, ky = (itm l (k - 1)).1 := ⟨_, rfl⟩
      rw [← hkx, ← hvx, ← hky] at hst
      rw [← hkx] at hc1
      rw [← hvx] at hc2
      rw [← hky] at hprev
      have HPF := hid hpf
      have HST := hid hst
      have HPREV := hid hprev
      clear hkx hvx hky hst hpf hprev hbad
      have h2 : (0 : Int) ≤ kx.length := Int.natCast_nonneg _
      by_cases h1 : 2000 < kx.length
      · have h1b : decide ((2000 : Int) < (kx.length : Int)) = true := decide_eq_true (by omega)
        have hf : rightS (l.take (k + 1)) = false := by rw [HST.out, decide_eq_true h1]; simp
        have HF := hid (HPF.out hf)
        clear hf h1
        go_wp2
        go_quiet (fail)
        go_wp2
        go_ret
        exact ⟨by rw [HF.out]; rfl, below_drewN hB _⟩
      · have h1b : decide ((2000 : Int) < (kx.length : Int)) = false := decide_eq_false (by omega)
        by_cases h3 : 8000 < vx.length
        · have h3b : decide ((8000 : Int) < (vx.length : Int)) = true := decide_eq_true (by omega)
          have hf : rightS (l.take (k + 1)) = false := by rw [HST.out, decide_eq_true h3]; simp
          have HF := hid (HPF.out hf)
          clear hf h1 h3
          go_wp2
          go_quiet (fail)
          go_wp2
          go_ret
          exact ⟨by rw [HF.out]; rfl, below_drewN hB _⟩
        · have h3b : decide ((8000 : Int) < (vx.length : Int)) = false := decide_eq_false (by omega)
          have hs2 := HST.out
          rw [decide_eq_false h1, decide_eq_false h3] at hs2
          simp only [Bool.or_self, Bool.not_false, Bool.and_true] at hs2
          have HS2 := hid hs2
          clear hs2 h1 h3
          by_cases h0 : k = 0
          · subst h0
            have hgo : rightS (l.take (0 + 1)) = true := by rw [HS2.out]; simp
            have HG := hid hgo
            clear hgo
            rw [Nat.zero_mul, Nat.add_zero] at hc1 hc2
            go_wp2
            go_quiet (fail)
            go_wp2
            go_roundw
            case rel => exact ⟨1, by omega, rfl, HG, below_drewN hB _⟩
            case measure => simp [intOf]; omega
          · have hp := HPREV.out h0
            have h0b : decide ((0 : Int) < (k : Int)) = true := decide_eq_true (by omega)
            have hs3 := HS2.out
            rw [decide_eq_false h0, Bool.false_or] at hs3
            obtain ⟨p, rfl⟩ : ∃ p, k = p + 1 := ⟨k - 1, by omega⟩
            rw [Nat.add_sub_cancel] at hp
            clear h0
            cases hcm : ltS ky kx with
            | true =>
              rw [hcm] at hs3
              have HG := hid hs3
              have hcm' : Op.bytesLess ky kx = true := hcm
              clear hs3
              go_wp2
              go_quiet (fail)
              go_wp2
              go_roundw
              case rel => exact ⟨p + 1 + 1, by omega, by go_num, HG, below_drewN hB _⟩
              case measure => simp [intOf]; omega
            | false =>
              rw [hcm] at hs3
              have HF := hid (HPF.out hs3)
              have hcm' : Op.bytesLess ky kx = false := hcm
              clear hs3
              go_wp2
              go_quiet (fail)
              go_wp2
              go_ret
              exact ⟨by rw [HF.out]; rfl, below_drewN hB _⟩
    · obtain rfl : k = l.length := by omega
      rw [List.take_length] at HA
      go_wp2
      go_ret
      exact ⟨by rw [HA.out]; rfl, hB⟩
end Go.Proofs.Ytidbaagdajkojaa.W08
