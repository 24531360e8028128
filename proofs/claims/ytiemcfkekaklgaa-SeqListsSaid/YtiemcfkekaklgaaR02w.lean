/- The document's Within, Head, Rises. -/
import Derived.Test.YtiemcfkekaklgaaR02
import Derived.Test.YtiemcfkekaklgaaWithin
import Derived.Test.YtiemcfkekaklgaaRises
set_option linter.unusedVariables false
set_option linter.unusedSimpArgs false
namespace Go.Proofs.Ytiemcfkekaklgaa.R02
open Go.RowKit Go.Proofs.Ytiemcfkekaklgaa.Lib Go.Proofs.Ytiemcfkekaklgaa.Prs Go.Proofs.Ytiemcfkekaklgaa.Run Go.Proofs.Ytiemcfkekaklgaa.Runs Go.Proofs.Ytiemcfkekaklgaa.Lt Go.Proofs.Ytiemcfkekaklgaa.Sp
attribute [local go_sem] Str_toList
theorem filter_take (p : Itm → Bool) (l : List Itm) (k : Nat) (h : k < l.length) : (l.take (k + 1)).filter p = if p (itm l k) then (l.take k).filter p ++ [itm l k] else (l.take k).filter p := by
  rw [take_itm l k h, List.filter_append]
  split
  · rename_i h; simp [List.filter_cons, h]
  · rename_i h; simp [List.filter_cons, h]
theorem filter_le (p : Itm → Bool) (l : List Itm) (k : Nat) : ((l.take k).filter p).length ≤ k := Nat.le_trans (List.length_filter_le _ _) (by rw [List.length_take]; omega)
set_option maxRecDepth 100000 in
set_option maxHeartbeats 1600000 in
theorem rwithin_any (A : Option Addr) (c : Nat) (l : List Itm) (fr to : List UInt8) (hl : l.length ≤ 1000000000) (w : World) (hrd : Rd w A (its l)) :
    Calls Try.prog 18 #[.slice A l.length c, .string (Str fr), .string (Str to)] w fun e w' => (∃ v, e = .returned v ∧ w'.ownsRow w.heap.size 52 2 v (l.filter (inW fr to)).length (its (l.filter (inW fr to)))) ∧ Below w.heap.size w w' := by
  have H0 := hid hrd
  obtain ⟨n, hn⟩ : ∃ n, n = l.length := ⟨_, rfl⟩
  rw [← hn] at hl ⊢
  have HN := hid hn
  clear hrd hn
  go_enter Try.func18, Try.ntmps18
  go_wp2
  go_loopw [7, 8] (fun v i wr => ∃ k : Nat, k ≤ n ∧ i = .int .i64 (k : Int) ∧ wr.ownsRow w.heap.size 52 2 v ((l.take k).filter (inW fr to)).length (its ((l.take k).filter (inW fr to))) ∧ Below w.heap.size w wr) (fun _ i _ => n - (intOf i).toNat)
  case atStart => exact ⟨0, Nat.zero_le _, rfl, own_nil _ _ _ _, below_rf w⟩
  case round =>
    obtain ⟨k, hk, rfl, hown, hB⟩ := hrel
    obtain ⟨Av, cv, rfl⟩ := own_succ hown
    by_cases hlt : k < n
    · obtain ⟨b, o, rfl, hc1, hc2⟩ := rd_itm (Rd.below H0.out hB) (j := k) (by rw [← HN.out]; exact hlt)
      have hft := filter_take (inW fr to) l k (by rw [← HN.out]; exact hlt)
      have hfl := filter_le (inW fr to) l k
      obtain ⟨x, hx⟩ : ∃ x, x = itm l k := ⟨_, rfl⟩
      obtain ⟨F, hF⟩ : ∃ F, F = (l.take k).filter (inW fr to) := ⟨_, rfl⟩
      rw [← hx] at hc1 hc2 hft
      rw [← hF] at hft hown hfl ⊢
      clear hx hF
      cases r1 : ltS x.1 fr with
      | true =>
        have r1' : Op.bytesLess x.1 fr = true := r1
        rw [show inW fr to x = false by unfold inW; rw [r1]; rfl, if_neg (by decide)] at hft
        have HFT := hid hft
        have HOWN := hid hown
        clear r1 hft hown
        go_wp2
        go_roundw
        case rel => exact ⟨k + 1, by omega, by simp, by rw [HFT.out]; exact HOWN.out, hB⟩
        case measure => simp [intOf]; omega
      | false =>
        have r1' : Op.bytesLess x.1 fr = false := r1
        cases r2 : ltS x.1 to with
        | false =>
          have r2' : Op.bytesLess x.1 to = false := r2
          rw [show inW fr to x = false by unfold inW; rw [r1, r2]; rfl, if_neg (by decide)] at hft
          have HFT := hid hft
          have HOWN := hid hown
          clear r1 r2 hft hown
          go_wp2
          go_roundw
          case rel => exact ⟨k + 1, by omega, by simp, by rw [HFT.out]; exact HOWN.out, hB⟩
          case measure => simp [intOf]; omega
        | true =>
          have r2' : Op.bytesLess x.1 to = true := r2
          rw [show inW fr to x = true by unfold inW; rw [r1, r2]; rfl, if_pos rfl] at hft
          have HFT := hid hft
          clear r1 r2 hft
          go_wp2_with (at_builtin; (refine wpList_appN ti_P (.tmp 31) (.tmp 36) (by rfl) (by rfl) w.heap.size [.string (Str x.1), .int .i64 x.2] 52 1 1 (by rfl) (by rfl) hown (by rfl) (by simp [Value.oneCell']) hB hB.size (by omega) ?_; intro A2 c2 w7 ho7 hg7 hB7 hsz7))
          go_wp2
          go_roundw
          case rel => exact ⟨k + 1, by omega, by simp, by rw [HFT.out, its_app, List.length_append]; exact ho7, hB7⟩
          case measure => simp [intOf]; omega
    · obtain rfl : k = n := by omega
      have HTL : Hid (l.take k = l) := hid (List.take_of_length_le (by rw [HN.out]; exact Nat.le_refl _))
      have HOWN := hid hown
      clear hown
      go_wp2
      go_ret
      exact ⟨⟨_, rfl, by have h := HOWN.out; rw [HTL.out] at h ⊢; exact h⟩, hB⟩
set_option maxRecDepth 100000 in
set_option maxHeartbeats 1600000 in
theorem rhead_any (A : Option Addr) (c : Nat) (l : List Itm) (m : Int) (hl : l.length ≤ 1000000000) (w : World) (hrd : Rd w A (its l)) :
    Calls Try.prog 28 #[.slice A l.length c, .int .i64 m] w fun e w' => (∃ v, e = .returned v ∧ w'.ownsRow w.heap.size 52 2 v (l.take m.toNat).length (its (l.take m.toNat))) ∧ Below w.heap.size w w' := by
  have H0 := hid hrd
  obtain ⟨n, hn⟩ : ∃ n, n = l.length := ⟨_, rfl⟩
  rw [← hn] at hl ⊢
  have HN := hid hn
  clear hrd hn
  go_enter Try.func28, Try.ntmps28
  go_wp2
  go_loopw [5, 6] (fun v i wr => ∃ k : Nat, k ≤ n ∧ k ≤ m.toNat ∧ i = .int .i64 (k : Int) ∧ wr.ownsRow w.heap.size 52 2 v k (its (l.take k)) ∧ Below w.heap.size w wr) (fun _ i _ => n - (intOf i).toNat)
  case atStart => exact ⟨0, Nat.zero_le _, Nat.zero_le _, rfl, own_nil _ _ _ _, below_rf w⟩
  case round =>
    obtain ⟨k, hk, hkm, rfl, hown, hB⟩ := hrel
    obtain ⟨Av, cv, rfl⟩ := own_succ hown
    by_cases hlt : k < n
    · by_cases hm : (k : Int) < m
      · obtain ⟨b, o, rfl, hc1, hc2⟩ := rd_itm (Rd.below H0.out hB) (j := k) (by rw [← HN.out]; exact hlt)
        have htk := take_itm l k (by rw [← HN.out]; exact hlt)
        obtain ⟨x, hx⟩ : ∃ x, x = itm l k := ⟨_, rfl⟩
        rw [← hx] at hc1 hc2 htk
        have HTK := hid htk
        clear hx htk
        go_wp2_with (at_builtin; (refine wpList_appN ti_P (.tmp 18) (.tmp 23) (by rfl) (by rfl) w.heap.size [.string (Str x.1), .int .i64 x.2] 52 1 1 (by rfl) (by rfl) hown (by rfl) (by simp [Value.oneCell']) hB hB.size (by omega) ?_; intro A2 c2 w7 ho7 hg7 hB7 hsz7))
        go_wp2
        go_roundw
        case rel => exact ⟨k + 1, by omega, by omega, by simp, by rw [HTK.out, its_app]; exact ho7, hB7⟩
        case measure => simp [intOf]; omega
      · have e : m.toNat = k := by omega
        have hle : k ≤ l.length := by rw [← HN.out]; exact hk
        have hkl : (l.take k).length = k := by rw [List.length_take]; omega
        have HE := hid e
        have HKL := hid hkl
        have HOWN := hid hown
        clear hown e hle hkl
        go_wp2
        go_ret
        exact ⟨⟨_, rfl, by have h := HKL.out; rw [HE.out]; simp only [List.length_take] at h ⊢; rw [h]; exact HOWN.out⟩, hB⟩
    · obtain rfl : k = n := by omega
      have e : l.take m.toNat = l.take k := by rw [List.take_of_length_le (by rw [← HN.out]; exact hkm), List.take_of_length_le (by rw [← HN.out]; exact Nat.le_refl _)]
      have hkl : (l.take k).length = k := by rw [List.length_take, ← HN.out]; omega
      have HE := hid e
      have HKL := hid hkl
      have HOWN := hid hown
      clear hown e hkl
      go_wp2
      go_ret
      exact ⟨⟨_, rfl, by rw [HE.out, HKL.out]; exact HOWN.out⟩, hB⟩
set_option maxRecDepth 100000 in
set_option maxHeartbeats 1600000 in
theorem rrises_any (A : Option Addr) (c : Nat) (l : List Itm) (hl : l.length ≤ 1000000000) (w : World) (hrd : Rd w A (its l)) :
    Calls Try.prog 29 #[.slice A l.length c] w fun e w' => e = .returned (.bool (risesP l)) ∧ Below w.heap.size w w' := by
  have H0 := hid hrd
  obtain ⟨n, hn⟩ : ∃ n, n = l.length := ⟨_, rfl⟩
  rw [← hn] at hl ⊢
  have HN := hid hn
  clear hrd hn
  go_enter Try.func29, Try.ntmps29
  go_wp2
  go_loopw [3] (fun i wr => ∃ k : Nat, k ≤ n ∧ i = .int .i64 ((k : Int) + 1) ∧ Hid (risesTo l (k + 1)) ∧ Below w.heap.size w wr) (fun i _ => n + 1 - (intOf i).toNat)
  case atStart => exact ⟨0, Nat.zero_le _, rfl, hid (fun j hj => by omega), below_rf w⟩
  case round =>
    obtain ⟨k, hk, rfl, HR, hB⟩ := hrel
    have hw1 : IntKind.i64.wrap ((k : Int) + 1 - 1) = (k : Int) := by rw [IntKind.wrap_i64]; omega
    have hw2 : IntKind.i64.wrap ((k : Int) + 1 + 1) = (k : Int) + 1 + 1 := by rw [IntKind.wrap_i64]; omega
    by_cases hlt : k + 1 < n
    · obtain ⟨b, o, rfl, hc1, _⟩ := rd_itm (Rd.below H0.out hB) (j := k) (by rw [← HN.out]; omega)
      obtain ⟨b2, o2, e2, hd1, _⟩ := rd_itm (Rd.below H0.out hB) (j := k + 1) (by rw [← HN.out]; omega)
      injection e2 with e2; injection e2 with e21 e22; subst e21; subst e22
      obtain ⟨x, hx⟩ : ∃ x, x = itm l k := ⟨_, rfl⟩
      obtain ⟨y, hy⟩ : ∃ y, y = itm l (k + 1) := ⟨_, rfl⟩
      rw [← hx] at hc1
      rw [← hy] at hd1
      have HX := hid hx
      have HY := hid hy
      have q1 : decide ((k : Int) + 1 < (n : Int)) = true := decide_eq_true (by omega)
      have e1 : ((k : Int) + 1 - 1) = (k : Int) := by omega
      have e2 : ((k : Int) + 1).toNat = k + 1 := by omega
      clear hx hy
      cases r : ltS x.1 y.1 with
      | true =>
        have r' : Op.bytesLess x.1 y.1 = true := r
        have HRR : Hid (risesTo l (k + 1 + 1)) := hid (fun j hj => by
          by_cases e : j = k
          · subst e; rw [← HX.out, ← HY.out]; exact r
          · exact HR.out j (by omega))
        clear r
        go_wp2
        go_quiet (fail)
        go_wp2
        go_roundw
        case rel => exact ⟨k + 1, by omega, by simp, HRR, below_drewN hB _⟩
        case measure => simp [intOf]; omega
      | false =>
        have r' : Op.bytesLess x.1 y.1 = false := r
        have HRR : Hid (risesP l = false) := hid (by
          unfold risesP
          refine @decide_eq_false _ (Classical.propDecidable _) (fun h => ?_)
          have := h k (by rw [← HN.out]; exact hlt)
          rw [← HX.out, ← HY.out, r] at this; cases this)
        clear r
        go_wp2
        go_quiet (fail)
        go_wp2
        go_ret
        exact ⟨by rw [HRR.out]; rfl, below_drewN hB _⟩
    · have q1 : decide ((k : Int) + 1 < (n : Int)) = false := decide_eq_false (by omega)
      have HRR : Hid (risesP l = true) := hid (by
        unfold risesP
        exact @decide_eq_true _ (Classical.propDecidable _) (fun j hj => HR.out j (by have := HN.out; omega)))
      go_wp2
      go_ret
      exact ⟨by rw [HRR.out]; rfl, hB⟩
end Go.Proofs.Ytiemcfkekaklgaa.R02
