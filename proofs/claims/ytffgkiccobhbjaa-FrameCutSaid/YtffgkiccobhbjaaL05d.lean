/- The walks of layer 5's statements, fourth part: frames that are cut. -/
import Derived.Test.YtffgkiccobhbjaaL05c
set_option linter.unusedVariables false
set_option linter.unusedSimpArgs false
namespace Go.Proofs.Ytffgkiccobhbjaa.W05
open Go.RowKit Go.Proofs.Ytffgkiccobhbjaa.Lib Go.Proofs.Ytffgkiccobhbjaa.Crc Go.Proofs.Ytffgkiccobhbjaa.Fr Go.Proofs.Ytffgkiccobhbjaa.T05
attribute [local go_sem] Str_mk Str_size Str_toList Str_extract Str_append Str_get bt_nn bt_lt V_nn V_lt four_len List.length_append take_rest wrap_len
set_option maxHeartbeats 3200000 in
set_option maxRecDepth 100000 in
theorem FrameCut_any (l : List (List UInt8)) (A : Option Addr) (c : Nat) (cut : Int) (w : World) (hr : Rd w A (strs l)) (hl : l.length ≤ 50) (hlc : l.length ≤ c) (hc0 : -9223372036854775808 ≤ cut) (hc1 : cut ≤ 9223372036854775807) (hsz : ∀ k, (sat l k).length ≤ 140737488351232) :
    Calls Try.prog 5 #[.slice A l.length c, .int .i64 cut] w fun e w' => e = .returned (.bool true) ∧ Below w.heap.size w w' := by
  obtain ⟨t1, t2⟩ := testsN 50 l.length (by omega)
  have HR := hid hr
  have HS := hid hsz
  have H0 := hid hc0
  have H1 := hid hc1
  clear hr hsz hc0 hc1
  go_enter Try.func5, Try.ntmps5
  go_wp2_with fail
  refine (awake_any _).mono ?_; rintro e w1 ⟨rfl, hb1⟩
  go_wp2_with fail
  go_loopw [23, 5, 6, 7] (fun i s n v wr => ∃ k : Nat, k ≤ l.length ∧ i = .int .i64 k ∧ s = .string (Str (frWraps (l.take k))) ∧ n = .int .i64 (tot (l.take k) : Nat) ∧ tot (l.take k) ≤ 5000 ∧ wr.ownsRow w.heap.size 3 1 v (k + 1) (nats (ends l k)) ∧ Below w.heap.size w wr) (fun i _ _ _ _ => l.length - (intOf i).toNat)
  case atStart =>
    refine ⟨0, by omega, rfl, by rw [show frWraps (l.take 0) = [] from rfl, Str_nil], rfl, by simp [tot], ?_, ?_⟩
    · rw [ends_zero]; exact ⟨rfl, .inr ⟨w1.heap.size, 1, _, rfl, hb1.size, heap_alloc_new w1 _, Nat.le_refl _, by decide, rfl, rfl⟩⟩
    · exact below_al hb1 _
  case round =>
    obtain ⟨k, hk, rfl, rfl, rfl, ht, ho, hB⟩ := hrel
    by_cases hlt : k < l.length
    · obtain ⟨b, o, rfl, hc⟩ := Rd.str (HR.out.below hB) hlt
      obtain ⟨p, hp⟩ : ∃ p, p = sat l k := ⟨_, rfl⟩
      have hpl : p.length ≤ 140737488351232 := by rw [hp]; exact HS.out k
      have hts : tot (l.take (k + 1)) = tot (l.take k) + p.length := by rw [take_sat l k hlt, tot_snoc, hp]
      have hws : frWraps (l.take (k + 1)) = frWraps (l.take k) ++ frWrap p := by rw [take_sat l k hlt, wraps_snoc, hp]
      have hwl : (frWraps (l.take k)).length = 12 * k + tot (l.take k) := by rw [wraps_len, List.length_take, Nat.min_eq_left hk]
      rw [← hp] at hc
      have HT := hid hts
      have HWS := hid hws
      have HWL := hid hwl
      clear hts hws hwl hp
      by_cases h5 : 5000 < tot (l.take k) + p.length
      · have t3 : decide (5000 < (tot (l.take k) : Int) + p.length) = true := decide_eq_true (by omega)
        go_wp2
        go_ret
        exact ⟨rfl, hB⟩
      · have t3 : decide (5000 < (tot (l.take k) : Int) + p.length) = false := decide_eq_false (by omega)
        have ho1 : ∀ W, Below wr.heap.size wr W → W.ownsRow w.heap.size 3 1 _ (k + 1) (nats (ends l k)) := fun W hb => own_of_below ho hb
        have HO := hid ho1
        clear ho ho1
        go_wp2_with fail
        refine (wrap_any _ _ (by omega)).mono ?_; rintro e w2 ⟨rfl, hb2⟩
        have ho2 := HO.out _ hb2
        have hB2 := below_tr hB hb2
        have hl1 := HWL.out
        go_wp2_with (at_builtin; refine wpList_app1 ti_int (.tmp 43) (.tmp 46) (by rfl) (by rfl) w.heap.size [.int .i64 (12 * (k : Int) + (tot (l.take k) : Nat) + (12 + (p.length : Int)))] 3 1 (by rfl) (by rfl) ho2 rfl (by simp [Value.oneCell']) hB2 hB2.size (by omega) ?_; intro A' c' w3 ho3 hg3 hB3 hb3)
        go_roundw
        case rel =>
          have hu : frUpto l (k + 1) = 12 * k + tot (l.take k) + (12 + p.length) := by unfold frUpto; rw [HWS.out, List.length_append, HWL.out, wrap_len]
          refine ⟨k + 1, by omega, by go_num, by rw [HWS.out], by rw [HT.out]; go_num, by rw [HT.out]; omega, ?_, hB3⟩
          rw [ends_succ, hu]
          simpa [nats] using ho3
        case measure => simp [intOf]; omega
    · obtain rfl : k = l.length := by omega
      rw [List.take_length] at *
      have hwl : (frWraps l).length = 12 * l.length + tot l := wraps_len l
      by_cases hcn : cut < 0 ∨ (12 * l.length + tot l : Nat) < cut
      · have hin : decide (cut < 0) = true ∨ (decide (cut < 0) = false ∧ decide (12 * (l.length : Int) + (tot l : Nat) < cut) = true) := by
          by_cases h : cut < 0
          · exact .inl (decide_eq_true h)
          · exact .inr ⟨decide_eq_false h, decide_eq_true (by rcases hcn with h2 | h2; exact absurd h2 h; omega)⟩
        clear hcn
        rcases hin with h | ⟨h, h2⟩
        all_goals
          go_wp2
          go_ret
          exact ⟨rfl, hB⟩
      · obtain ⟨n, rfl⟩ := Int.eq_ofNat_of_zero_le (show 0 ≤ cut by omega)
        have t3 : decide ((n : Int) < 0) = false := decide_eq_false (by omega)
        have t4 : decide ((12 * (l.length : Int) + (tot l : Nat)) < (n : Int)) = false := decide_eq_false (by omega)
        have hnl : n ≤ 12 * l.length + tot l := by omega
        go_wp2_with fail
        with_reducible refine (scan_any _ _ (by simp; omega)).mono ?_
        rintro e w2 ⟨⟨v2, rfl, ho2⟩, hb2⟩
        have hB2 := below_tr hB hb2
        obtain ⟨Ae, ce, rfl, _, hre⟩ := Rd.own (own_of_below ho hb2)
        obtain ⟨Ag, cg, rfl, _, hrg⟩ := Rd.own ho2
        have he : ∃ b o, Ae = some ⟨b, o, none⟩ ∧ ∀ j, j ≤ l.length → w2.cell? ⟨b, o + j, none⟩ = some (.int .i64 (frUpto l j : Nat)) := by
          rcases hre with h | ⟨b, o, rfl, h⟩
          · simp [nats, ends] at h
          · refine ⟨b, o, rfl, fun j hj => h j _ ?_⟩
            rw [List.getElem?_eq_getElem (by rw [nats_len, ends_len]; omega), nats_get, ends_get _ _ _ hj]
        obtain ⟨b, o, rfl, hce⟩ := he
        have HRL := hid (HR.out.below hB2)
        have HG := hid hrg
        have hgl := scan_count ((frWraps l).take n)
        have hgl2 : (frScan ((frWraps l).take n)).1.length ≤ 1000000000 := by simp at hgl; omega
        have HGL := hid hgl2
        have HWL := hid hwl
        clear ho ho2 hre hrg hgl hgl2 hwl
        have HCE := hid hce
        clear hce
        go_wp2_with fail
        go_loop [14] (fun i => ∃ k : Nat, k ≤ l.length ∧ i = .int .i64 k ∧ frUpto l k ≤ n) (fun i => l.length - (intOf i).toNat)
        case atStart => exact ⟨0, by omega, rfl, by rw [upto_zero]; omega⟩
        case round =>
          obtain ⟨k, hk, rfl, hu⟩ := hrel
          by_cases hgo : k < l.length ∧ frUpto l (k + 1) ≤ n
          · have hk1 := HCE.out (k + 1) (by omega)
            have t5 : decide ((frUpto l (k + 1) : Int) ≤ (n : Int)) = true := decide_eq_true (by omega)
            have t6 : decide (frUpto l (k + 1) ≤ n) = true := decide_eq_true hgo.2
            have hlt : k < l.length := hgo.1
            have hu1 : frUpto l (k + 1) ≤ n := hgo.2
            clear hgo
            go_wp2
            go_round
            case rel => exact ⟨k + 1, by omega, by go_num, hu1⟩
            case measure => simp [intOf]; omega
          · have hsc : frScan ((frWraps l).take n) = (l.take k, frUpto l k) := by
              refine scan_cut l (fun p hp => ?_) n k hk hu (fun h => ?_) (by rw [HWL.out]; omega)
              · have := mem_tot l p hp; omega
              · rcases Nat.lt_or_ge n (frUpto l (k + 1)) with h2 | h2
                · exact h2
                · exact absurd ⟨h, h2⟩ hgo
            have hg1 := HG.out
            have hgl := HGL.out
            rw [hsc] at hg1 hgl ⊢
            have hk0 := HCE.out k hk
            have hkl : (l.take k).length = k := by simp; omega
            have hsame := same_any (l.take k) (l.take k) Ag A cg c w2 hg1 (by rw [strs_take]; exact HRL.out.take k) hgl hgl
            rw [hkl] at hsame
            have HSM := hid hsame
            clear hsame hkl hg1 hgl
            by_cases hlt : k < l.length
            · have hk1 := HCE.out (k + 1) (by omega)
              have t5 : decide ((frUpto l (k + 1) : Int) ≤ (n : Int)) = false := decide_eq_false (fun h => hgo ⟨hlt, by omega⟩)
              have t6 : decide (frUpto l (k + 1) ≤ n) = false := decide_eq_false (fun h => hgo ⟨hlt, h⟩)
              clear hgo hsc
              go_wp2_with fail
              with_reducible refine HSM.out.mono ?_
              rintro e w3 ⟨rfl, rfl⟩
              go_wp2_with fail
              go_ret
              exact ⟨by simp, hB2⟩
            · obtain rfl : k = l.length := by omega
              clear hgo hsc
              go_wp2_with fail
              with_reducible refine HSM.out.mono ?_
              rintro e w3 ⟨rfl, rfl⟩
              go_wp2_with fail
              go_ret
              exact ⟨by simp, hB2⟩
set_option maxHeartbeats 1600000 in
theorem FrameCut_all (l : List (List UInt8)) (A : Option Addr) (c : Nat) (cut : Int) (w : World) (hr : Rd w A (strs l)) (hlc : l.length ≤ c) (hc0 : -9223372036854775808 ≤ cut) (hc1 : cut ≤ 9223372036854775807) (hl16 : l.length * 16 ≤ 140737488351232) (hsz : ∀ k, (sat l k).length ≤ 140737488351232) :
    Calls Try.prog 5 #[.slice A l.length c, .int .i64 cut] w fun e w' => e = .returned (.bool true) ∧ Below w.heap.size w w' := by
  by_cases h5 : 50 < l.length
  · obtain ⟨t1, t2⟩ := tests _ _ h5
    clear hc0 hc1
    go_enter Try.func5, Try.ntmps5
    go_wp2_with (go_at_call 8; refine (awake_any _).mono ?_; rintro e w1 ⟨rfl, hb1⟩)
    go_ret
    exact ⟨rfl, hb1⟩
  · exact FrameCut_any l A c cut w hr (by omega) hlc hc0 hc1 hsz
end Go.Proofs.Ytffgkiccobhbjaa.W05
