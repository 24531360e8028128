/- The walks of layer 7: the document's cuts. -/
import Derived.Test.YtidbaagdajkojaaW01e
import Derived.Test.YtidbaagdajkojaaW07
set_option linter.unusedVariables false
set_option linter.unusedSimpArgs false
namespace Go.Proofs.Ytidbaagdajkojaa.W07
open Go.RowKit Go.Proofs.Ytidbaagdajkojaa.Lib Go.Proofs.Ytidbaagdajkojaa.Sha Go.Proofs.Ytidbaagdajkojaa.T07 Go.Proofs.Ytidbaagdajkojaa.W01
attribute [local go_sem] Str_mk Str_size Str_toList Str_extract Str_append Str_get bt_nn bt_lt List.length_append take_rest sha_len
theorem rends_any (s : List UInt8) (w : World) (hs : s.length ≤ 140737488351232) :
    Calls Try.prog 57 #[.string (Str s)] w fun e w' => e = .returned (.bool (ends s)) ∧ Below w.heap.size w w' := by
  go_enter Try.func57, Try.ntmps57
  go_wp2_with fail
  refine (print_ref_any s _ hs).mono ?_; rintro e w1 ⟨rfl, hb1⟩
  go_wp2
  go_ret
  exact ⟨rfl, hb1⟩
theorem sat_drop (l : List (List UInt8)) (k n : Nat) : sat (l.drop k) n = sat l (k + n) := by simp [sat, List.getD_eq_getElem?_getD]
set_option maxHeartbeats 3200000 in
set_option maxRecDepth 100000 in
theorem rcut_any (l : List (List UInt8)) (A : Option Addr) (c : Nat) (w : World) (hl : l.length ≤ 1000000000) (hrd : Rd w A (strs l)) (hs : Short l) :
    Calls Try.prog 31 #[.slice A l.length c] w fun e w' => (∃ v, e = .returned v ∧ w'.ownsRow w.heap.size 3 1 v (cutS l).length (nats (cutS l))) ∧ Below w.heap.size w w' := by
  have H0 := hid hrd
  have HSH := hid hs
  clear hrd hs
  go_enter Try.func31, Try.ntmps31
  go_wp2
  go_loopw [3, 4, 5] (fun v n i wr => ∃ (pre : List Nat) (k m : Nat), k + m ≤ l.length ∧ pre.length ≤ k ∧ n = .int .i64 (m : Int) ∧ i = .int .i64 ((k + m : Nat) : Int) ∧ wr.ownsRow w.heap.size 3 1 v pre.length (nats pre) ∧ Hid (cutS l = pre ++ cutS (l.drop k)) ∧ (k + m < l.length → Hid (m < mostOf (l.drop k) ∧ (m ≤ 1 ∨ partGo (l.drop k) (mostOf (l.drop k)) (21 - m) (m + 1) = partS (l.drop k)))) ∧ (k + m = l.length → m = 0) ∧ Below w.heap.size w wr) (fun _ _ i _ => l.length - (intOf i).toNat)
  case atStart => exact ⟨[], 0, 0, by omega, by simp, rfl, rfl, own_nil _ _ _ _, hid rfl, fun h => hid ⟨mostOf_pos _ (by simpa using h), .inl (by omega)⟩, fun _ => rfl, Below.refl _ _⟩
  case round =>
    obtain ⟨pre, k, n, hk, hpre, rfl, rfl, hown, HC, hP, hZ, hB⟩ := hrel
    obtain ⟨i, hi⟩ : ∃ i, i = k + n := ⟨_, rfl⟩
    rw [← hi] at hk hP hZ ⊢
    by_cases hlt : i < l.length
    · have hdl : (l.drop k).length = l.length - k := by simp
      obtain ⟨hn, hq⟩ := (hP hlt).out
      have hm := (mostOf_le (l.drop k)).2
      have hst := step_cut (l.drop k) n hn hq
      have hn16 : n < 16 := by omega
      rw [sat_drop, ← hi, hdl] at hst
      have HD := hid hdl
      have HS := hid hst.1
      have HN := hid hst.2
      clear hst hdl hP hn hq hm hZ
      obtain ⟨b, o, rfl, hcl⟩ := (H0.out.below hB).str (j := i) (by omega)
      have HI := hid hi
      have hik : k + n = i := hi.symm
      clear hi
      have hrf := below_rf wr
      by_cases h16 : n + 1 = 16
      · have hbX := hrf
        have hown1 := own_of_below hown hbX
        have e9 : [Value.int .i64 (16)] = nats [n + 1] := by rw [h16]; rfl
        have E9 := hid e9
        clear e9
        have hB1 := below_tr hB hbX
        have hcut := cut_cons (l.drop k) (by rw [HD.out]; omega)
        rw [HS.out (.inl h16), List.drop_drop] at hcut
        have HCUT := hid hcut
        clear hcut
        go_wp2_with (at_builtin; go_loud (refine wpList_appN ti_int (.tmp 34) (.tmp 36) (by rfl) (by rfl) w.heap.size [.int .i64 (16)] 3 1 1 (by rfl) (by rfl) hown1 (by rfl) (by simp [Value.oneCell']) hB1 hB1.size (by omega) ?_; intro A2 c2 w5 ho5 hg5 hB5 hsz5))
        go_wp2
        go_roundw
        case rel =>
          refine ⟨pre ++ [n + 1], k + (n + 1), 0, by omega, by simp; omega, rfl, by go_num, ?_, ?_, fun _ => ?_, fun _ => rfl, hB5⟩
          · rw [← nats_app, List.length_append, ← E9.out]; exact ho5
          · exact hid (by rw [HC.out, HCUT.out, List.append_assoc]; rfl)
          · exact hid ⟨mostOf_pos _ (by simp; omega), .inl (by omega)⟩
        case measure => simp [intOf]; omega
      · have hb16 : ((n : Int) + 1 == 16) = false := beq_eq_false_iff_ne.2 (by omega)
        by_cases h2 : 2 ≤ n + 1
        · go_wp2_with fail
          refine (rends_any _ _ (HSH.out _ (by omega))).mono ?_; rintro e w1 ⟨rfl, hbX⟩
          by_cases he : ends (sat l i) = true
          · skip
            have hown1 := own_of_below hown hbX
            have e9 : [Value.int .i64 ((n : Int) + 1)] = nats [n + 1] := by rfl
            have E9 := hid e9
            clear e9
            have hB1 := below_tr hB hbX
            have hcut := cut_cons (l.drop k) (by rw [HD.out]; omega)
            rw [HS.out (.inr (.inl ⟨h2, he⟩)), List.drop_drop] at hcut
            have HCUT := hid hcut
            clear hcut
            go_wp2_with (at_builtin; go_loud (refine wpList_appN ti_int (.tmp 34) (.tmp 36) (by rfl) (by rfl) w.heap.size [.int .i64 ((n : Int) + 1)] 3 1 1 (by rfl) (by rfl) hown1 (by rfl) (by simp [Value.oneCell']) hB1 hB1.size (by omega) ?_; intro A2 c2 w5 ho5 hg5 hB5 hsz5))
            go_wp2
            go_roundw
            case rel =>
              refine ⟨pre ++ [n + 1], k + (n + 1), 0, by omega, by simp; omega, rfl, by go_num, ?_, ?_, fun _ => ?_, fun _ => rfl, hB5⟩
              · rw [← nats_app, List.length_append, ← E9.out]; exact ho5
              · exact hid (by rw [HC.out, HCUT.out, List.append_assoc]; rfl)
              · exact hid ⟨mostOf_pos _ (by simp; omega), .inl (by omega)⟩
            case measure => simp [intOf]; omega
          · have he' : ends (sat l i) = false := by simpa using he
            have HE := hid he
            clear he
            by_cases hz : i + 1 = l.length
            · have hzb : ((i : Int) == (l.length : Int) - 1) = true := beq_iff_eq.2 (by omega)
              have HZ := hid hz
              clear hz
              skip
              have hown1 := own_of_below hown hbX
              have e9 : [Value.int .i64 ((n : Int) + 1)] = nats [n + 1] := by rfl
              have E9 := hid e9
              clear e9
              have hB1 := below_tr hB hbX
              have hcut := cut_cons (l.drop k) (by rw [HD.out]; omega)
              rw [HS.out (.inr (.inr (by have := HZ.out; omega))), List.drop_drop] at hcut
              have HCUT := hid hcut
              clear hcut
              go_wp2_with (at_builtin; go_loud (refine wpList_appN ti_int (.tmp 34) (.tmp 36) (by rfl) (by rfl) w.heap.size [.int .i64 ((n : Int) + 1)] 3 1 1 (by rfl) (by rfl) hown1 (by rfl) (by simp [Value.oneCell']) hB1 hB1.size (by omega) ?_; intro A2 c2 w5 ho5 hg5 hB5 hsz5))
              go_wp2
              go_roundw
              case rel =>
                refine ⟨pre ++ [n + 1], k + (n + 1), 0, by omega, by simp; omega, rfl, by go_num, ?_, ?_, fun _ => ?_, fun _ => rfl, hB5⟩
                · rw [← nats_app, List.length_append, ← E9.out]; exact ho5
                · exact hid (by rw [HC.out, HCUT.out, List.append_assoc]; rfl)
                · exact hid ⟨mostOf_pos _ (by simp; omega), .inl (by omega)⟩
              case measure => simp [intOf]; omega
            · have hzb : ((i : Int) == (l.length : Int) - 1) = false := beq_eq_false_iff_ne.2 (by omega)
              have HZ := hid hz
              clear hz
              skip
              go_wp2
              go_roundw
              case rel =>
                refine ⟨pre, k, n + 1, by omega, by omega, by go_num, by go_num, own_of_below hown hbX, HC, fun _ => ?_, fun h => by have := HZ.out; omega, below_tr hB hbX⟩
                exact hid (HN.out (fun h => by rcases h with h | h | h; omega; exact HE.out h.2; (have := HZ.out; omega)))
              case measure => simp [intOf]; omega
        · by_cases hz : i + 1 = l.length
          · have hzb : ((i : Int) == (l.length : Int) - 1) = true := beq_iff_eq.2 (by omega)
            have HZ := hid hz
            clear hz
            have hbX := hrf
            have hown1 := own_of_below hown hbX
            have e9 : [Value.int .i64 ((n : Int) + 1)] = nats [n + 1] := by rfl
            have E9 := hid e9
            clear e9
            have hB1 := below_tr hB hbX
            have hcut := cut_cons (l.drop k) (by rw [HD.out]; omega)
            rw [HS.out (.inr (.inr (by have := HZ.out; omega))), List.drop_drop] at hcut
            have HCUT := hid hcut
            clear hcut
            go_wp2_with (at_builtin; go_loud (refine wpList_appN ti_int (.tmp 34) (.tmp 36) (by rfl) (by rfl) w.heap.size [.int .i64 ((n : Int) + 1)] 3 1 1 (by rfl) (by rfl) hown1 (by rfl) (by simp [Value.oneCell']) hB1 hB1.size (by omega) ?_; intro A2 c2 w5 ho5 hg5 hB5 hsz5))
            go_wp2
            go_roundw
            case rel =>
              refine ⟨pre ++ [n + 1], k + (n + 1), 0, by omega, by simp; omega, rfl, by go_num, ?_, ?_, fun _ => ?_, fun _ => rfl, hB5⟩
              · rw [← nats_app, List.length_append, ← E9.out]; exact ho5
              · exact hid (by rw [HC.out, HCUT.out, List.append_assoc]; rfl)
              · exact hid ⟨mostOf_pos _ (by simp; omega), .inl (by omega)⟩
            case measure => simp [intOf]; omega
          · have hzb : ((i : Int) == (l.length : Int) - 1) = false := beq_eq_false_iff_ne.2 (by omega)
            have HZ := hid hz
            clear hz
            skip
            go_wp2
            go_roundw
            case rel =>
              refine ⟨pre, k, n + 1, by omega, by omega, by go_num, by go_num, hown, HC, fun _ => ?_, fun h => by have := HZ.out; omega, hB⟩
              exact hid (HN.out (fun h => by rcases h with h | h | h; omega; omega; (have := HZ.out; omega)))
            case measure => simp [intOf]; omega
    · have hil : i = l.length := by omega
      have hn0 := hZ hil
      have e : l.drop k = [] := by rw [show k = l.length by omega, List.drop_length]
      rw [e, cut_nil, List.append_nil] at HC
      have HZ := hid hi
      clear hi hP
      go_wp2
      go_ret
      refine ⟨⟨_, rfl, ?_⟩, hB⟩
      rw [HC.out]
      exact hown
end Go.Proofs.Ytidbaagdajkojaa.W07
