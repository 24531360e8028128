/- The walks of layer 7: where items are cut. -/
import Derived.Test.YtoidbgedpakjmaaW01c
import Derived.Test.YtoidbgedpakjmaaT08
set_option linter.unusedVariables false
set_option linter.unusedSimpArgs false
namespace Go.Proofs.Ytoidbgedpakjmaa.W07
open Go.RowKit Go.Proofs.Ytoidbgedpakjmaa.Lib Go.Proofs.Ytoidbgedpakjmaa.Sha Go.Proofs.Ytoidbgedpakjmaa.T07 Go.Proofs.Ytoidbgedpakjmaa.W01
attribute [local go_sem] Str_mk Str_size Str_toList Str_extract Str_append Str_get bt_nn bt_lt List.length_append take_rest sha_len
theorem ti_str : TI Try.prog 25 9 1 16 := TI.of Try.underlying25 (by kernel_rfl) (by decide) (by decide)
theorem ti_int : TI Try.prog 108 3 1 8 := TI.of Try.underlying108 (by kernel_rfl) (by decide) (by decide)
def slcLen : Value → Nat | .slice _ n _ => n | _ => 0
theorem ends_any (s : List UInt8) (w : World) (hs : s.length ≤ 140737488351232) :
    Calls Try.prog 74 #[.string (Str s)] w fun e w' => e = .returned (.bool (ends s)) ∧ Below w.heap.size w w' := by
  go_enter Try.func74, Try.ntmps74
  go_wp2_with fail
  refine (print_any s _ hs).mono ?_; rintro e w1 ⟨rfl, hb1⟩
  go_wp2
  go_ret
  exact ⟨rfl, hb1⟩
def Short (l : List (List UInt8)) : Prop := ∀ i, i < l.length → (sat l i).length ≤ 140737488351232
theorem part_any (l : List (List UInt8)) (A : Option Addr) (c : Nat) (w : World) (hl : l.length ≤ 1000000000) (hrd : Rd w A (strs l)) (hs : Short l) :
    Calls Try.prog 62 #[.slice A l.length c] w fun e w' => e = .returned (.int .i64 (partS l : Nat)) ∧ Below w.heap.size w w' := by
  have hmin : min (l.length : Int) 16 = (mostOf l : Nat) := by unfold mostOf; split <;> omega
  have hml := mostOf_le l
  obtain ⟨M, hM⟩ : ∃ M, M = mostOf l := ⟨_, rfl⟩
  rw [← hM] at hmin hml
  have HM := hid hM
  clear hM
  have H0 := hid hrd
  clear hrd
  go_enter Try.func62, Try.ntmps62
  go_wp2
  go_loopw [4] (fun n wr => ∃ m : Nat, n = .int .i64 m ∧ 2 ≤ m ∧ partGo l M (22 - m) m = partS l ∧ m ≤ 16 + 2 ∧ Below w.heap.size w wr) (fun n _ => 20 - (intOf n).toNat)
  case atStart => exact ⟨2, rfl, by omega, by rw [HM.out]; rfl, by omega, Below.refl _ _⟩
  case round =>
    obtain ⟨m, rfl, hm2, hp, hm, hB⟩ := hrel
    by_cases hlt : m < M
    · have e : 22 - m = (21 - m) + 1 := by omega
      rw [e, partGo, if_pos hlt] at hp
      obtain ⟨b, o, rfl, hcl⟩ := (H0.out.below hB).str (j := m - 1) (by omega)
      have HP := hid hp
      clear hp e
      go_wp2_with fail
      refine (ends_any _ _ (hs _ (by omega))).mono ?_; rintro e w1 ⟨rfl, hb1⟩
      have hB1 := below_tr hB hb1
      by_cases he : ends (sat l (m - 1)) = true
      · have hp := HP.out
        rw [if_pos he] at hp
        have HP := hid hp
        clear hp
        go_wp2
        go_ret
        exact ⟨by rw [← HP.out]; rfl, hB1⟩
      · have hp := HP.out
        rw [if_neg he] at hp
        have he' : ends (sat l (m - 1)) = false := by simpa using he
        have HP := hid hp
        clear hp he
        go_wp2
        go_roundw
        case rel => exact ⟨m + 1, by go_num, by omega, by rw [show 22 - (m + 1) = 21 - m by omega]; exact HP.out, by omega, hB1⟩
        case measure => simp [intOf]; omega
    · rw [partGo_stop _ _ _ _ hlt] at hp
      have HP := hid hp
      clear hp
      go_wp2
      go_ret
      exact ⟨by rw [← HP.out]; rfl, hB⟩
theorem nats_app (l m : List Nat) : nats l ++ nats m = nats (l ++ m) := by simp [nats]
theorem Short.drop {l : List (List UInt8)} (h : Short l) (n : Nat) : Short (l.drop n) := by
  intro i hi
  have := h (n + i) (by simp at hi; omega)
  simpa [sat, List.getD_eq_getElem?_getD] using this
theorem strs_drop (l : List (List UInt8)) (k : Nat) : strs (l.drop k) = (strs l).drop k := by simp [strs]
theorem Rd.dropS {w : World} {b o : Nat} {xs : List Value} (h : Rd w (some ⟨b, o, none⟩) xs) (n : Nat) : Rd w (some ⟨b, o + n, none⟩) (xs.drop n) := by
  rcases h with h | ⟨b', o', e, h⟩
  · exact .inl (by rw [h, List.drop_nil])
  · injection e with e; injection e with e1 e2; subst e1; subst e2
    refine .inr ⟨_, _, rfl, fun j x hj => ?_⟩
    rw [List.getElem?_drop] at hj
    rw [Nat.add_assoc]
    exact h _ _ hj
set_option maxHeartbeats 1600000 in
theorem cut_any (l : List (List UInt8)) (A : Option Addr) (c : Nat) (w : World) (hc : l.length ≤ c) (hl : l.length ≤ 1000000000) (hrd : Rd w A (strs l)) (hs : Short l) :
    Calls Try.prog 42 #[.slice A l.length c] w fun e w' => (∃ v, e = .returned v ∧ w'.ownsRow w.heap.size 3 1 v (cutS l).length (nats (cutS l))) ∧ Below w.heap.size w w' := by
  have H0 := hid hrd
  have HS := hid hs
  clear hrd hs
  go_enter Try.func42, Try.ntmps42
  go_wp2
  go_loopw [0, 3] (fun x v wr => ∃ (pre : List Nat) (k : Nat) (A' : Option Addr) (c' : Nat), k ≤ l.length ∧ pre.length ≤ k ∧ x = .slice A' (l.length - k) c' ∧ l.length - k ≤ c' ∧ Hid (Rd w A' (strs (l.drop k))) ∧ wr.ownsRow w.heap.size 3 1 v pre.length (nats pre) ∧ Hid (cutS l = pre ++ cutS (l.drop k)) ∧ Below w.heap.size w wr) (fun x _ _ => slcLen x)
  case atStart => exact ⟨[], 0, A, c, by omega, by simp, rfl, hc, hid H0.out, own_nil _ _ _ _, hid rfl, Below.refl _ _⟩
  case round =>
    obtain ⟨pre, k, A', c', hk, hpre, rfl, hc', HR, hown, HC, hB⟩ := hrel
    by_cases hlt : k < l.length
    · have hdl : (l.drop k).length = l.length - k := by simp
      obtain ⟨b, o, rfl, _⟩ := (HR.out.below hB).str0 (by rw [hdl]; omega)
      have hpos := part_pos (l.drop k) (by rw [hdl]; omega)
      have hple := (part_le (l.drop k)).1
      rw [hdl] at hple
      have HD := hid hdl
      clear hdl
      have h0 : ((l.length - k : Nat) : Int) > 0 := by omega
      have hpart := part_any (l.drop k) (some ⟨b, o, none⟩) c' wr (by rw [HD.out]; omega) (HR.out.below hB) (HS.out.drop k)
      rw [HD.out] at hpart
      have HPART := hid hpart
      clear hpart
      have hcut := cut_cons (l.drop k) (by rw [HD.out]; omega)
      rw [List.drop_drop] at hcut
      have HCUT := hid hcut
      clear hcut
      obtain ⟨n, hn⟩ : ∃ n, n = partS (l.drop k) := ⟨_, rfl⟩
      rw [← hn] at hpos hple HPART HCUT
      clear hn
      have hn1 : (n : Int) ≤ ((l.length - k : Nat) : Int) := by omega
      go_wp2_with fail
      refine HPART.out.mono ?_; rintro e w1 ⟨rfl, hb1⟩
      have hown1 := own_of_below hown hb1
      have hB1 := below_tr hB hb1
      go_wp2_with (at_builtin; go_loud (refine wpList_appN ti_int (.tmp 10) (.tmp 12) (by rfl) (by rfl) w.heap.size [.int .i64 (n : Int)] 3 1 1 (by rfl) (by rfl) hown1 (by rfl) (by simp [Value.oneCell']) hB1 hB1.size (by omega) ?_; intro A2 c2 w5 ho5 hg5 hB5 hsz5))
      go_wp2
      go_roundw
      case rel =>
        have e1 : l.length - k - n = l.length - (k + n) := by omega
        refine ⟨pre ++ [n], k + n, _, _, by omega, by simp; omega, by rw [e1], by omega, ?_, ?_, ?_, hB5⟩
        · by_cases hcn : c' = n
          · refine hid (.inl ?_)
            rw [show k + n = l.length by omega, List.drop_length]; rfl
          · rw [if_neg hcn]
            have := Rd.dropS (HR.out) n
            rw [← strs_drop, List.drop_drop] at this
            exact hid this
        · rw [← nats_app, List.length_append]; exact ho5
        · exact hid (by rw [HC.out, HCUT.out, List.append_assoc]; rfl)
      case measure => simp [slcLen]; omega
    · obtain rfl : k = l.length := by omega
      rw [List.drop_length] at HC
      go_wp2
      go_ret
      refine ⟨⟨_, rfl, ?_⟩, hB⟩
      rw [HC.out, cut_nil, List.append_nil]
      exact hown
end Go.Proofs.Ytoidbgedpakjmaa.W07
