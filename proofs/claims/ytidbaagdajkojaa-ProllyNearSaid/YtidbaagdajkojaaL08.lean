/- ProllyBuilds: a map's root and nodes, or that pairs are no map, are the document's. -/
import Derived.Test.YtidbaagdajkojaaW08i
import Derived.Test.YtidbaagdajkojaaW08v
import Derived.Test.YtidbaagdajkojaaW08k
set_option linter.unusedVariables false
set_option linter.unusedSimpArgs false
namespace Go.Proofs.Ytidbaagdajkojaa.W08
open Go.RowKit Go.Proofs.Ytidbaagdajkojaa.Lib Go.Proofs.Ytidbaagdajkojaa.Sha Go.Proofs.Ytidbaagdajkojaa.T07 Go.Proofs.Ytidbaagdajkojaa.T08 Go.Proofs.Ytidbaagdajkojaa.QTail Go.Proofs.Ytidbaagdajkojaa.Bld Go.Proofs.Ytidbaagdajkojaa.Itms Go.Proofs.Ytidbaagdajkojaa.W07 Go.Proofs.Ytidbaagdajkojaa.WSeq Go.Proofs.Ytidbaagdajkojaa.Ord
attribute [local go_sem] Str_size Str_toList Str_extract Str_append Str_get bt_nn bt_lt List.length_append take_rest sha_len two_len
theorem tree_len (l : List Itm) (h : l.length ≤ 1000000) : (treeS l).2.length ≤ 1000000000000 := by
  unfold treeS
  split
  · simp
  · rename_i h0
    have h1 := level_len 0 l
    have h2 := level_len2 0 l
    have h3 := cut_len (l.map form)
    rw [List.length_map] at h3
    simp only [List.length_append]
    by_cases hq : (levelS 0 l).1.length ≤ 1
    · rcases Nat.lt_or_ge 0 (levelS 0 l).1.length with h4 | h4
      · rw [rise_one 1 _ (by omega)]; simp; omega
      · have := cut_pos (l.map form) (by simp; omega)
        omega
    · have hlt := cut_lt (l.map form) (by
        simp
        rcases Nat.lt_or_ge l.length 2 with h5 | h5
        · omega
        · exact h5)
      rw [List.length_map] at hlt
      have := rise_len 1 (levelS 0 l).1.length (levelS 0 l).1 (Nat.le_refl _)
      unfold riseS
      omega
theorem own_low {w : World} {base n c b o : Nat} {e : TypeId} {size : Nat} {A : Option Addr} {xs : List Value} (h : w.ownsRow base e size (.slice A n c) n xs) (hA : A = some ⟨b, o, none⟩) : b < w.heap.size := by
  rcases h.2 with ⟨h, _⟩ | ⟨g, cap, cur, h1, _, h2, _⟩
  · injection h with h; rw [h] at hA; cases hA
  · injection h1 with h1
    rw [h1] at hA
    injection hA with hA
    injection hA with hA
    subst hA
    exact (Array.getElem?_eq_some_iff.1 h2).1
set_option maxRecDepth 100000 in
set_option maxHeartbeats 1600000 in
theorem builds_any (A : Option Addr) (c : Nat) (l : List Itm) (hc : l.length ≤ c) (hl : l.length ≤ 1000000000000000000) (w : World) (hrd : Rd w A (its l)) (hb : ∀ i, i < l.length → (itm l i).1.length ≤ 140737488355328 ∧ (itm l i).2.length ≤ 140737488355328) :
    Calls Try.prog 3 #[.slice A l.length c] w fun e w' => e = .returned (.bool true) ∧ Below w.heap.size w w' := by
  have H0 := hid hrd
  have HBD := hid hb
  clear hrd hb
  go_enter Try.func3, Try.ntmps3
  go_wp2_with fail
  refine (awake_any w).mono ?_; rintro e w1 ⟨rfl, hb1⟩
  go_wp2_with fail
  refine (few_any A c l hl w1 (H0.out.below hb1) HBD.out).mono ?_; rintro e w2 ⟨⟨r, rfl, hfew⟩, hb2⟩
  have hB2 := below_tr hb1 hb2
  cases r with
  | false =>
    go_wp2
    go_ret
    exact ⟨rfl, hB2⟩
  | true =>
    have hl2 : l.length ≤ 200 := (hfew rfl).1
    clear hfew HBD hl hb1 hb2
    go_wp2_with fail
    refine (rising_any A c l (by omega) w2 (H0.out.below hB2)).mono ?_; rintro e w3 ⟨⟨v, rfl, hown⟩, hb3⟩
    have hB3 := below_tr hB2 hb3
    have hm2 : (risingS l).length ≤ 200 := by have := rising_len l l.length (Nat.le_refl _); rw [List.take_length] at this; omega
    obtain ⟨m, hm⟩ : ∃ m, m = risingS l := ⟨_, rfl⟩
    rw [← hm] at hown hm2
    clear hm
    obtain ⟨Am, cm, rfl, hcm, hrm, _, _⟩ := Rd.own' hown
    obtain ⟨w4, hw4⟩ : ∃ w4, w4 = w3.alloc (Obj.cells #[.slice A l.length c, .slice Am m.length cm] 22) := ⟨_, rfl⟩
    have hal : Below w3.heap.size w3 w4 := by rw [hw4]; exact below_al (below_rf w3) _
    have hx1 : w4.cell? ⟨w3.heap.size, 0, none⟩ = some (.slice A l.length c) := by rw [hw4, World.cell?_alloc_at _ _ _ _ rfl]; rfl
    have hx2 : w4.cell? ⟨w3.heap.size, 1, none⟩ = some (.slice Am m.length cm) := by rw [hw4, World.cell?_alloc_at _ _ _ _ rfl]; rfl
    have hz : w3.heap.size < w4.heap.size := by rw [hw4]; simp
    have hB4 := below_tr hB3 hal
    have hrm4 := hrm.below hal
    have hrl4 := H0.out.below hB4
    have heach : ∀ i, i < 2 → ∃ (A' : Option Addr) (c' : Nat) (m' : List Itm), w4.cell? ⟨w3.heap.size, i, none⟩ = some (.slice A' m'.length c') ∧ m'.length ≤ 200 ∧ m'.length ≤ c' ∧ Rd w4 A' (its m') := by
      intro i hi
      rcases i with _ | _ | i
      · exact ⟨A, c, l, hx1, hl2, hc, hrl4⟩
      · exact ⟨Am, cm, m, hx2, hm2, hcm, hrm4⟩
      · omega
    have HEA := hid heach
    have HB4 := hid hB4
    clear heach hB4 hrm4 hrl4 hx1 hx2 hal hrm hcm hown hB3 hB2 hb3
    go_wp2
    rw [← hw4]
    clear hw4
    go_loopw [21] (fun i wr => ∃ k : Nat, k ≤ 2 ∧ i = .int .i64 (k : Int) ∧ Below w4.heap.size w4 wr) (fun i _ => 2 - (intOf i).toNat)
    case atStart => exact ⟨0, by omega, rfl, below_rf w4⟩
    case round =>
      obtain ⟨k, hk, rfl, hBr⟩ := hrel
      by_cases hlt : k < 2
      · obtain ⟨A', c', m', hcl, hm', hmc, hr'⟩ := HEA.out k hlt
        have hcell := (hBr.cell (p := ⟨w3.heap.size, k, none⟩) hz).trans hcl
        have hrr := hr'.below hBr
        have HRR := hid hrr
        have HBR := hid hBr
        clear hcl hr' hrr hBr
        go_wp2_with fail
        refine (pairs_any A' c' m' (by omega) wr HRR.out).mono ?_; rintro e w5 ⟨⟨v5, rfl, hown5⟩, hb5⟩
        obtain ⟨Ap, cp, rfl, hcp, hrp, _, _⟩ := Rd.own' hown5
        go_wp2_with fail
        refine (build_any Ap cp m' hcp (by omega) w5 (fun b o e => own_low hown5 e) hrp).mono ?_; rintro e w6 ⟨ho6, hb6⟩
        have hB6 := below_tr hb5 hb6
        have HB6 := hid hB6
        have hr6 := HRR.out.below hB6
        clear hown5 hrp hb5 hb6 hB6
        rcases ho6 with ⟨hr, rfl⟩ | ⟨hr, v6, rfl, hown6⟩
        · go_wp2_with fail
          refine (rbuild_any A' c' m' hmc (by omega) w6 hr6).mono ?_; rintro e w7 ⟨ho7, hb7⟩
          rcases ho7 with ⟨_, rfl⟩ | ⟨hr2, _⟩
          · have ht : Calls Try.prog 13 #[.slice none 0 0, .slice none 0 0] w7 fun e w' => e = .returned (.bool true) ∧ w' = w7 := texts_any none none 0 0 [] [] (by simp) (by simp) w7 (.inl rfl) (.inl rfl)
            go_wp2_with fail
            refine ht.mono ?_; rintro e w8 ⟨rfl, rfl⟩
            go_wp2
            go_roundw
            case rel => exact ⟨k + 1, by omega, by go_num, below_tr (below_tr HBR.out HB6.out) hb7⟩
            case measure => simp [intOf]; omega
          · rw [hr] at hr2; cases hr2
        · have hn := tree_len m' (by omega)
          obtain ⟨rt, hrt⟩ : ∃ rt, rt = (treeS m').1 := ⟨_, rfl⟩
          obtain ⟨ns, hns⟩ : ∃ ns, ns = (treeS m').2 := ⟨_, rfl⟩
          rw [← hns] at hown6 hn
          rw [← hrt]
          have HRT := hid hrt
          have HNS := hid hns
          clear hrt hns
          obtain ⟨A6, c6, rfl, hc6, hr66, _, _⟩ := Rd.own' hown6
          clear hown6
          go_wp2_with fail
          refine (rbuild_any A' c' m' hmc (by omega) w6 hr6).mono ?_; rintro e w7 ⟨ho7, hb7⟩
          rcases ho7 with ⟨hr2, _⟩ | ⟨_, v7, rfl, hown7⟩
          · rw [hr] at hr2; cases hr2
          · rw [← HNS.out] at hown7
            rw [← HRT.out]
            obtain ⟨A7, c7, rfl, hc7, hr77, _, _⟩ := Rd.own' hown7
            have ht := texts_any A6 A7 c6 c7 ns ns hn hn w7 (hr66.below hb7) hr77
            rw [decide_eq_true rfl] at ht
            clear hown7 hr77 hr66 hr6
            go_wp2_with fail
            refine ht.mono ?_; rintro e w8 ⟨rfl, rfl⟩
            go_wp2
            go_roundw
            case rel => exact ⟨k + 1, by omega, by go_num, below_tr (below_tr HBR.out HB6.out) hb7⟩
            case measure => simp [intOf]; omega
      · obtain rfl : k = 2 := by omega
        go_wp2
        go_ret
        exact ⟨rfl, below_tr HB4.out hBr⟩
end Go.Proofs.Ytidbaagdajkojaa.W08
