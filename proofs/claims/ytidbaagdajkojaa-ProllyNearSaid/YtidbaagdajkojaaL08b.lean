/- ProllyOne: two maps have one root just if they are the same, or two unlike nodes have one fingerprint. -/
import Derived.Test.YtidbaagdajkojaaL08
import Derived.Test.YtidbaagdajkojaaRis
import Derived.Test.YtidbaagdajkojaaW08o
set_option linter.unusedVariables false
set_option linter.unusedSimpArgs false
namespace Go.Proofs.Ytidbaagdajkojaa.W08
open Go.RowKit Go.Proofs.Ytidbaagdajkojaa.Lib Go.Proofs.Ytidbaagdajkojaa.Sha Go.Proofs.Ytidbaagdajkojaa.T07 Go.Proofs.Ytidbaagdajkojaa.T08 Go.Proofs.Ytidbaagdajkojaa.QTail Go.Proofs.Ytidbaagdajkojaa.Bld Go.Proofs.Ytidbaagdajkojaa.Itms Go.Proofs.Ytidbaagdajkojaa.W07 Go.Proofs.Ytidbaagdajkojaa.WSeq Go.Proofs.Ytidbaagdajkojaa.Ord Go.Proofs.Ytidbaagdajkojaa.Inj
attribute [local go_sem] Str_size Str_toList Str_extract Str_append Str_get bt_nn bt_lt List.length_append take_rest sha_len two_len
theorem node_short (lv : Nat) (l : List Itm) (h : Sm l) : (nodeB lv l).length ≤ 3 + 131076 * l.length := by
  have : ∀ l : List Itm, Sm l → (l.map form).flatten.length ≤ 131076 * l.length := by
    intro l
    induction l with
    | nil => intro _; simp
    | cons x l ih =>
      intro h
      obtain ⟨h1, h2⟩ := h x (List.mem_cons_self ..)
      have := ih (fun y hy => h y (List.mem_cons_of_mem _ hy))
      simp only [List.map_cons, List.flatten_cons, List.length_append, List.length_cons, form_len]
      omega
  have := this l h
  unfold nodeB nodeHead
  simp only [List.length_append, List.length_cons, List.length_nil]
  omega
theorem level_short (lv : Nat) : ∀ (k : Nat) (l : List Itm), l.length ≤ k → Sm l → ∀ s ∈ (levelS lv l).2, s.length ≤ 3000000 := by
  intro k
  induction k with
  | zero =>
    intro l h _
    rw [List.eq_nil_of_length_eq_zero (Nat.le_zero.1 h), level_nil]
    intro x hx; cases hx
  | succ k ih =>
    intro l h hl
    rcases Nat.lt_or_ge 0 l.length with h0 | h0
    · rw [level_cons lv l h0]
      have hp := part_pos (l.map form) (by simpa using h0)
      have hp2 := (part_le (l.map form)).2
      obtain ⟨p, hpE⟩ : ∃ p, p = partS (l.map form) := ⟨_, rfl⟩
      rw [← hpE] at hp hp2 ⊢
      intro x hx
      rcases List.mem_cons.1 hx with rfl | hx
      · have := node_short lv (l.take p) (hl.take p)
        have h2 : (l.take p).length ≤ 16 := by simp; omega
        omega
      · exact ih (l.drop p) (by simp; omega) (hl.drop p) x hx
    · rw [List.eq_nil_of_length_eq_zero (by omega : l.length = 0), level_nil]
      intro x hx; cases hx
theorem next_short : ∀ (k lv : Nat) (l : List Itm), l.length ≤ k → 0 < l.length → Sm l → ∀ s ∈ (nextS lv l).2, s.length ≤ 3000000 := by
  intro k
  induction k with
  | zero => intro lv l h h0; omega
  | succ k ih =>
    intro lv l h h0 sl s hs
    have s1 := level_some lv l h0
    by_cases h1 : (levelS lv l).1.length = 1
    · rw [next_one lv l h1] at hs
      exact level_short lv _ l (Nat.le_refl _) sl s hs
    · have hlt := level_less lv l (by omega)
      rw [next_more lv l (by omega)] at hs
      rcases List.mem_append.1 hs with hs | hs
      · exact level_short lv _ l (Nat.le_refl _) sl s hs
      · exact ih (lv + 1) _ (by omega) s1 (level_sm lv _ l (Nat.le_refl _) sl) s hs
theorem tree_short (l : List Itm) (sl : Sm l) : ∀ s ∈ (treeS l).2, s.length ≤ 3000000 := by
  intro s hs
  by_cases h0 : l.length = 0
  · have e : l = [] := List.eq_nil_of_length_eq_zero h0
    subst e
    have hE : (treeS []).2 = [nodeB 0 []] := rfl
    rw [hE] at hs
    obtain rfl : s = nodeB 0 [] := by simpa using hs
    have := node_short 0 [] sl
    simp at this
    omega
  · rw [tree_next l h0] at hs
    exact next_short _ 0 l (Nat.le_refl _) (by omega) sl s hs
theorem few_sm (l : List Itm) (h : FewS l) : Sm (risingS l) := fun x hx => by
  have := few_mem h x (rising_mem l x hx)
  omega
theorem sat_all {l : List (List UInt8)} {N : Nat} (h : ∀ s ∈ l, s.length ≤ N) (i : Nat) (hi : i < l.length) : (sat l i).length ≤ N := by
  rw [sat_eq l i hi]; exact h _ (List.getElem_mem hi)
set_option maxRecDepth 100000 in
set_option maxHeartbeats 1600000 in
theorem one_any (A B : Option Addr) (c d : Nat) (a b : List Itm) (ha : a.length ≤ 1000000000000000000) (hb : b.length ≤ 1000000000000000000) (w : World) (hra : Rd w A (its a)) (hrb : Rd w B (its b)) (hsa : ∀ i, i < a.length → (itm a i).1.length ≤ 140737488355328 ∧ (itm a i).2.length ≤ 140737488355328) (hsb : ∀ i, i < b.length → (itm b i).1.length ≤ 140737488355328 ∧ (itm b i).2.length ≤ 140737488355328) :
    Calls Try.prog 4 #[.slice A a.length c, .slice B b.length d] w fun e w' => e = .returned (.bool true) ∧ Below w.heap.size w w' := by
  have HA := hid hra
  have HB := hid hrb
  have HSA := hid hsa
  have HSB := hid hsb
  clear hra hrb hsa hsb
  go_enter Try.func4, Try.ntmps4
  go_wp2_with fail
  refine (awake_any w).mono ?_; rintro e w1 ⟨rfl, hb1⟩
  go_wp2_with fail
  refine (few_any A c a ha w1 (HA.out.below hb1) HSA.out).mono ?_; rintro e w2 ⟨⟨r, rfl, hfa⟩, hb2⟩
  have hB2 := below_tr hb1 hb2
  cases r with
  | false =>
    go_wp2
    go_ret
    exact ⟨rfl, hB2⟩
  | true =>
    go_wp2_with fail
    refine (few_any B d b hb w2 (HB.out.below hB2) HSB.out).mono ?_; rintro e w3 ⟨⟨r, rfl, hfb⟩, hb3⟩
    have hB3 := below_tr hB2 hb3
    cases r with
    | false =>
      go_wp2
      go_ret
      exact ⟨rfl, hB3⟩
    | true =>
      have fa : FewS a := by simpa using hfa
      have fb : FewS b := by simpa using hfb
      have hla := fa.1
      have hlb := fb.1
      clear hb1 hb2 hB2 hb3 hfa hfb HSA HSB ha hb
      go_wp2_with fail
      refine (rising_any A c a (by omega) w3 (HA.out.below hB3)).mono ?_; rintro e w4 ⟨⟨v, rfl, hown4⟩, hb4⟩
      have hB4 := below_tr hB3 hb4
      go_wp2_with fail
      refine (rising_any B d b (by omega) w4 (HB.out.below hB4)).mono ?_; rintro e w5 ⟨⟨v', rfl, hown5⟩, hb5⟩
      have hB5 := below_tr hB4 hb5
      have hl2 : (risingS a).length ≤ 200 := by have := rising_len a a.length (Nat.le_refl _); rw [List.take_length] at this; omega
      have hm2 : (risingS b).length ≤ 200 := by have := rising_len b b.length (Nat.le_refl _); rw [List.take_length] at this; omega
      have rl := rising_right a fa
      have rm := rising_right b fb
      have sl := few_sm a fa
      have sm := few_sm b fb
      obtain ⟨l, hl⟩ : ∃ l, l = risingS a := ⟨_, rfl⟩
      obtain ⟨m, hm⟩ : ∃ m, m = risingS b := ⟨_, rfl⟩
      rw [← hl] at hown4 hl2 rl sl
      rw [← hm] at hown5 hm2 rm sm
      clear hl hm fa fb HA HB hB3 hB4
      obtain ⟨Al, cl, rfl, hcl, hrl4, _, _⟩ := Rd.own' hown4
      obtain ⟨Am, cm, rfl, hcm, hrm5, _, _⟩ := Rd.own' hown5
      have hrl5 := hrl4.below hb5
      clear hown4 hown5 hrl4 hb4 hb5
      go_wp2_with fail
      refine (pairs_any Al cl l (by omega) w5 hrl5).mono ?_; rintro e w6 ⟨⟨v6, rfl, hown6⟩, hb6⟩
      obtain ⟨Ap, cp, rfl, hcp, hrp, _, _⟩ := Rd.own' hown6
      go_wp2_with fail
      refine (build_any Ap cp l hcp (by omega) w6 (fun b o e => own_low hown6 e) hrp).mono ?_; rintro e w7 ⟨ho7, hb7⟩
      have hb67 := below_tr hb6 hb7
      have hB7 := below_tr hB5 hb67
      have hrl7 := hrl5.below hb67
      have hrm7 := hrm5.below hb67
      clear hown6 hrp hb6 hb7 hb67 hrl5 hrm5 hB5 hcp
      rcases ho7 with ⟨hf, _⟩ | ⟨_, v7, rfl, hown7⟩
      · rw [rl] at hf; cases hf
      obtain ⟨A7, c7, rfl, hc7, hr7, _, _⟩ := Rd.own' hown7
      go_wp2_with fail
      refine (pairs_any Am cm m (by omega) w7 hrm7).mono ?_; rintro e w8 ⟨⟨v8, rfl, hown8⟩, hb8⟩
      obtain ⟨Aq, cq, rfl, hcq, hrq, _, _⟩ := Rd.own' hown8
      go_wp2_with fail
      refine (build_any Aq cq m hcq (by omega) w8 (fun b o e => own_low hown8 e) hrq).mono ?_; rintro e w9 ⟨ho9, hb9⟩
      have hb89 := below_tr hb8 hb9
      have hB9 := below_tr hB7 hb89
      have hrl9 := hrl7.below hb89
      have hrm9 := hrm7.below hb89
      have hr79 := hr7.below hb89
      clear hown8 hrq hb8 hb9 hb89 hrl7 hrm7 hB7 hcq hr7 hown7
      rcases ho9 with ⟨hf, _⟩ | ⟨_, v9, rfl, hown9⟩
      · rw [rm] at hf; cases hf
      obtain ⟨A9, c9, rfl, hc9, hr9, _, _⟩ := Rd.own' hown9
      have hinj := tree_inj l m (by omega) (by omega) sl sm
      have hshl := tree_short l sl
      have hshm := tree_short m sm
      have hnl := tree_len l (by omega)
      have hnm := tree_len m (by omega)
      have hroot : l = m → (treeS l).1 = (treeS m).1 := fun e => by rw [e]
      obtain ⟨tl, htl⟩ : ∃ x, x = (treeS l).1 := ⟨_, rfl⟩
      obtain ⟨tm, htm⟩ : ∃ x, x = (treeS m).1 := ⟨_, rfl⟩
      obtain ⟨nl, hnlE⟩ : ∃ x, x = (treeS l).2 := ⟨_, rfl⟩
      obtain ⟨nm, hnmE⟩ : ∃ x, x = (treeS m).2 := ⟨_, rfl⟩
      rw [← htl, ← htm, ← hnlE, ← hnmE] at hinj
      rw [← htl, ← htm] at hroot
      rw [← hnlE] at hshl hnl hr79 ⊢
      rw [← hnmE] at hshm hnm hr9 ⊢
      rw [← htl, ← htm]
      have HINJ := hid hinj
      have HSHL := hid hshl
      have HSHM := hid hshm
      clear htl htm hnlE hnmE hinj hshl hshm hown9 rl rm sl sm
      have HRL := hid hrl9
      have HRM := hid hrm9
      have HR7 := hid hr79
      have HR9 := hid hr9
      have HB9 := hid hB9
      clear hrl9 hrm9 hr79 hr9 hB9
      by_cases heq : tl = tm
      · have hrb : (tl == tm) = true := beq_iff_eq.2 heq
        have HEQ := hid heq
        clear hroot
        go_wp2_with fail
        refine (pairs_any Al cl l (by omega) w9 HRL.out).mono ?_; rintro e w10 ⟨⟨v10, rfl, hown10⟩, hb10⟩
        obtain ⟨Ar, cr, rfl, hcr, hrr, _, _⟩ := Rd.own' hown10
        have hsa := same_any Ar Am cr cm l m (by omega) (by omega) w10 hrr (HRM.out.below hb10)
        by_cases hlm : l = m
        · rw [decide_eq_true hlm] at hsa
          clear hlm
          go_wp2_with fail
          refine hsa.mono ?_; rintro e w11 ⟨rfl, hb11⟩
          have hB11 := below_tr (below_tr HB9.out hb10) hb11
          clear hsa hown10 hrr hb10 hb11
          go_wp2
          go_ret
          exact ⟨rfl, hB11⟩
        · rw [decide_eq_false hlm] at hsa
          have HLM := hid hlm
          clear hlm
          go_wp2_with fail
          refine hsa.mono ?_; rintro e w11 ⟨rfl, hb11⟩
          have hb9 := below_tr hb10 hb11
          have hr711 := HR7.out.below hb9
          have hr911 := HR9.out.below hb9
          have hB11 := below_tr HB9.out hb9
          clear hsa hown10 hrr hb10 hb11 hb9
          have hon := own_fresh w11 w11.heap.size 9 0 1 [] (Nat.le_refl _) (by rfl) (by decide)
          have hal := below_al (below_rf w11) (Obj.cells ([] : List Value).toArray 9)
          have HON := hid hon
          have HR7' := hid (hr711.below hal)
          have HR911 := hid hr911
          have HAL := hid hal
          have HB11 := hid hB11
          clear hon hr711 hr911 hal hB11
          go_wp2_with (at_builtin; first
            | (refine wpList_appR ti_str (.tmp 55) (.tmp 56) (by first | rfl | simp [Region.wanted, yielded]) (by rfl) w11.heap.size (strs nl) A7 nl.length c7 (by rfl) (by rfl) HR7'.out HON.out (by rw [strs_len, Nat.mul_one]) (strs_one _) (by simp) (by omega) ?_
               intro A12 c12 w12 ho12 hg12
               have hb12 : Below w11.heap.size w11 w12 := HAL.out.grown hg12 (by simp) (fun k hk => own_block_base HON.out k hk)
               have HR9'' := hid (HR911.out.below hb12)
               rw [Nat.zero_add] at ho12 ⊢
               have HO12 := hid ho12
               have HB12 := hid hb12
               clear ho12 hg12 hb12)
            | (refine wpList_appR ti_str (.tmp 57) (.tmp 58) (by first | rfl | simp [Region.wanted, yielded]) (by rfl) w11.heap.size (strs nm) A9 nm.length c9 (by rfl) (by rfl) HR9''.out HO12.out (by rw [strs_len, Nat.mul_one]) (strs_one _) HB12.out.size (by omega) ?_
               intro A13 c13 w13 ho13 hg13
               have hb13 : Below w11.heap.size w11 w13 := HB12.out.grown hg13 HB12.out.size (fun k hk => own_block_base HO12.out k hk)
               have hr13 : Rd w13 A13 (strs (nl ++ nm)) := by
                 rw [← strs_app]
                 exact rd_own ho13
               rw [show nl.length + nm.length = (nl ++ nm).length by simp]
               have HR13 := hid hr13
               have HB13 := hid hb13
               clear ho13 hg13 hr13 hb13))
          have hsh : ∀ s ∈ nl ++ nm, s.length ≤ 3000000 := fun s hs => by
            rcases List.mem_append.1 hs with hs | hs
            · exact HSHL.out s hs
            · exact HSHM.out s hs
          have hcl := clash_any A13 c13 (nl ++ nm) (by rw [List.length_append]; omega) (fun i hi => Nat.le_trans (sat_all hsh i hi) (by decide)) w13 HR13.out
          rw [List.length_append] at hcl
          clear hsh
          refine hcl.mono ?_; rintro e w14 ⟨⟨r, rfl, hr⟩, hb14⟩
          cases r with
          | false => exact absurd (HINJ.out HEQ.out (fun a ha b hb => hr rfl a (List.mem_append.2 (.inl ha)) b (List.mem_append.2 (.inr hb)))) HLM.out
          | true =>
            clear hr hcl
            have HB14 := hid (below_tr (below_tr HB11.out HB13.out) hb14)
            clear hb14
            go_wp2
            go_ret
            exact ⟨rfl, HB14.out⟩
      · have hrb : (tl == tm) = false := beq_eq_false_iff_ne.2 heq
        have hlm : decide (l = m) = false := decide_eq_false (fun e => heq (hroot e))
        have HLM := hid hlm
        clear hlm heq hroot
        go_wp2_with fail
        refine (pairs_any Al cl l (by omega) w9 HRL.out).mono ?_; rintro e w10 ⟨⟨v10, rfl, hown10⟩, hb10⟩
        obtain ⟨Ar, cr, rfl, hcr, hrr, _, _⟩ := Rd.own' hown10
        have hsa := same_any Ar Am cr cm l m (by omega) (by omega) w10 hrr (HRM.out.below hb10)
        rw [HLM.out] at hsa
        go_wp2_with fail
        refine hsa.mono ?_; rintro e w11 ⟨rfl, hb11⟩
        have hB11 := below_tr (below_tr HB9.out hb10) hb11
        clear hsa hown10 hrr hb10 hb11
        go_wp2
        go_ret
        exact ⟨rfl, hB11⟩
end Go.Proofs.Ytidbaagdajkojaa.W08
