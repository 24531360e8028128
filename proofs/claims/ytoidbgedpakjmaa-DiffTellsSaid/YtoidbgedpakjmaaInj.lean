/- Two maps with one root are the same, or two unlike nodes have one fingerprint. -/
import Derived.Test.YtoidbgedpakjmaaW08u
import Derived.Test.YtoidbgedpakjmaaW08v
import Derived.Test.YtoidbgedpakjmaaIns
set_option linter.unusedVariables false
set_option linter.unusedSimpArgs false
namespace Go.Proofs.Ytoidbgedpakjmaa.Inj
open Go.Proofs.Ytoidbgedpakjmaa Go.Proofs.Ytoidbgedpakjmaa.Lib Go.Proofs.Ytoidbgedpakjmaa.Sha Go.Proofs.Ytoidbgedpakjmaa.T07 Go.Proofs.Ytoidbgedpakjmaa.T08 Go.Proofs.Ytoidbgedpakjmaa.Itms Go.Proofs.Ytoidbgedpakjmaa.WSeq Go.Proofs.Ytoidbgedpakjmaa.Ord Go.Proofs.Ytoidbgedpakjmaa.W08
theorem u8_inj (a b : Nat) (ha : a < 256) (hb : b < 256) (h : u8 (a : Int) = u8 (b : Int)) : a = b := by
  have h1 := u8_toNat (a : Int) (by omega)
  have h2 := u8_toNat (b : Int) (by omega)
  rw [h] at h1
  omega
theorem two_inj (a b : Nat) (ha : a < 65536) (hb : b < 65536) (h : T08.two a = T08.two b) : a = b := by
  unfold T08.two at h
  injection h with h1 h2
  injection h2 with h2 _
  have e1 := u8_inj (a / 256) (b / 256) (by omega) (by omega) h1
  have g1 := u8_toNat (a : Int) (by omega)
  have g2 := u8_toNat (b : Int) (by omega)
  rw [h2] at g1
  omega
def Sm (l : List Itm) : Prop := ∀ x ∈ l, x.1.length < 65536 ∧ x.2.length < 65536
theorem Sm.take {l : List Itm} (h : Sm l) (n : Nat) : Sm (l.take n) := fun x hx => h x (List.mem_of_mem_take hx)
theorem Sm.drop {l : List Itm} (h : Sm l) (n : Nat) : Sm (l.drop n) := fun x hx => h x (List.mem_of_mem_drop hx)
theorem form_app_inj (x y : Itm) (r s : List UInt8) (hx1 : x.1.length < 65536) (hx2 : x.2.length < 65536) (hy1 : y.1.length < 65536) (hy2 : y.2.length < 65536) (h : form x ++ r = form y ++ s) : x = y ∧ r = s := by
  unfold form at h
  simp only [List.append_assoc] at h
  obtain ⟨e1, h⟩ := List.append_inj h rfl
  have e1 := two_inj _ _ hx1 hy1 e1
  obtain ⟨e2, h⟩ := List.append_inj h e1
  obtain ⟨e3, h⟩ := List.append_inj h rfl
  have e3 := two_inj _ _ hx2 hy2 e3
  obtain ⟨e4, h⟩ := List.append_inj h e3
  exact ⟨Prod.ext e2 e4, h⟩
theorem forms_inj : ∀ (l m : List Itm), Sm l → Sm m → (l.map form).flatten = (m.map form).flatten → l = m
  | [], [], _, _, _ => rfl
  | [], y :: m, _, _, h => by
    have := congrArg List.length h
    simp only [List.map_nil, List.flatten_nil, List.map_cons, List.flatten_cons, List.length_append, List.length_nil, form_len] at this
    omega
  | x :: l, [], _, _, h => by
    have := congrArg List.length h
    simp only [List.map_nil, List.flatten_nil, List.map_cons, List.flatten_cons, List.length_append, List.length_nil, form_len] at this
    omega
  | x :: l, y :: m, hl, hm, h => by
    simp only [List.map_cons, List.flatten_cons] at h
    obtain ⟨hx1, hx2⟩ := hl x (List.mem_cons_self ..)
    obtain ⟨hy1, hy2⟩ := hm y (List.mem_cons_self ..)
    obtain ⟨rfl, h2⟩ := form_app_inj x y _ _ hx1 hx2 hy1 hy2 h
    rw [forms_inj l m (fun z hz => hl z (List.mem_cons_of_mem _ hz)) (fun z hz => hm z (List.mem_cons_of_mem _ hz)) h2]
theorem node_inj (lv lv' : Nat) (l m : List Itm) (h : nodeB lv l = nodeB lv' m) : u8 (lv : Int) = u8 (lv' : Int) ∧ (l.map form).flatten = (m.map form).flatten := by
  unfold nodeB nodeHead at h
  simp only [List.cons_append, List.nil_append, List.cons.injEq, true_and] at h
  exact ⟨h.1, h.2.2⟩
theorem node_same (lv : Nat) (l m : List Itm) (hl : Sm l) (hm : Sm m) (h : nodeB lv l = nodeB lv m) : l = m := forms_inj l m hl hm (node_inj lv lv l m h).2
theorem up_sha (lv : Nat) (l m : List Itm) (h : upS lv l = upS lv m) : sha (nodeB lv l) = sha (nodeB lv m) := by
  have h2 := congrArg Prod.snd h
  exact (List.append_inj h2 (by rw [sha_len, sha_len])).1
def NoC (A B : List (List UInt8)) : Prop := ∀ a ∈ A, ∀ b ∈ B, sha a = sha b → a = b
theorem level_inj (lv : Nat) : ∀ (k : Nat) (l m : List Itm), l.length + m.length ≤ k → Sm l → Sm m → (levelS lv l).1 = (levelS lv m).1 → NoC (levelS lv l).2 (levelS lv m).2 → l = m := by
  intro k
  induction k with
  | zero =>
    intro l m hk _ _ _ _
    have e1 : l = [] := List.eq_nil_of_length_eq_zero (by omega)
    have e2 : m = [] := List.eq_nil_of_length_eq_zero (by omega)
    rw [e1, e2]
  | succ k ih =>
    intro l m hk hl hm hu hn
    by_cases h1 : l.length = 0
    · have e1 : l = [] := List.eq_nil_of_length_eq_zero h1
      subst e1
      by_cases h2 : m.length = 0
      · rw [List.eq_nil_of_length_eq_zero h2]
      · rw [level_nil, level_cons lv m (by omega)] at hu
        cases hu
    · by_cases h2 : m.length = 0
      · have e2 : m = [] := List.eq_nil_of_length_eq_zero h2
        subst e2
        rw [level_nil, level_cons lv l (by omega)] at hu
        cases hu
      · rw [level_cons lv l (by omega), level_cons lv m (by omega)] at hu hn
        have hp := part_pos (l.map form) (by simp; omega)
        have hq := part_pos (m.map form) (by simp; omega)
        obtain ⟨p, hpE⟩ : ∃ p, p = partS (l.map form) := ⟨_, rfl⟩
        obtain ⟨q, hqE⟩ : ∃ q, q = partS (m.map form) := ⟨_, rfl⟩
        rw [← hpE, ← hqE] at hu hn
        rw [← hpE] at hp
        rw [← hqE] at hq
        injection hu with hu1 hu2
        have hs := up_sha lv _ _ hu1
        have hnode := hn _ (List.mem_cons_self ..) _ (List.mem_cons_self ..) hs
        have ht := node_same lv _ _ (hl.take p) (hm.take q) hnode
        have hd := ih (l.drop p) (m.drop q) (by simp; omega) (hl.drop p) (hm.drop q) hu2 (fun a ha b hb => hn a (List.mem_cons_of_mem _ ha) b (List.mem_cons_of_mem _ hb))
        rw [← List.take_append_drop p l, ← List.take_append_drop q m, ht, hd]
theorem level_one (lv : Nat) (l : List Itm) (h0 : 0 < l.length) (h : (levelS lv l).1.length = 1) : levelS lv l = ([upS lv l], [nodeB lv l]) := by
  have hc := level_cons lv l h0
  obtain ⟨p, hpE⟩ : ∃ p, p = partS (l.map form) := ⟨_, rfl⟩
  rw [← hpE] at hc
  rw [hc] at h
  have hd : (levelS lv (l.drop p)).1.length = 0 := by simpa using h
  have hd2 : l.drop p = [] := by
    rcases Nat.lt_or_ge 0 (l.drop p).length with h1 | h1
    · rw [level_cons lv _ h1] at hd; simp at hd
    · exact List.eq_nil_of_length_eq_zero (by omega)
  have ht : l.take p = l := by
    have := List.take_append_drop p l
    rw [hd2, List.append_nil] at this
    exact this
  rw [hc, hd2, ht, level_nil]
theorem up_take (lv : Nat) (l : List Itm) : (upS lv l).2.take 32 = sha (nodeB lv l) := by
  rw [upS]
  exact List.take_left' (sha_len _)
theorem next_leaf (lv : Nat) (l : List Itm) (h0 : 0 < l.length) (h : (levelS lv l).1.length = 1) : nextS lv l = (sha (nodeB lv l), [nodeB lv l]) := by
  rw [next_one lv l h, level_one lv l h0 h]
  show ((upS lv l).2.take 32, _) = _
  rw [up_take]
theorem level_less (lv : Nat) (l : List Itm) (h : 2 ≤ (levelS lv l).1.length) : (levelS lv l).1.length < l.length := by
  have h1 := level_len lv l
  have h2 := cut_len (l.map form)
  rw [List.length_map] at h2
  have h3 := cut_lt (l.map form) (by simp; omega)
  rw [List.length_map] at h3
  omega
theorem level_some (lv : Nat) (l : List Itm) (h : 0 < l.length) : 0 < (levelS lv l).1.length := by
  rw [level_len]; exact cut_pos _ (by simpa using h)
theorem top_node : ∀ (k lv : Nat) (l : List Itm), l.length ≤ k → 0 < l.length → ∃ (v : Nat) (X : List Itm), lv ≤ v ∧ v + 1 ≤ lv + l.length ∧ 0 < X.length ∧ (nextS lv l).1 = sha (nodeB v X) ∧ nodeB v X ∈ (nextS lv l).2 := by
  intro k
  induction k with
  | zero => intro lv l h h0; omega
  | succ k ih =>
    intro lv l h h0
    have hs := level_some lv l h0
    by_cases h1 : (levelS lv l).1.length = 1
    · rw [next_leaf lv l h0 h1]
      exact ⟨lv, l, Nat.le_refl _, by omega, h0, rfl, by simp⟩
    · have hlt := level_less lv l (by omega)
      obtain ⟨v, X, g1, g2, g3, g4, g5⟩ := ih (lv + 1) (levelS lv l).1 (by omega) hs
      rw [next_more lv l (by omega)]
      exact ⟨v, X, by omega, by omega, g3, g4, List.mem_append.2 (.inr g5)⟩
theorem level_sm (lv : Nat) : ∀ (k : Nat) (l : List Itm), l.length ≤ k → Sm l → Sm (levelS lv l).1 := by
  intro k
  induction k with
  | zero =>
    intro l h _
    rw [List.eq_nil_of_length_eq_zero (Nat.le_zero.1 h), level_nil]
    intro x hx; cases hx
  | succ k ih =>
    intro l h hl
    rcases Nat.lt_or_ge 0 l.length with h0 | h0
    · rw [level_cons lv l h0]
      have hp := part_pos (l.map form) (by simpa using h0)
      obtain ⟨p, hpE⟩ : ∃ p, p = partS (l.map form) := ⟨_, rfl⟩
      rw [← hpE] at hp ⊢
      intro x hx
      rcases List.mem_cons.1 hx with rfl | hx
      · refine ⟨?_, by simp [upS, sha_len, be]⟩
        show (lastKey (l.take p)).length < 65536
        unfold lastKey
        rw [List.getD_eq_getElem?_getD]
        cases hq : (l.take p)[(l.take p).length - 1]? with
        | none => simp
        | some y => exact (hl y (List.mem_of_mem_take (List.mem_of_getElem? hq))).1
      · exact ih (l.drop p) (by simp; omega) (hl.drop p) x hx
    · rw [List.eq_nil_of_length_eq_zero (by omega : l.length = 0), level_nil]
      intro x hx; cases hx
theorem next_inj : ∀ (k lv : Nat) (l m : List Itm), l.length + m.length ≤ k → 0 < l.length → 0 < m.length → lv + l.length ≤ 256 → lv + m.length ≤ 256 → Sm l → Sm m → (nextS lv l).1 = (nextS lv m).1 → NoC (nextS lv l).2 (nextS lv m).2 → l = m := by
  intro k
  induction k with
  | zero => intro lv l m h h0 h1; omega
  | succ k ih =>
    intro lv l m h h0 h1 hl hm sl sm hr hn
    have s1 := level_some lv l h0
    have s2 := level_some lv m h1
    by_cases c1 : (levelS lv l).1.length = 1
    · by_cases c2 : (levelS lv m).1.length = 1
      · rw [next_leaf lv l h0 c1, next_leaf lv m h1 c2] at hr hn
        exact node_same lv l m sl sm (hn _ (by simp) _ (by simp) hr)
      · have hlt := level_less lv m (by omega)
        obtain ⟨v, X, g1, g2, g3, g4, g5⟩ := top_node _ (lv + 1) (levelS lv m).1 (Nat.le_refl _) s2
        rw [next_more lv m (by omega), next_leaf lv l h0 c1] at hr hn
        have := hn (nodeB lv l) (by simp) (nodeB v X) (List.mem_append.2 (.inr g5)) (hr.trans g4)
        have := u8_inj _ _ (by omega) (by omega) (node_inj lv v l X this).1
        omega
    · have hlt := level_less lv l (by omega)
      by_cases c2 : (levelS lv m).1.length = 1
      · obtain ⟨v, X, g1, g2, g3, g4, g5⟩ := top_node _ (lv + 1) (levelS lv l).1 (Nat.le_refl _) s1
        rw [next_more lv l (by omega), next_leaf lv m h1 c2] at hr hn
        have := hn (nodeB v X) (List.mem_append.2 (.inr g5)) (nodeB lv m) (by simp) (g4.symm.trans hr)
        have := u8_inj _ _ (by omega) (by omega) (node_inj v lv X m this).1
        omega
      · have hlt2 := level_less lv m (by omega)
        rw [next_more lv l (by omega), next_more lv m (by omega)] at hr hn
        have hu := ih (lv + 1) (levelS lv l).1 (levelS lv m).1 (by omega) s1 s2 (by omega) (by omega) (level_sm lv _ l (Nat.le_refl _) sl) (level_sm lv _ m (Nat.le_refl _) sm) hr (fun a ha b hb => hn a (List.mem_append.2 (.inr ha)) b (List.mem_append.2 (.inr hb)))
        exact level_inj lv _ l m (Nat.le_refl _) sl sm hu (fun a ha b hb => hn a (List.mem_append.2 (.inl ha)) b (List.mem_append.2 (.inl hb)))
theorem empty_node (v : Nat) (X : List Itm) (h : 0 < X.length) : nodeB 0 [] ≠ nodeB v X := by
  intro e
  have := (node_inj 0 v [] X e).2
  cases X with
  | nil => simp at h
  | cons x X =>
    have := congrArg List.length this
    simp only [List.map_nil, List.flatten_nil, List.map_cons, List.flatten_cons, List.length_append, List.length_nil, form_len] at this
    omega
theorem tree_inj (l m : List Itm) (hl : l.length ≤ 256) (hm : m.length ≤ 256) (sl : Sm l) (sm : Sm m) (hr : (treeS l).1 = (treeS m).1) (hn : NoC (treeS l).2 (treeS m).2) : l = m := by
  have hE : treeS [] = (sha (nodeB 0 []), [nodeB 0 []]) := rfl
  by_cases h0 : l.length = 0
  · have e : l = [] := List.eq_nil_of_length_eq_zero h0
    subst e
    by_cases h1 : m.length = 0
    · rw [List.eq_nil_of_length_eq_zero h1]
    · obtain ⟨v, X, g1, g2, g3, g4, g5⟩ := top_node _ 0 m (Nat.le_refl _) (by omega)
      rw [hE, tree_next m h1] at hr hn
      exact absurd (hn (nodeB 0 []) (by simp) (nodeB v X) g5 (hr.trans g4)) (empty_node v X g3)
  · by_cases h1 : m.length = 0
    · have e : m = [] := List.eq_nil_of_length_eq_zero h1
      subst e
      obtain ⟨v, X, g1, g2, g3, g4, g5⟩ := top_node _ 0 l (Nat.le_refl _) (by omega)
      rw [hE, tree_next l h0] at hr hn
      exact absurd (hn (nodeB v X) g5 (nodeB 0 []) (by simp) (g4.symm.trans hr)).symm (empty_node v X g3)
    · rw [tree_next l h0, tree_next m h1] at hr hn
      exact next_inj _ 0 l m (Nat.le_refl _) (by omega) (by omega) (by omega) (by omega) sl sm hr hn
end Go.Proofs.Ytoidbgedpakjmaa.Inj
