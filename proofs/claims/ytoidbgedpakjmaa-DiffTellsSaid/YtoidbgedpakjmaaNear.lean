/- A map with a pair more has the same leaves ahead of it; what a node's bytes are read as. What the statement on near maps meets in a tree. -/
import Derived.Test.YtoidbgedpakjmaaInj
import Derived.Test.YtoidbgedpakjmaaRis
import Derived.Test.YtoidbgedpakjmaaW08y
import Derived.Test.YtoidbgedpakjmaaT08
set_option linter.unusedVariables false
set_option linter.unusedSimpArgs false
namespace Go.Proofs.Ytoidbgedpakjmaa.Inj
open Go.Proofs.Ytoidbgedpakjmaa Go.Proofs.Ytoidbgedpakjmaa.Lib Go.Proofs.Ytoidbgedpakjmaa.Sha Go.Proofs.Ytoidbgedpakjmaa.T07 Go.Proofs.Ytoidbgedpakjmaa.T08 Go.Proofs.Ytoidbgedpakjmaa.Itms Go.Proofs.Ytoidbgedpakjmaa.WSeq Go.Proofs.Ytoidbgedpakjmaa.Ord Go.Proofs.Ytoidbgedpakjmaa.W08
/-! parts -/
theorem partGo_eq (l : List (List UInt8)) (most p : Nat) : ∀ (f n : Nat), n ≤ p → p < n + f → (∀ k, n ≤ k → k < p → ends (sat l (k - 1)) = false) → p ≤ most → (p = most ∨ ends (sat l (p - 1)) = true) → partGo l most f n = p
  | 0, n, h1, h2, _, _, _ => by omega
  | f + 1, n, h1, h2, h3, h4, h5 => by
    rw [partGo]
    by_cases hn : n < most
    · rw [if_pos hn]
      by_cases hp : n = p
      · subst hp
        rcases h5 with h5 | h5
        · omega
        · rw [if_pos h5]
      · rw [h3 n (Nat.le_refl _) (by omega)]
        exact partGo_eq l most p f (n + 1) (by omega) (by omega) (fun k hk hk2 => h3 k (by omega) hk2) h4 h5
    · rw [if_neg hn]; omega
theorem partGo_says (l : List (List UInt8)) (most : Nat) : ∀ (f n : Nat), n ≤ most → most < n + f → (∀ k, n ≤ k → k < partGo l most f n → ends (sat l (k - 1)) = false) ∧ (partGo l most f n = most ∨ (n ≤ partGo l most f n ∧ partGo l most f n < most ∧ ends (sat l (partGo l most f n - 1)) = true))
  | 0, n, h1, h2 => by omega
  | f + 1, n, h1, h2 => by
    rw [partGo]
    by_cases hn : n < most
    · rw [if_pos hn]
      cases he : ends (sat l (n - 1)) with
      | true =>
        rw [if_pos rfl]
        exact ⟨fun k hk hk2 => by omega, .inr ⟨Nat.le_refl _, hn, he⟩⟩
      | false =>
        rw [if_neg (by simp)]
        obtain ⟨g1, g2⟩ := partGo_says l most f (n + 1) (by omega) (by omega)
        refine ⟨fun k hk hk2 => ?_, ?_⟩
        · by_cases e : k = n
          · subst e; exact he
          · exact g1 k (by omega) hk2
        · rcases g2 with g2 | ⟨g2, g3, g4⟩
          · exact .inl g2
          · exact .inr ⟨by omega, g3, g4⟩
    · rw [if_neg hn]
      exact ⟨fun k hk hk2 => by omega, .inl rfl⟩
theorem part_same (l l' : List (List UInt8)) (p : Nat) (hp : partS l = p) (hlt : p < l.length) (hle : p ≤ l'.length) (hs : ∀ k, k < p → sat l' k = sat l k) : partS l' = p := by
  have h2 : 2 ≤ p := by rw [← hp]; exact part_two l (by have := part_pos l (by omega); omega)
  have hm := mostOf_le l
  have hm' := mostOf_le l'
  have hmo : mostOf l = l.length ∨ mostOf l = 16 := by unfold mostOf; split <;> omega
  have hmo' : (l'.length ≤ 16 ∧ mostOf l' = l'.length) ∨ mostOf l' = 16 := by unfold mostOf; split <;> omega
  have h2m : 2 ≤ mostOf l := by have := (part_le l).1; rcases hmo with h | h <;> omega
  obtain ⟨g1, g2⟩ := partGo_says l (mostOf l) 20 2 h2m (by omega)
  have hp' : partGo l (mostOf l) 20 2 = p := hp
  rw [hp'] at g1 g2
  unfold partS
  have hp16 : p ≤ 16 := by rw [← hp]; exact (part_le l).2
  refine partGo_eq l' (mostOf l') p 20 2 h2 (by omega) (fun k hk hk2 => by rw [hs (k - 1) (by omega)]; exact g1 k hk hk2) (by rcases hmo' with h | h <;> omega) ?_
  rcases g2 with g2 | ⟨_, _, g4⟩
  · left
    rcases hmo with h | h
    · omega
    · rcases hmo' with h' | h' <;> omega
  · right
    rw [hs (p - 1) (by omega)]; exact g4
theorem level_node (lv : Nat) : ∀ (k : Nat) (l : List Itm), l.length ≤ k → ∀ j, j < (levelS lv l).2.length → ∃ P, sat (levelS lv l).2 j = nodeB lv P ∧ itm (levelS lv l).1 j = upS lv P ∧ 0 < P.length ∧ P.length ≤ 16 ∧ P.Sublist l := by
  intro k
  induction k with
  | zero =>
    intro l h j hj
    rw [List.eq_nil_of_length_eq_zero (Nat.le_zero.1 h), level_nil] at hj
    simp at hj
  | succ k ih =>
    intro l h j hj
    rcases Nat.lt_or_ge 0 l.length with h0 | h0
    · have hp := part_pos (l.map form) (by simpa using h0)
      have hp2 := (part_le (l.map form))
      rw [level_cons lv l h0] at hj ⊢
      obtain ⟨p, hpE⟩ : ∃ p, p = partS (l.map form) := ⟨_, rfl⟩
      rw [← hpE] at hp hp2 hj ⊢
      rw [List.length_map] at hp2
      cases j with
      | zero => exact ⟨l.take p, rfl, rfl, by simp; omega, by simp; omega, List.take_sublist p l⟩
      | succ j =>
        obtain ⟨P, g1, g2, g3, g4, g5⟩ := ih (l.drop p) (by simp; omega) j (by simpa using hj)
        exact ⟨P, g1, g2, g3, g4, g5.trans (List.drop_sublist p l)⟩
    · rw [List.eq_nil_of_length_eq_zero (by omega : l.length = 0), level_nil] at hj
      simp at hj
theorem level_twin (lv : Nat) (l : List Itm) : (levelS lv l).1.length = (levelS lv l).2.length := (level_len lv l).trans (level_len2 lv l).symm
/-! what a node is read as -/
theorem two_bats (n : Nat) (h : n < 65536) (r : List UInt8) : n2 (T08.two n ++ r) = n := by
  unfold n2 T08.two bat
  have g1 := u8_toNat ((n / 256 : Nat) : Int) (by omega)
  have g2 := u8_toNat (n : Int) (by omega)
  show (u8 ((n / 256 : Nat) : Int)).toNat * 256 + (u8 (n : Int)).toNat = n
  omega
theorem field_form (a r : List UInt8) (h : a.length < 65536) : fieldS (T08.two a.length ++ (a ++ r)) = some (a, r) := by
  have hl : (T08.two a.length ++ (a ++ r)).length = a.length + r.length + 2 := by
    simp only [List.length_append, two_len]; omega
  have hd : (T08.two a.length ++ (a ++ r)).drop 2 = a ++ r := rfl
  rw [fieldS, two_bats _ h, if_neg (by omega), if_neg (by omega), hd, List.take_left' rfl, List.drop_left' rfl]
theorem go_forms (lv : Nat) : ∀ (l : List Itm) (r : List UInt8), Sm l → (∀ x ∈ l, okVal lv x.2 = true) → parseGo lv l.length ((l.map form).flatten ++ r) = some (l, r)
  | [], r, _, _ => rfl
  | x :: l, r, hs, hv => by
    obtain ⟨h1, h2⟩ := hs x (List.mem_cons_self ..)
    have e : ((x :: l).map form).flatten ++ r = T08.two x.1.length ++ (x.1 ++ (T08.two x.2.length ++ (x.2 ++ ((l.map form).flatten ++ r)))) := by
      simp [form, List.append_assoc]
    rw [e, List.length_cons, parseGo, field_form _ _ h1]
    simp only []
    rw [field_form _ _ h2]
    simp only []
    rw [if_pos (hv x (List.mem_cons_self ..)), go_forms lv l r (fun y hy => hs y (List.mem_cons_of_mem _ hy)) (fun y hy => hv y (List.mem_cons_of_mem _ hy))]
theorem parse_node (lv : Nat) (l : List Itm) (hr : rightS l = true) (hs : Sm l) (hlv : lv ≤ 32) (hn : l.length ≤ 16) (h0 : lv = 0 ∨ 0 < l.length) (hv : ∀ x ∈ l, okVal lv x.2 = true) : parseS (nodeB lv l) = some (lv, l) := by
  have e : nodeB lv l = 80 :: u8 (lv : Int) :: u8 (l.length : Int) :: (l.map form).flatten := rfl
  have g1 := u8_toNat (lv : Int) (by omega)
  have g2 := u8_toNat (l.length : Int) (by omega)
  have b1 : (bat (nodeB lv l) 1) = u8 (lv : Int) := rfl
  have b2 : (bat (nodeB lv l) 2) = u8 (l.length : Int) := rfl
  have t0 : bt (nodeB lv l) 0 = 80 := rfl
  have t1 : bt (nodeB lv l) 1 = ((u8 (lv : Int)).toNat : Int) := rfl
  have t2 : bt (nodeB lv l) 2 = ((u8 (l.length : Int)).toNat : Int) := rfl
  have hh : headOk (nodeB lv l) = true := by
    have h3 : 3 ≤ (nodeB lv l).length := by rw [e]; simp
    simp only [headOk, Bool.and_eq_true, decide_eq_true_eq]
    exact ⟨⟨⟨h3, t0⟩, by rw [t1]; omega⟩, by rw [t2]; omega⟩
  have hd : (nodeB lv l).drop 3 = (l.map form).flatten ++ [] := by rw [List.append_nil]; rfl
  have n1 : (u8 (lv : Int)).toNat = lv := by omega
  have n2 : (u8 (l.length : Int)).toNat = l.length := by omega
  rw [parseS, if_pos hh, b1, b2, n1, n2, hd, go_forms lv l [] hs hv]
  simp only []
  rw [if_pos ⟨trivial, by omega, hr⟩]
/-! what is below a key -/
def insR : List Itm → Itm → List Itm
  | [], x => [x]
  | y :: m, x => if ltS y.1 x.1 = true then y :: insR m x else if y.1 = x.1 then y :: m else x :: y :: m
theorem insR_cons (y : Itm) (m : List Itm) (x : Itm) : insR (y :: m) x = if ltS y.1 x.1 = true then y :: insR m x else if y.1 = x.1 then y :: m else x :: y :: m := rfl
theorem ins_eq : ∀ (m : List Itm) (x : Itm), insS m x = insR m x
  | [], x => rfl
  | y :: m, x => by
    have ih := ins_eq m x
    unfold insS at ih ⊢
    unfold insR
    by_cases h : ltS y.1 x.1 = true
    · have hp : placeS (y :: m) x.1 = placeS m x.1 + 1 := by rw [placeS, if_pos h]
      rw [if_pos h, hp, ← ih]
      have hi : itm (y :: m) (placeS m x.1 + 1) = itm m (placeS m x.1) := rfl
      rw [hi]
      by_cases h2 : placeS m x.1 < m.length ∧ (itm m (placeS m x.1)).1 = x.1
      · rw [if_pos h2, if_pos ⟨by simp; exact h2.1, h2.2⟩]
      · rw [if_neg h2, if_neg (fun h3 => h2 ⟨by simpa using h3.1, h3.2⟩)]
        rfl
    · have hp : placeS (y :: m) x.1 = 0 := by rw [placeS, if_neg h]
      rw [if_neg h, hp]
      have hi : itm (y :: m) 0 = y := rfl
      rw [hi]
      by_cases h2 : y.1 = x.1
      · rw [if_pos h2, if_pos ⟨by simp, h2⟩]
      · rw [if_neg h2, if_neg (fun h3 => h2 h3.2)]
        rfl
def lowK (K : List UInt8) (l : List Itm) : List Itm := l.filter fun y => ltS y.1 K
theorem low_cons (K : List UInt8) (y : Itm) (l : List Itm) : lowK K (y :: l) = if ltS y.1 K = true then y :: lowK K l else lowK K l := by
  unfold lowK
  rw [List.filter_cons]
theorem low_none (K : List UInt8) (y : Itm) (l : List Itm) (h : Up (y :: l)) (hy : ltS y.1 K = false) : lowK K l = [] := by
  unfold lowK
  rw [List.filter_eq_nil_iff]
  intro z hz hz2
  have h1 := (List.pairwise_cons.1 h).1 z hz
  rw [lt_trans _ _ _ h1 hz2] at hy
  cases hy
theorem low_ins (K : List UInt8) : ∀ (m : List Itm) (x : Itm), Up m → lowK K (insR m x) = if ltS x.1 K = true then insR (lowK K m) x else lowK K m
  | [], x, _ => by
    rw [insR, low_cons]; rfl
  | z :: m, x, h => by
    have ih := low_ins K m x (List.pairwise_cons.1 h).2
    rw [insR_cons]
    by_cases h1 : ltS z.1 x.1 = true
    · rw [if_pos h1, low_cons, ih]
      by_cases hz : ltS z.1 K = true
      · rw [if_pos hz]
        have e : lowK K (z :: m) = z :: lowK K m := by rw [low_cons, if_pos hz]
        rw [e]
        by_cases hx : ltS x.1 K = true
        · rw [if_pos hx, if_pos hx]
          rw [insR_cons, if_pos h1]
        · rw [if_neg hx, if_neg hx]
      · have hx : ¬ ltS x.1 K = true := fun hx => hz (lt_trans _ _ _ h1 hx)
        have e : lowK K (z :: m) = lowK K m := by rw [low_cons, if_neg hz]
        rw [if_neg hz, if_neg hx, if_neg hx, e]
    · rw [if_neg h1]
      by_cases h2 : z.1 = x.1
      · rw [if_pos h2]
        by_cases hx : ltS x.1 K = true
        · have hz : ltS z.1 K = true := by rw [h2]; exact hx
          have e : lowK K (z :: m) = z :: lowK K m := by rw [low_cons, if_pos hz]
          rw [if_pos hx, e]
          rw [insR_cons, if_neg h1, if_pos h2]
        · rw [if_neg hx]
      · rw [if_neg h2, low_cons]
        by_cases hx : ltS x.1 K = true
        · rw [if_pos hx, if_pos hx]
          by_cases hz : ltS z.1 K = true
          · have e : lowK K (z :: m) = z :: lowK K m := by rw [low_cons, if_pos hz]
            rw [e]
            rw [insR_cons, if_neg h1, if_neg h2]
          · have e : lowK K (z :: m) = [] := by
              rw [low_cons, if_neg hz]
              exact low_none K z m h (by simpa using hz)
            rw [e]
            try rfl
        · rw [if_neg hx, if_neg hx]
theorem low_fold (K : List UInt8) : ∀ (l m m' : List Itm), Up m → Up m' → lowK K m = lowK K m' → lowK K (l.foldl insS m) = lowK K (l.foldl insS m')
  | [], m, m', _, _, h => h
  | x :: l, m, m', h1, h2, h => by
    refine low_fold K l _ _ (ins_up m x h1) (ins_up m' x h2) ?_
    rw [ins_eq, ins_eq, low_ins K m x h1, low_ins K m' x h2, h]
theorem low_more (l : List Itm) (x : Itm) : lowK x.1 (risingS (x :: l)) = lowK x.1 (risingS l) := by
  refine low_fold x.1 l (insS [] x) [] (ins_up [] x List.Pairwise.nil) List.Pairwise.nil ?_
  rw [ins_eq, insR, low_cons, if_neg (by rw [lt_irrefl]; decide)]
theorem low_front (K : List UInt8) : ∀ (l : List Itm), Up l → ∃ r, l = lowK K l ++ r
  | [], _ => ⟨[], rfl⟩
  | z :: l, h => by
    by_cases hz : ltS z.1 K = true
    · obtain ⟨r, hr⟩ := low_front K l (List.pairwise_cons.1 h).2
      rw [low_cons, if_pos hz]
      exact ⟨r, by rw [List.cons_append, ← hr]⟩
    · rw [low_cons, if_neg hz, low_none K z l h (by simpa using hz)]
      exact ⟨z :: l, rfl⟩
theorem low_all (K : List UInt8) (l : List Itm) (h : Up l) (h0 : 0 < l.length) (hk : ltS (lastKey l) K = true) : lowK K l = l := by
  unfold lowK
  rw [List.filter_eq_self]
  intro y hy
  rcases List.eq_nil_or_concat l with rfl | ⟨q, z, rfl⟩
  · simp at h0
  · rw [List.concat_eq_append] at h hy hk
    have hl : lastKey (q ++ [z]) = z.1 := by
      unfold lastKey
      rw [List.getD_eq_getElem?_getD]
      simp
    rw [hl] at hk
    rcases List.mem_append.1 hy with hy | hy
    · exact lt_trans _ _ _ ((List.pairwise_append.1 h).2.2 y hy z (by simp)) hk
    · obtain rfl : y = z := by simpa using hy
      exact hk
theorem Up.take {l : List Itm} (h : Up l) (n : Nat) : Up (l.take n) := List.Pairwise.sublist (List.take_sublist n l) h
theorem Up.drop {l : List Itm} (h : Up l) (n : Nat) : Up (l.drop n) := List.Pairwise.sublist (List.drop_sublist n l) h
theorem low_app (K : List UInt8) (a b : List Itm) : lowK K (a ++ b) = lowK K a ++ lowK K b := List.filter_append ..
theorem near_go (K : List UInt8) : ∀ (i : Nat) (l l' : List Itm), Up l → Up l' → lowK K l = lowK K l' → i + 1 < (levelS 0 l).2.length → (∀ j, j ≤ i → ltS (itm (levelS 0 l).1 j).1 K = true) → sat (levelS 0 l).2 i ∈ (levelS 0 l').2 := by
  intro i
  induction i with
  | zero =>
    intro l l' hl hl' hlow hi hk
    have h0 : 0 < l.length := by
      rcases Nat.lt_or_ge 0 l.length with h | h
      · exact h
      · rw [List.eq_nil_of_length_eq_zero (by omega : l.length = 0), level_nil] at hi; simp at hi
    have hp := part_pos (l.map form) (by simpa using h0)
    have hp2 := (part_le (l.map form)).1
    rw [List.length_map] at hp2
    have hps : partS (l.map form) = partS (l.map form) := rfl
    rw [level_cons 0 l h0] at hi hk ⊢
    obtain ⟨p, hpE⟩ : ∃ p, p = partS (l.map form) := ⟨_, rfl⟩
    rw [← hpE] at hp hp2 hi hk ⊢
    have hplt : p < l.length := by
      rcases Nat.lt_or_ge p l.length with h | h
      · exact h
      · rw [List.drop_of_length_le h, level_nil] at hi; simp at hi
    have hlk : ltS (lastKey (l.take p)) K = true := hk 0 (Nat.le_refl _)
    have hlt := low_all K (l.take p) (Up.take hl p) (by simp; omega) hlk
    have hlw : lowK K l = l.take p ++ lowK K (l.drop p) := by
      conv => lhs; rw [← List.take_append_drop p l]
      rw [low_app, hlt]
    obtain ⟨r, hr⟩ := low_front K l' hl'
    rw [← hlow, hlw, List.append_assoc] at hr
    have htk : l'.take p = l.take p := by
      rw [hr]
      exact List.take_left' (by simp; omega)
    have hle : p ≤ l'.length := by
      have := congrArg List.length htk
      simp at this; omega
    have hsame := part_same (l.map form) (l'.map form) p hpE.symm (by simpa using hplt) (by simpa using hle) (fun k hk => by
      have e : (l'.map form).take p = (l.map form).take p := by rw [← List.map_take, ← List.map_take, htk]
      have e2 := congrArg (fun t => sat t k) e
      simp only [sat, List.getD_eq_getElem?_getD, List.getElem?_take, if_pos hk] at e2
      simpa [sat, List.getD_eq_getElem?_getD] using e2)
    rw [level_cons 0 l' (by omega), hsame, htk]
    exact List.mem_cons_self ..
  | succ i ih =>
    intro l l' hl hl' hlow hi hk
    have h0 : 0 < l.length := by
      rcases Nat.lt_or_ge 0 l.length with h | h
      · exact h
      · rw [List.eq_nil_of_length_eq_zero (by omega : l.length = 0), level_nil] at hi; simp at hi
    have hp := part_pos (l.map form) (by simpa using h0)
    have hp2 := (part_le (l.map form)).1
    rw [List.length_map] at hp2
    rw [level_cons 0 l h0] at hi hk ⊢
    obtain ⟨p, hpE⟩ : ∃ p, p = partS (l.map form) := ⟨_, rfl⟩
    rw [← hpE] at hp hp2 hi hk ⊢
    have hplt : p < l.length := by
      rcases Nat.lt_or_ge p l.length with h | h
      · exact h
      · rw [List.drop_of_length_le h, level_nil] at hi; simp at hi
    have hlk : ltS (lastKey (l.take p)) K = true := hk 0 (Nat.zero_le _)
    have hlt := low_all K (l.take p) (Up.take hl p) (by simp; omega) hlk
    have hlw : lowK K l = l.take p ++ lowK K (l.drop p) := by
      conv => lhs; rw [← List.take_append_drop p l]
      rw [low_app, hlt]
    obtain ⟨r, hr⟩ := low_front K l' hl'
    rw [← hlow, hlw, List.append_assoc] at hr
    have htk : l'.take p = l.take p := by
      rw [hr]
      exact List.take_left' (by simp; omega)
    have hle : p ≤ l'.length := by
      have := congrArg List.length htk
      simp at this; omega
    have hsame := part_same (l.map form) (l'.map form) p hpE.symm (by simpa using hplt) (by simpa using hle) (fun k hk => by
      have e : (l'.map form).take p = (l.map form).take p := by rw [← List.map_take, ← List.map_take, htk]
      have e2 := congrArg (fun t => sat t k) e
      simp only [sat, List.getD_eq_getElem?_getD, List.getElem?_take, if_pos hk] at e2
      simpa [sat, List.getD_eq_getElem?_getD] using e2)
    have hlw' : lowK K l' = l.take p ++ lowK K (l'.drop p) := by
      conv => lhs; rw [← List.take_append_drop p l']
      rw [low_app, htk, hlt]
    have hrest : lowK K (l.drop p) = lowK K (l'.drop p) := by
      rw [hlow, hlw'] at hlw
      exact (List.append_cancel_left hlw).symm
    have := ih (l.drop p) (l'.drop p) (Up.drop hl p) (Up.drop hl' p) hrest (by simpa using hi) (fun j hj => hk (j + 1) (by omega))
    rw [level_cons 0 l' (by omega), hsame]
    exact List.mem_cons_of_mem _ this
end Go.Proofs.Ytoidbgedpakjmaa.Inj
namespace Go.Proofs.Ytoidbgedpakjmaa.Inj
open Go.Proofs.Ytoidbgedpakjmaa Go.Proofs.Ytoidbgedpakjmaa.Lib Go.Proofs.Ytoidbgedpakjmaa.Sha Go.Proofs.Ytoidbgedpakjmaa.T07 Go.Proofs.Ytoidbgedpakjmaa.T08 Go.Proofs.Ytoidbgedpakjmaa.Itms Go.Proofs.Ytoidbgedpakjmaa.WSeq Go.Proofs.Ytoidbgedpakjmaa.Ord Go.Proofs.Ytoidbgedpakjmaa.W08
def Shrt (l : List Itm) : Prop := ∀ x ∈ l, x.1.length ≤ 2000 ∧ x.2.length ≤ 8000
theorem shrt_right (l : List Itm) (hu : Up l) (hs : Shrt l) : rightS l = true := by
  have h1 := (okS_iff _).2 hu
  have h2 : l.any badS = false := by
    rw [List.any_eq_false]
    intro x hx
    have := hs x hx
    simp [badS]; omega
  rw [rightS, h1, h2]; rfl
theorem shrt_sm (l : List Itm) (hs : Shrt l) : Sm l := fun x hx => by have := hs x hx; omega
theorem last_in (l : List Itm) (h : 0 < l.length) : ∃ y ∈ l, lastKey l = y.1 := by
  refine ⟨l[l.length - 1], List.getElem_mem _, ?_⟩
  unfold lastKey
  rw [List.getD_eq_getElem?_getD, List.getElem?_eq_getElem (by omega)]; rfl
/-- the level above rises, too, and is short -/
theorem level_up (lv : Nat) : ∀ (k : Nat) (l : List Itm), l.length ≤ k → Up l → Shrt l → Up (levelS lv l).1 ∧ Shrt (levelS lv l).1 ∧ ∀ u ∈ (levelS lv l).1, ∃ y ∈ l, u.1 = y.1 := by
  intro k
  induction k with
  | zero =>
    intro l h _ _
    rw [List.eq_nil_of_length_eq_zero (Nat.le_zero.1 h), level_nil]
    exact ⟨List.Pairwise.nil, fun x hx => (by cases hx), fun x hx => (by cases hx)⟩
  | succ k ih =>
    intro l h hu hs
    rcases Nat.lt_or_ge 0 l.length with h0 | h0
    · rw [level_cons lv l h0]
      have hp := part_pos (l.map form) (by simpa using h0)
      have hp2 := (part_le (l.map form)).1
      rw [List.length_map] at hp2
      obtain ⟨p, hpE⟩ : ∃ p, p = partS (l.map form) := ⟨_, rfl⟩
      rw [← hpE] at hp hp2 ⊢
      obtain ⟨g1, g2, g3⟩ := ih (l.drop p) (by simp; omega) (Up.drop hu p) (fun x hx => hs x (List.mem_of_mem_drop hx))
      obtain ⟨y, hy, hk⟩ := last_in (l.take p) (by simp; omega)
      have hcross : ∀ a ∈ l.take p, ∀ b ∈ l.drop p, ltS a.1 b.1 = true := by
        have h' : Up (l.take p ++ l.drop p) := by rw [List.take_append_drop]; exact hu
        exact (List.pairwise_append.1 h').2.2
      refine ⟨List.pairwise_cons.2 ⟨fun u hu2 => ?_, g1⟩, fun u hu2 => ?_, fun u hu2 => ?_⟩
      · obtain ⟨z, hz, e⟩ := g3 u hu2
        show ltS (lastKey (l.take p)) u.1 = true
        rw [hk, e]
        exact hcross y hy z hz
      · rcases List.mem_cons.1 hu2 with rfl | hu2
        · refine ⟨?_, by simp [upS, sha_len, be]⟩
          show (lastKey (l.take p)).length ≤ 2000
          rw [hk]
          exact (hs y (List.mem_of_mem_take hy)).1
        · exact g2 u hu2
      · rcases List.mem_cons.1 hu2 with rfl | hu2
        · exact ⟨y, List.mem_of_mem_take hy, hk⟩
        · obtain ⟨z, hz, e⟩ := g3 u hu2
          exact ⟨z, List.mem_of_mem_drop hz, e⟩
    · rw [List.eq_nil_of_length_eq_zero (by omega : l.length = 0), level_nil]
      exact ⟨List.Pairwise.nil, fun x hx => (by cases hx), fun x hx => (by cases hx)⟩
theorem up_val (l : List Itm) (hp : 0 < l.length) (hn : l.length ≤ 1000000) : okVal 1 (upS 0 l).2 = true := by
  have h1 : (upS 0 l).2.length = 40 := by simp [upS, sha_len, be]
  have h2 : told (upS 0 l).2 = l.length := by
    show told (sha (nodeB 0 l) ++ be (countS 0 l) 8) = _
    rw [told_be _ _ (sha_len _) (by unfold countS; rw [if_pos rfl]; omega)]
    rfl
  simp only [okVal, h1, h2]
  simp; omega
theorem level_vals : ∀ (k : Nat) (l : List Itm), l.length ≤ k → l.length ≤ 1000000 → ∀ x ∈ (levelS 0 l).1, okVal 1 x.2 = true := by
  intro k
  induction k with
  | zero =>
    intro l h _ x hx
    rw [List.eq_nil_of_length_eq_zero (Nat.le_zero.1 h), level_nil] at hx
    cases hx
  | succ k ih =>
    intro l h hm x hx
    rcases Nat.lt_or_ge 0 l.length with h0 | h0
    · rw [level_cons 0 l h0] at hx
      have hp := part_pos (l.map form) (by simpa using h0)
      obtain ⟨p, hpE⟩ : ∃ p, p = partS (l.map form) := ⟨_, rfl⟩
      rw [← hpE] at hp hx
      rcases List.mem_cons.1 hx with rfl | hx
      · exact up_val _ (by simp; omega) (by simp; omega)
      · exact ih (l.drop p) (by simp; omega) (by simp; omega) x hx
    · rw [List.eq_nil_of_length_eq_zero (by omega : l.length = 0), level_nil] at hx
      cases hx
/-- what the statement meets: t leaves, each read as such, and behind them one that ends the run -/
structure NearI (a b : List (List UInt8)) (K : List UInt8) (t : Nat) (lk : Nat → List UInt8) : Prop where
  le : t ≤ a.length
  leaf : ∀ j, j < t → ∃ P, parseS (sat a j) = some (0, P) ∧ 0 < P.length ∧ P.length ≤ 16 ∧ (itm P (P.length - 1)).1 = lk j
  stop : t < a.length → ∃ lv P, parseS (sat a t) = some (lv, P) ∧ (0 < lv ∨ P.length = 0) ∧ (0 < t → 0 < lv) ∧ P.length ≤ 16
  near : ∀ k, k + 1 < t → (∀ j, j ≤ k → ltS (lk j) K = true) → sat a k ∈ b
theorem sat_left (a b : List (List UInt8)) (i : Nat) (h : i < a.length) : sat (a ++ b) i = sat a i := by
  simp [sat, List.getD_eq_getElem?_getD, List.getElem?_append_left h]
theorem sat_right (a b : List (List UInt8)) (i : Nat) : sat (a ++ b) (a.length + i) = sat b i := by
  simp [sat, List.getD_eq_getElem?_getD, List.getElem?_append_right (show a.length ≤ a.length + i by omega)]
theorem near_info (m n : List Itm) (K : List UInt8) (hm : Up m) (hn : Up n) (sm : Shrt m) (hlow : lowK K m = lowK K n) (hlen : m.length ≤ 1000) : ∃ t lk, NearI (treeS m).2 (treeS n).2 K t lk := by
  by_cases h0 : m.length = 0
  · have e : m = [] := List.eq_nil_of_length_eq_zero h0
    subst e
    refine ⟨0, fun _ => [], by simp, fun j hj => by omega, fun _ => ⟨0, [], ?_, .inr rfl, fun h => by omega, by simp⟩, fun k hk => by omega⟩
    show parseS (nodeB 0 []) = _
    decide
  · obtain ⟨u1, u2, u3⟩ := level_up 0 _ m (Nat.le_refl _) hm sm
    have uv := level_vals _ m (Nat.le_refl _) (by omega)
    have htw := level_twin 0 m
    have hsome := level_some 0 m (by omega)
    have hN : ∀ l : List Itm, l.length ≠ 0 → (treeS l).2 = (levelS 0 l).2 ++ (riseS 1 (levelS 0 l).1).2 := fun l hl => by rw [treeS, if_neg hl]
    have hleaf : ∀ j, j < (levelS 0 m).2.length → ∃ P, parseS (sat (levelS 0 m).2 j) = some (0, P) ∧ 0 < P.length ∧ P.length ≤ 16 ∧ (itm P (P.length - 1)).1 = (itm (levelS 0 m).1 j).1 := by
      intro j hj
      obtain ⟨P, g1, g2, g3, g4, g5⟩ := level_node 0 _ m (Nat.le_refl _) j hj
      have hs : Shrt P := fun x hx => sm x (g5.subset hx)
      refine ⟨P, ?_, g3, g4, ?_⟩
      · rw [g1]
        exact parse_node 0 P (shrt_right P (List.Pairwise.sublist g5 hm) hs) (shrt_sm P hs) (by omega) g4 (.inl rfl) (fun x _ => rfl)
      · rw [g2]; rfl
    have hnear : ∀ k, k + 1 < (levelS 0 m).2.length → (∀ j, j ≤ k → ltS (itm (levelS 0 m).1 j).1 K = true) → sat (levelS 0 m).2 k ∈ (treeS n).2 := by
      intro k hk hj
      have hmem := near_go K k m n hm hn hlow hk hj
      have hn0 : n.length ≠ 0 := by
        intro e
        rw [List.eq_nil_of_length_eq_zero e, level_nil] at hmem
        cases hmem
      rw [hN n hn0]
      exact List.mem_append.2 (.inl hmem)
    refine ⟨(levelS 0 m).2.length, fun j => (itm (levelS 0 m).1 j).1, ?_⟩
    rw [hN m h0]
    refine ⟨by simp, fun j hj => ?_, fun ht => ?_, fun k hk hj => ?_⟩
    · rw [sat_left _ _ _ hj]; exact hleaf j hj
    · have h1 : (levelS 0 m).1.length ≠ 1 := by
        intro e
        rw [rise_one 1 _ e] at ht
        simp at ht
      have hr := rise_more 1 (levelS 0 m).1 (by omega)
      have hs1 := level_some 1 (levelS 0 m).1 hsome
      have htw1 := level_twin 1 (levelS 0 m).1
      obtain ⟨P, g1, g2, g3, g4, g5⟩ := level_node 1 _ (levelS 0 m).1 (Nat.le_refl _) 0 (by omega)
      have hs : Shrt P := fun x hx => u2 x (g5.subset hx)
      have e : sat ((levelS 0 m).2 ++ (riseS 1 (levelS 0 m).1).2) (levelS 0 m).2.length = sat (levelS 1 (levelS 0 m).1).2 0 := by
        have := sat_right (levelS 0 m).2 (riseS 1 (levelS 0 m).1).2 0
        rw [Nat.add_zero] at this
        rw [this, hr, sat_left _ _ _ (by omega)]
      rw [e, g1]
      exact ⟨1, P, parse_node 1 P (shrt_right P (List.Pairwise.sublist g5 u1) hs) (shrt_sm P hs) (by omega) g4 (.inr g3) (fun x hx => uv x (g5.subset hx)), .inl (by omega), fun _ => by omega, g4⟩
    · rw [sat_left _ _ _ (by omega)]
      exact hnear k hk hj
end Go.Proofs.Ytoidbgedpakjmaa.Inj
