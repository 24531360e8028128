/- Layer 7 in plain words: where items are cut. Layer 8 in plain words: items, nodes, levels, the tree of a list of pairs. Layer 8 in plain words: what counts tell. -/
import Derived.Test.YtoidbgedpakjmaaSha
set_option linter.unusedVariables false
set_option linter.unusedSimpArgs false
namespace Go.Proofs.Ytoidbgedpakjmaa.T07
open Go.Proofs.Ytoidbgedpakjmaa.Lib Go.Proofs.Ytoidbgedpakjmaa.Sha
def ends (s : List UInt8) : Bool := decide (bt (sha s) 0 < 64)
def partGo (l : List (List UInt8)) (most : Nat) : Nat → Nat → Nat
  | 0, _ => most
  | f + 1, n => if n < most then (if ends (sat l (n - 1)) = true then n else partGo l most f (n + 1)) else most
def mostOf (l : List (List UInt8)) : Nat := if l.length ≤ 16 then l.length else 16
def partS (l : List (List UInt8)) : Nat := partGo l (mostOf l) 20 2
theorem partGo_stop (l : List (List UInt8)) (most n f : Nat) (h : ¬ n < most) : partGo l most f n = most := by
  cases f with
  | zero => rfl
  | succ f => rw [partGo, if_neg h]
theorem partGo_ge (l : List (List UInt8)) (most : Nat) : ∀ f n, partGo l most f n = most ∨ (n ≤ partGo l most f n ∧ partGo l most f n < most)
  | 0, n => .inl rfl
  | f + 1, n => by
    rw [partGo]
    split
    · split
      · right; omega
      · rcases partGo_ge l most f (n + 1) with h | h
        · exact .inl h
        · exact .inr (by omega)
    · exact .inl rfl
theorem mostOf_le (l : List (List UInt8)) : mostOf l ≤ l.length ∧ mostOf l ≤ 16 := by unfold mostOf; split <;> omega
theorem mostOf_pos (l : List (List UInt8)) (h : 0 < l.length) : 0 < mostOf l := by unfold mostOf; split <;> omega
theorem part_pos (l : List (List UInt8)) (h : 0 < l.length) : 0 < partS l := by
  have := mostOf_pos l h
  rcases partGo_ge l (mostOf l) 20 2 with h1 | h1 <;> unfold partS <;> omega
theorem part_le (l : List (List UInt8)) : partS l ≤ l.length ∧ partS l ≤ 16 := by
  have := mostOf_le l
  rcases partGo_ge l (mostOf l) 20 2 with h1 | h1 <;> unfold partS <;> omega
theorem part_two (l : List (List UInt8)) (h : 2 ≤ l.length) : 2 ≤ partS l := by
  have : 2 ≤ mostOf l := by unfold mostOf; split <;> omega
  rcases partGo_ge l (mostOf l) 20 2 with h1 | h1 <;> unfold partS <;> omega
def cutGo : Nat → List (List UInt8) → List Nat
  | 0, _ => []
  | f + 1, l => if l = [] then [] else partS l :: cutGo f (l.drop (partS l))
def cutS (l : List (List UInt8)) : List Nat := cutGo l.length l
theorem cutGo_enough : ∀ (f : Nat) (l : List (List UInt8)), l.length ≤ f → cutGo f l = cutGo l.length l
  | 0, l, h => by
    have : l = [] := List.eq_nil_of_length_eq_zero (by omega)
    subst this; rfl
  | f + 1, l, h => by
    cases hl : l with
    | nil => simp [cutGo]
    | cons a t =>
      subst hl
      have hp := part_pos (a :: t) (by simp)
      have h1 : ((a :: t).drop (partS (a :: t))).length ≤ t.length := by simp only [List.length_drop, List.length_cons]; omega
      simp only [List.length_cons] at h
      rw [cutGo, if_neg (by simp), cutGo_enough f _ (by omega)]
      rw [List.length_cons, cutGo, if_neg (by simp), cutGo_enough t.length _ h1]
theorem cut_nil : cutS [] = [] := rfl
theorem cut_cons (l : List (List UInt8)) (h : 0 < l.length) : cutS l = partS l :: cutS (l.drop (partS l)) := by
  obtain ⟨n, hn⟩ : ∃ n, l.length = n + 1 := ⟨l.length - 1, by omega⟩
  have hp := part_pos l h
  have hne : l ≠ [] := by intro e; subst e; simp at h
  unfold cutS
  rw [hn, cutGo, if_neg hne, cutGo_enough n _ (by simp; omega)]
theorem cut_len_le : ∀ (k : Nat) (l : List (List UInt8)), l.length ≤ k → (cutS l).length ≤ l.length
  | 0, l, h => by
    obtain rfl : l = [] := List.eq_nil_of_length_eq_zero (by omega)
    simp [cut_nil]
  | k + 1, l, h => by
    by_cases h0 : 0 < l.length
    · have hp := part_pos l h0
      rw [cut_cons l h0, List.length_cons]
      have := cut_len_le k (l.drop (partS l)) (by simp; omega)
      simp only [List.length_drop] at this
      omega
    · obtain rfl : l = [] := List.eq_nil_of_length_eq_zero (by omega)
      simp [cut_nil]
theorem cut_len (l : List (List UInt8)) : (cutS l).length ≤ l.length := cut_len_le _ l (Nat.le_refl _)
theorem step_cut (r : List (List UInt8)) (n : Nat) (hn : n < mostOf r) (hq : n ≤ 1 ∨ partGo r (mostOf r) (21 - n) (n + 1) = partS r) :
    ((n + 1 = 16 ∨ (2 ≤ n + 1 ∧ ends (sat r n) = true) ∨ n + 1 = r.length) → partS r = n + 1) ∧
    (¬ (n + 1 = 16 ∨ (2 ≤ n + 1 ∧ ends (sat r n) = true) ∨ n + 1 = r.length) → n + 1 < mostOf r ∧ (n + 1 ≤ 1 ∨ partGo r (mostOf r) (21 - (n + 1)) (n + 1 + 1) = partS r)) := by
  have hm := mostOf_le r
  have hm2 : mostOf r = 16 ∨ mostOf r = r.length := by unfold mostOf; split <;> omega
  have hq' : 1 ≤ n → partGo r (mostOf r) (21 - n) (n + 1) = partS r := by
    intro h1
    rcases hq with h | h
    · obtain rfl : n = 1 := by omega
      rfl
    · exact h
  refine ⟨fun h => ?_, fun h => ?_⟩
  · by_cases h1 : 1 ≤ n
    · have h2 := hq' h1
      rw [show 21 - n = (20 - n) + 1 by omega, partGo] at h2
      by_cases h3 : n + 1 < mostOf r
      · rw [if_pos h3, Nat.add_sub_cancel] at h2
        by_cases h4 : ends (sat r n) = true
        · rw [if_pos h4] at h2; exact h2.symm
        · rcases h with h | h | h
          · omega
          · exact absurd h.2 h4
          · omega
      · rw [if_neg h3] at h2; omega
    · obtain rfl : n = 0 := by omega
      have h1 : mostOf r = 1 := by
        rcases h with h | h | h
        · omega
        · omega
        · unfold mostOf; split <;> omega
      unfold partS; rw [partGo_stop _ _ _ _ (by omega), h1]
  · have h3 : n + 1 < mostOf r := by rcases hm2 with h2 | h2 <;> omega
    refine ⟨h3, ?_⟩
    by_cases h1 : 1 ≤ n
    · have h2 := hq' h1
      rw [show 21 - n = (20 - n) + 1 by omega, partGo, if_pos h3, Nat.add_sub_cancel, if_neg (fun h4 => h (.inr (.inl ⟨by omega, h4⟩)))] at h2
      exact .inr (by rw [show 21 - (n + 1) = 20 - n by omega]; exact h2)
    · exact .inl (by omega)
theorem ends_true {s : List UInt8} (h : ends s = true) : bt (sha s) 0 < 64 := of_decide_eq_true h
end Go.Proofs.Ytoidbgedpakjmaa.T07
namespace Go.Proofs.Ytoidbgedpakjmaa.T08
open Go.Proofs.Ytoidbgedpakjmaa.Lib Go.Proofs.Ytoidbgedpakjmaa.Sha Go.Proofs.Ytoidbgedpakjmaa.T07
abbrev Itm := List UInt8 × List UInt8
def two (n : Nat) : List UInt8 := [u8 ((n / 256 : Nat) : Int), u8 (n : Int)]
def form (x : Itm) : List UInt8 := two x.1.length ++ x.1 ++ two x.2.length ++ x.2
theorem two_len (n : Nat) : (two n).length = 2 := rfl
theorem form_len (x : Itm) : (form x).length = x.1.length + x.2.length + 4 := by simp [form, two_len]; omega
def nodeHead (level n : Nat) : List UInt8 := [80, u8 (level : Int), u8 (n : Int)]
def nodeB (level : Nat) (l : List Itm) : List UInt8 := nodeHead level l.length ++ (l.map form).flatten
def toldGo (v : List UInt8) : Nat → Nat
  | 0 => 0
  | k + 1 => toldGo v k * 256 + (bat v (32 + k)).toNat
def told (v : List UInt8) : Nat := toldGo v 8
theorem toldGo_lt (v : List UInt8) : ∀ k, toldGo v k < 256 ^ k
  | 0 => by simp [toldGo]
  | k + 1 => by
    have := toldGo_lt v k
    have h2 := (bat v (32 + k)).toNat_lt
    rw [toldGo, Nat.pow_succ]; omega
theorem told_lt (v : List UInt8) : told v < 18446744073709551616 := toldGo_lt v 8
def countS (level : Nat) (l : List Itm) : Nat := if level = 0 then l.length else (l.map fun x => told x.2).sum % 18446744073709551616
def lastKey (l : List Itm) : List UInt8 := (l.getD (l.length - 1) ([], [])).1
def upS (level : Nat) (l : List Itm) : Itm := (lastKey l, sha (nodeB level l) ++ be (countS level l) 8)
def levelGo (level : Nat) : List Nat → List Itm → List Itm × List (List UInt8)
  | [], _ => ([], [])
  | n :: ns, l => (upS level (l.take n) :: (levelGo level ns (l.drop n)).1, nodeB level (l.take n) :: (levelGo level ns (l.drop n)).2)
def levelS (level : Nat) (l : List Itm) : List Itm × List (List UInt8) := levelGo level (cutS (l.map form)) l
theorem levelGo_len (level : Nat) : ∀ (ns : List Nat) (l : List Itm), (levelGo level ns l).1.length = ns.length ∧ (levelGo level ns l).2.length = ns.length
  | [], _ => ⟨rfl, rfl⟩
  | n :: ns, l => by
    have := levelGo_len level ns (l.drop n)
    simp only [levelGo, List.length_cons]; omega
theorem level_len (level : Nat) (l : List Itm) : (levelS level l).1.length = (cutS (l.map form)).length := (levelGo_len level _ _).1
theorem level_len2 (level : Nat) (l : List Itm) : (levelS level l).2.length = (cutS (l.map form)).length := (levelGo_len level _ _).2
theorem cut_pos (l : List (List UInt8)) (h : 0 < l.length) : 0 < (cutS l).length := by rw [cut_cons l h]; simp
theorem cut_lt (l : List (List UInt8)) (h : 2 ≤ l.length) : (cutS l).length < l.length := by
  rw [cut_cons l (by omega)]
  have h1 := part_two l h
  have h2 := (part_le l).1
  have := cut_len (l.drop (partS l))
  simp only [List.length_drop] at this
  simp only [List.length_cons]
  omega
theorem level_nil (level : Nat) : levelS level [] = ([], []) := rfl
theorem level_cons (level : Nat) (r : List Itm) (h : 0 < r.length) : levelS level r = (upS level (r.take (partS (r.map form))) :: (levelS level (r.drop (partS (r.map form)))).1, nodeB level (r.take (partS (r.map form))) :: (levelS level (r.drop (partS (r.map form)))).2) := by
  unfold levelS
  rw [cut_cons (r.map form) (by simpa using h), levelGo, List.map_drop]
/-- levels, one above the other, till one item is left -/
def riseGo : Nat → Nat → List Itm → List UInt8 × List (List UInt8)
  | 0, _, _ => ([], [])
  | f + 1, level, l => if l.length = 1 then ((l.getD 0 ([], [])).2.take 32, []) else
      ((riseGo f (level + 1) (levelS level l).1).1, (levelS level l).2 ++ (riseGo f (level + 1) (levelS level l).1).2)
def riseS (level : Nat) (l : List Itm) : List UInt8 × List (List UInt8) := riseGo l.length level l
theorem riseGo_enough : ∀ (f : Nat) (level : Nat) (l : List Itm), 0 < l.length → l.length ≤ f → riseGo f level l = riseGo l.length level l
  | 0, level, l, h, h1 => by omega
  | f + 1, level, l, h, h1 => by
    obtain ⟨n, hn⟩ : ∃ n, l.length = n + 1 := ⟨l.length - 1, by omega⟩
    by_cases h2 : l.length = 1
    · rw [hn, riseGo, if_pos h2, riseGo, if_pos h2]
    · have h3 := cut_lt (l.map form) (by simp; omega)
      have h4 := cut_pos (l.map form) (by simp; omega)
      have h5 := level_len level l
      rw [List.length_map] at h3
      rw [hn, riseGo, if_neg h2, riseGo, if_neg h2, riseGo_enough f _ _ (by omega) (by omega), riseGo_enough n _ _ (by omega) (by omega)]
theorem rise_one (level : Nat) (l : List Itm) (h : l.length = 1) : riseS level l = ((l.getD 0 ([], [])).2.take 32, []) := by
  rw [riseS, h, riseGo, if_pos h]
theorem rise_more (level : Nat) (l : List Itm) (h : 2 ≤ l.length) : riseS level l = ((riseS (level + 1) (levelS level l).1).1, (levelS level l).2 ++ (riseS (level + 1) (levelS level l).1).2) := by
  obtain ⟨n, hn⟩ : ∃ n, l.length = n + 1 := ⟨l.length - 1, by omega⟩
  have h3 := cut_lt (l.map form) (by simp; omega)
  have h4 := cut_pos (l.map form) (by simp; omega)
  have h5 := level_len level l
  rw [List.length_map] at h3
  rw [riseS, hn, riseGo, if_neg (by omega), riseGo_enough n _ _ (by omega) (by omega)]
  rfl
end Go.Proofs.Ytoidbgedpakjmaa.T08
namespace Go.Proofs.Ytoidbgedpakjmaa.T08
open Go.Proofs.Ytoidbgedpakjmaa.Lib Go.Proofs.Ytoidbgedpakjmaa.Sha Go.Proofs.Ytoidbgedpakjmaa.T07
theorem be_get (c k : Nat) (hk : k < 8) : ((be c 8).getD k 0).toNat = c / 2 ^ (8 * (7 - k)) % 256 := by
  have h1 : (be c 8).getD k 0 = u8 (((c / 2 ^ (8 * (8 - 1 - k)) : Nat)) : Int) := by
    simp [be, List.getD_eq_getElem?_getD, hk]
  rw [h1]
  have := u8_toNat (((c / 2 ^ (8 * (8 - 1 - k)) : Nat)) : Int) (Int.natCast_nonneg _)
  rw [show 8 - 1 - k = 7 - k by omega] at this ⊢
  omega
theorem toldGo_be (s : List UInt8) (c : Nat) (hs : s.length = 32) (hc : c < 18446744073709551616) : ∀ k, k ≤ 8 → toldGo (s ++ be c 8) k = c / 2 ^ (8 * (8 - k)) := by
  intro k
  induction k with
  | zero =>
    intro _
    rw [toldGo, Nat.div_eq_of_lt (by simpa using hc)]
  | succ k ih =>
    intro hk
    have hb : (bat (s ++ be c 8) (32 + k)).toNat = c / 2 ^ (8 * (7 - k)) % 256 := by
      rw [← be_get c k (by omega)]
      unfold bat
      rw [List.getD_eq_getElem?_getD, List.getD_eq_getElem?_getD, List.getElem?_append_right (by omega), hs, Nat.add_sub_cancel_left]
    rw [toldGo, ih (by omega), hb]
    have e : 8 * (8 - k) = 8 * (7 - k) + 8 := by omega
    rw [e, Nat.pow_add, ← Nat.div_div_eq_div_mul, show 8 - (k + 1) = 7 - k by omega]
    have := Nat.div_add_mod (c / 2 ^ (8 * (7 - k))) 256
    omega
theorem told_be (s : List UInt8) (c : Nat) (hs : s.length = 32) (hc : c < 18446744073709551616) : told (s ++ be c 8) = c := by
  rw [told, toldGo_be s c hs hc 8 (Nat.le_refl _)]; simp
def wt (lv : Nat) (x : Itm) : Nat := if lv = 0 then 1 else told x.2
def wts (lv : Nat) (l : List Itm) : Nat := (l.map (wt lv)).sum
theorem wts_zero (l : List Itm) : wts 0 l = l.length := by
  induction l with
  | nil => rfl
  | cons x l ih => simp only [wts, List.map_cons, List.sum_cons, List.length_cons] at ih ⊢; rw [ih]; simp [wt]; omega
theorem wts_pos (lv : Nat) (h : lv ≠ 0) (l : List Itm) : wts lv l = (l.map fun x => told x.2).sum := by
  unfold wts
  congr 1
  apply List.map_congr_left
  intro x _
  rw [wt, if_neg h]
theorem count_wts (lv : Nat) (l : List Itm) (h : wts lv l < 18446744073709551616) : countS lv l = wts lv l := by
  unfold countS
  split
  · rename_i h0; subst h0; rw [wts_zero]
  · rename_i h0; rw [wts_pos lv h0] at h ⊢; exact Nat.mod_eq_of_lt h
theorem wts_split (lv : Nat) (l : List Itm) (n : Nat) : wts lv l = wts lv (l.take n) + wts lv (l.drop n) := by
  unfold wts
  rw [← List.sum_append, ← List.map_append, List.take_append_drop]
theorem up_told (lv : Nat) (l : List Itm) (h : wts lv l < 18446744073709551616) : told (upS lv l).2 = wts lv l := by
  rw [upS, told_be _ _ (sha_len _) (by rw [count_wts lv l h]; exact h), count_wts lv l h]
theorem level_sum (lv : Nat) : ∀ (k : Nat) (l : List Itm), l.length ≤ k → wts lv l < 18446744073709551616 → ((levelS lv l).1.map fun x => told x.2).sum = wts lv l := by
  intro k
  induction k with
  | zero =>
    intro l hl _
    have e : l = [] := List.eq_nil_of_length_eq_zero (by omega)
    subst e; rfl
  | succ k ih =>
    intro l hl hw
    by_cases h0 : 0 < l.length
    · have hp := part_pos (l.map form) (by simpa using h0)
      have hs := wts_split lv l (partS (l.map form))
      rw [level_cons lv l h0]
      simp only [List.map_cons, List.sum_cons]
      rw [up_told lv _ (by omega), ih _ (by simp; omega) (by omega), ← hs]
    · have e : l = [] := List.eq_nil_of_length_eq_zero (by omega)
      subst e; rfl
theorem told_le_sum (l : List Itm) (x : Itm) (h : x ∈ l) : told x.2 ≤ (l.map fun x => told x.2).sum := by
  induction l with
  | nil => cases h
  | cons y l ih =>
    simp only [List.map_cons, List.sum_cons]
    rcases List.mem_cons.1 h with rfl | h
    · omega
    · have := ih h; omega
end Go.Proofs.Ytoidbgedpakjmaa.T08
