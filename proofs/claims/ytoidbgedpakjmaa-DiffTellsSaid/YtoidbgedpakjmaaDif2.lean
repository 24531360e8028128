/- Layer 10 in plain words: two lists key by key, where they differ; of two that strictly rise just the values at each key matter. Layer 10 in plain words: leaves that both sides have may be left out. -/
import Derived.Test.YtoidbgedpakjmaaJoincS
import Derived.Test.YtoidbgedpakjmaaRis
set_option linter.unusedVariables false
set_option linter.unusedSimpArgs false
namespace Go.Proofs.Ytoidbgedpakjmaa.Dif
open Go.Proofs.Ytoidbgedpakjmaa.Lib Go.Proofs.Ytoidbgedpakjmaa.Itms Go.Proofs.Ytoidbgedpakjmaa.T08 Go.Proofs.Ytoidbgedpakjmaa.WSeq Go.Proofs.Ytoidbgedpakjmaa.Ord Go.Proofs.Ytoidbgedpakjmaa.JoinS Go.Proofs.Ytoidbgedpakjmaa.W08
def lft (x : Itm) : Bo := (x.1, x.2, [], true, false)
def bth (x y : Itm) : Bo := (x.1, x.2, y.2, true, true)
/-- key by key, by both lists' heads -/
def mergeS : List Itm → List Itm → List Bo
  | [], b => b.map rgt
  | x :: a, [] => (x :: a).map lft
  | x :: a, y :: b => if ltS y.1 x.1 = true then rgt y :: mergeS (x :: a) b else if y.1 = x.1 then bth x y :: mergeS a b else lft x :: mergeS a (y :: b)
termination_by a b => a.length + b.length
theorem merge_nil (b : List Itm) : mergeS [] b = b.map rgt := by rw [mergeS]
theorem merge_end (a : List Itm) : mergeS a [] = a.map lft := by
  cases a with
  | nil => rw [mergeS]; rfl
  | cons x a => rw [mergeS]
theorem merge_cons (x y : Itm) (a b : List Itm) : mergeS (x :: a) (y :: b) = if ltS y.1 x.1 = true then rgt y :: mergeS (x :: a) b else if y.1 = x.1 then bth x y :: mergeS a b else lft x :: mergeS a (y :: b) := by rw [mergeS]
/-- the other way round -/
def swp (z : Bo) : Bo := (z.1, z.2.2.1, z.2.1, z.2.2.2.2, z.2.2.2.1)
theorem lt_anti {x y : List UInt8} (h : ltS x y = true) : ltS y x = false := by
  cases hq : ltS y x with
  | false => rfl
  | true => have := lt_trans x y x h hq; rw [lt_irrefl] at this; cases this
theorem merge_swap : ∀ (n : Nat) (a b : List Itm), a.length + b.length ≤ n → (mergeS a b).map swp = mergeS b a := by
  intro n
  induction n with
  | zero =>
    intro a b h
    obtain rfl : a = [] := List.eq_nil_of_length_eq_zero (by omega)
    obtain rfl : b = [] := List.eq_nil_of_length_eq_zero (by omega)
    rw [merge_nil]; rfl
  | succ n ih =>
    intro a b h
    cases a with
    | nil => rw [merge_nil, merge_end, List.map_map]; rfl
    | cons x a =>
      cases b with
      | nil => rw [merge_end, merge_nil, List.map_map]; rfl
      | cons y b =>
        rw [merge_cons, merge_cons]
        simp only [List.length_cons] at h
        by_cases h1 : ltS y.1 x.1 = true
        · have h2 := lt_anti h1
          have h3 : x.1 ≠ y.1 := fun e => by rw [e, lt_irrefl] at h1; cases h1
          rw [if_pos h1, if_neg (by rw [h2]; decide), if_neg h3, List.map_cons, ih (x :: a) b (by simp only [List.length_cons]; omega)]; rfl
        · rw [if_neg h1]
          by_cases h2 : y.1 = x.1
          · rw [if_pos h2, if_neg (by rw [h2, lt_irrefl]; decide), if_pos h2.symm, List.map_cons, ih a b (by omega)]
            show swp (bth x y) :: _ = bth y x :: _
            unfold swp bth; rw [h2]
          · have h3 : ltS x.1 y.1 = true := lt_total y.1 x.1 (by simpa using h1) h2
            rw [if_neg h2, if_pos h3, List.map_cons, ih a (y :: b) (by simp only [List.length_cons]; omega)]; rfl
theorem drop_at (b : List Itm) (j : Nat) (h : j < b.length) : b.drop j = itm b j :: b.drop (j + 1) := by
  rw [List.drop_eq_getElem_cons h, itm_eq b j h]
theorem low_merge (b : List Itm) (x : Itm) (a : List Itm) (m : Nat) : ∀ (out : List Bo) (j : Nat), b.length - j = m → (jlow b x.1 out j).1 ++ mergeS (x :: a) (b.drop (jlow b x.1 out j).2) = out ++ mergeS (x :: a) (b.drop j) ∧ ((jlow b x.1 out j).2 < b.length → ltS (itm b (jlow b x.1 out j).2).1 x.1 = false) := by
  induction m with
  | zero =>
    intro out j h
    rw [jlow, if_neg (by omega)]
    exact ⟨rfl, fun h2 => by dsimp only at h2; omega⟩
  | succ m ih =>
    intro out j h
    rw [jlow, if_pos (by omega)]
    by_cases h1 : ltS (itm b j).1 x.1 = true
    · rw [if_pos h1]
      obtain ⟨i1, i2⟩ := ih (out ++ [rgt (itm b j)]) (j + 1) (by omega)
      refine ⟨?_, i2⟩
      rw [i1, drop_at b j (by omega), merge_cons, if_pos h1, List.append_assoc]; rfl
    · rw [if_neg h1]
      exact ⟨rfl, fun _ => by simpa using h1⟩
theorem fold_merge (b : List Itm) : ∀ (a : List Itm) (out : List Bo) (j : Nat), (a.foldl (stepJ b) (out, j)).1 ++ (b.drop (a.foldl (stepJ b) (out, j)).2).map rgt = out ++ mergeS a (b.drop j)
  | [], out, j => by rw [merge_nil]; rfl
  | x :: a, out, j => by
    obtain ⟨h1, h2⟩ := low_merge b x a _ out j rfl
    obtain ⟨r, hr⟩ : ∃ r, r = jlow b x.1 out j := ⟨_, rfl⟩
    rw [← hr] at h1 h2
    have hs : stepJ b (out, j) x = if r.2 < b.length ∧ (itm b r.2).1 = x.1 then (r.1 ++ [(x.1, x.2, (itm b r.2).2, true, true)], r.2 + 1) else (r.1 ++ [(x.1, x.2, [], true, false)], r.2) := by rw [hr]; rfl
    rw [List.foldl_cons, hs, ← h1]
    by_cases hc : r.2 < b.length ∧ (itm b r.2).1 = x.1
    · rw [if_pos hc, fold_merge b a, drop_at b r.2 hc.1, merge_cons, if_neg (by rw [hc.2, lt_irrefl]; decide), if_pos hc.2, List.append_assoc]; rfl
    · rw [if_neg hc, fold_merge b a, List.append_assoc]
      by_cases hl : r.2 < b.length
      · have hne : (itm b r.2).1 ≠ x.1 := fun e => hc ⟨hl, e⟩
        rw [drop_at b r.2 hl, merge_cons, if_neg (by rw [h2 hl]; decide), if_neg hne]; rfl
      · rw [List.drop_of_length_le (by omega), merge_end, merge_end]; rfl
/-- seq.Joined is that. -/
theorem join_merge (a b : List Itm) : joinP a b = mergeS a b := by
  have := fold_merge b a [] 0
  rw [List.nil_append, List.drop_zero] at this
  exact this
/-- is there a change? -/
def chgS (z : Bo) : Bool := (z.2.2.2.1 != z.2.2.2.2) || (z.2.1 != z.2.2.1)
def diffS (a b : List Itm) : List Bo := (mergeS a b).filter chgS
theorem chg_swp (z : Bo) : chgS (swp z) = chgS z := by
  unfold chgS swp
  dsimp only
  rw [bne_comm (a := z.2.2.2.2), bne_comm (a := z.2.2.1)]
theorem diff_swap (a b : List Itm) : (diffS a b).map swp = diffS b a := by
  unfold diffS
  rw [← merge_swap _ a b (Nat.le_refl _), List.filter_map]
  congr 1
  refine List.filter_congr fun z _ => ?_
  exact (chg_swp z).symm
theorem merge_len : ∀ (n : Nat) (a b : List Itm), a.length + b.length ≤ n → (mergeS a b).length ≤ a.length + b.length := by
  intro n
  induction n with
  | zero =>
    intro a b h
    obtain rfl : a = [] := List.eq_nil_of_length_eq_zero (by omega)
    obtain rfl : b = [] := List.eq_nil_of_length_eq_zero (by omega)
    rw [merge_nil]; exact Nat.le_refl _
  | succ n ih =>
    intro a b h
    cases a with
    | nil => rw [merge_nil]; simp
    | cons x a =>
      cases b with
      | nil => rw [merge_end]; simp
      | cons y b =>
        rw [merge_cons]
        simp only [List.length_cons] at h
        have i1 := ih (x :: a) b (by simp only [List.length_cons]; omega)
        have i2 := ih a b (by omega)
        have i3 := ih a (y :: b) (by simp only [List.length_cons]; omega)
        simp only [List.length_cons] at i1 i3 ⊢
        split
        · simp only [List.length_cons]; omega
        · split <;> simp only [List.length_cons] <;> omega
/-- what a list has at a key -/
def atK (m : List Itm) (k : List UInt8) : Option (List UInt8) := (m.find? fun x => x.1 == k).map (·.2)
theorem atK_nil (k : List UInt8) : atK [] k = none := rfl
theorem atK_cons (x : Itm) (m : List Itm) (k : List UInt8) : atK (x :: m) k = if x.1 = k then some x.2 else atK m k := by
  unfold atK
  by_cases e : x.1 = k
  · rw [if_pos e, List.find?_cons_of_pos (by simpa using e)]; rfl
  · rw [if_neg e, List.find?_cons_of_neg (by simpa using e)]
theorem atK_none {m : List Itm} {k : List UInt8} (h : ∀ x ∈ m, x.1 ≠ k) : atK m k = none := by
  unfold atK; rw [List.find?_eq_none.2 (fun x hx => by simpa using h x hx)]; rfl
/-- at a key, by what both have there -/
def zf (k : List UInt8) (p q : Option (List UInt8)) : Bo := (k, p.getD [], q.getD [], p.isSome, q.isSome)
theorem up_tail {x : Itm} {a : List Itm} (h : Up (x :: a)) : Up a ∧ ∀ y ∈ a, ltS x.1 y.1 = true := ⟨(List.pairwise_cons.1 h).2, (List.pairwise_cons.1 h).1⟩
theorem ne_of_lt {x y : List UInt8} (h : ltS x y = true) : y ≠ x := fun e => by rw [e, lt_irrefl] at h; cases h
/-- What a merge of two that rise is: its keys rise, each tells what both have there, and each key that one has is there; all keys are above what both heads are above. -/
theorem merge_says : ∀ (n : Nat) (a b : List Itm), a.length + b.length ≤ n → Up a → Up b →
    ((mergeS a b).Pairwise fun z z' => ltS z.1 z'.1 = true) ∧ (∀ z ∈ mergeS a b, z = zf z.1 (atK a z.1) (atK b z.1)) ∧ (∀ k, (atK a k).isSome = true ∨ (atK b k).isSome = true → ∃ z ∈ mergeS a b, z.1 = k) ∧ ∀ t : List UInt8, (∀ x ∈ a, ltS t x.1 = true) → (∀ y ∈ b, ltS t y.1 = true) → ∀ z ∈ mergeS a b, ltS t z.1 = true := by
  intro n
  induction n with
  | zero =>
    intro a b h _ _
    obtain rfl : a = [] := List.eq_nil_of_length_eq_zero (by omega)
    obtain rfl : b = [] := List.eq_nil_of_length_eq_zero (by omega)
    rw [merge_nil]
    exact ⟨by simp, by simp, by simp [atK_nil], by simp⟩
  | succ n ih =>
    intro a b h ha hb
    cases a with
    | nil =>
      cases b with
      | nil =>
        rw [merge_nil]
        exact ⟨by simp, by simp, by simp [atK_nil], by simp⟩
      | cons y b =>
        obtain ⟨hb1, hb2⟩ := up_tail hb
        obtain ⟨i1, i2, i3, i4⟩ := ih [] b (by simp only [List.length_cons, List.length_nil] at h ⊢; omega) ha hb1
        have e : mergeS [] (y :: b) = rgt y :: mergeS [] b := by rw [merge_nil, merge_nil]; rfl
        rw [e]
        have hlow := i4 y.1 (fun x hx => by cases hx) hb2
        refine ⟨List.pairwise_cons.2 ⟨hlow, i1⟩, fun z hz => ?_, fun k hk => ?_, fun t _ h2 z hz => ?_⟩
        · rcases List.mem_cons.1 hz with e | hz
          · rw [e]; show rgt y = zf y.1 (atK [] y.1) (atK (y :: b) y.1)
            rw [atK_nil, atK_cons, if_pos rfl]; rfl
          · have := i2 z hz
            rw [atK_cons, if_neg (fun e => ne_of_lt (hlow z hz) e.symm)]; exact this
        · rcases hk with hk | hk
          · cases hk
          · rw [atK_cons] at hk
            by_cases e : y.1 = k
            · exact ⟨rgt y, List.mem_cons_self .., e⟩
            · rw [if_neg e] at hk
              obtain ⟨z, hz, hzk⟩ := i3 k (.inr hk)
              exact ⟨z, List.mem_cons_of_mem _ hz, hzk⟩
        · rcases List.mem_cons.1 hz with e | hz
          · rw [e]; exact h2 y (List.mem_cons_self ..)
          · exact i4 t (fun x hx => by cases hx) (fun q hq => h2 q (List.mem_cons_of_mem _ hq)) z hz
    | cons x a =>
      obtain ⟨ha1, ha2⟩ := up_tail ha
      cases b with
      | nil =>
        obtain ⟨i1, i2, i3, i4⟩ := ih a [] (by simp only [List.length_cons, List.length_nil] at h ⊢; omega) ha1 hb
        have e : mergeS (x :: a) [] = lft x :: mergeS a [] := by rw [merge_end, merge_end]; rfl
        rw [e]
        have hlow := i4 x.1 ha2 (fun y hy => by cases hy)
        refine ⟨List.pairwise_cons.2 ⟨hlow, i1⟩, fun z hz => ?_, fun k hk => ?_, fun t h1 _ z hz => ?_⟩
        · rcases List.mem_cons.1 hz with e | hz
          · rw [e]; show lft x = zf x.1 (atK (x :: a) x.1) (atK [] x.1)
            rw [atK_nil, atK_cons, if_pos rfl]; rfl
          · have := i2 z hz
            rw [atK_cons, if_neg (fun e => ne_of_lt (hlow z hz) e.symm)]; exact this
        · rcases hk with hk | hk
          · rw [atK_cons] at hk
            by_cases e : x.1 = k
            · exact ⟨lft x, List.mem_cons_self .., e⟩
            · rw [if_neg e] at hk
              obtain ⟨z, hz, hzk⟩ := i3 k (.inl hk)
              exact ⟨z, List.mem_cons_of_mem _ hz, hzk⟩
          · cases hk
        · rcases List.mem_cons.1 hz with e | hz
          · rw [e]; exact h1 x (List.mem_cons_self ..)
          · exact i4 t (fun q hq => h1 q (List.mem_cons_of_mem _ hq)) (fun y hy => by cases hy) z hz
      | cons y b =>
        obtain ⟨hb1, hb2⟩ := up_tail hb
        simp only [List.length_cons] at h
        rw [merge_cons]
        by_cases h1 : ltS y.1 x.1 = true
        · rw [if_pos h1]
          obtain ⟨i1, i2, i3, i4⟩ := ih (x :: a) b (by simp only [List.length_cons]; omega) ha hb1
          have hya : ∀ q ∈ x :: a, ltS y.1 q.1 = true := fun q hq => by
            rcases List.mem_cons.1 hq with e | hq
            · rw [e]; exact h1
            · exact lt_trans _ _ _ h1 (ha2 q hq)
          have hlow := i4 y.1 hya hb2
          refine ⟨List.pairwise_cons.2 ⟨hlow, i1⟩, fun z hz => ?_, fun k hk => ?_, fun t g1 g2 z hz => ?_⟩
          · rcases List.mem_cons.1 hz with e | hz
            · rw [e]; show rgt y = zf y.1 (atK (x :: a) y.1) (atK (y :: b) y.1)
              rw [atK_none (fun q hq => ne_of_lt (hya q hq)), atK_cons, if_pos rfl]; rfl
            · have := i2 z hz
              rw [atK_cons y, if_neg (fun e => ne_of_lt (hlow z hz) e.symm)]; exact this
          · by_cases e : y.1 = k
            · exact ⟨rgt y, List.mem_cons_self .., e⟩
            · rw [atK_cons y, if_neg e] at hk
              obtain ⟨z, hz, hzk⟩ := i3 k hk
              exact ⟨z, List.mem_cons_of_mem _ hz, hzk⟩
          · rcases List.mem_cons.1 hz with e | hz
            · rw [e]; exact g2 y (List.mem_cons_self ..)
            · exact i4 t g1 (fun q hq => g2 q (List.mem_cons_of_mem _ hq)) z hz
        · rw [if_neg h1]
          by_cases h2 : y.1 = x.1
          · rw [if_pos h2]
            obtain ⟨i1, i2, i3, i4⟩ := ih a b (by omega) ha1 hb1
            have hlow := i4 x.1 ha2 (fun q hq => by rw [← h2]; exact hb2 q hq)
            refine ⟨List.pairwise_cons.2 ⟨hlow, i1⟩, fun z hz => ?_, fun k hk => ?_, fun t g1 g2 z hz => ?_⟩
            · rcases List.mem_cons.1 hz with e | hz
              · rw [e]; show bth x y = zf x.1 (atK (x :: a) x.1) (atK (y :: b) x.1)
                rw [atK_cons, if_pos rfl, atK_cons, if_pos h2]; rfl
              · have := i2 z hz
                rw [atK_cons x, if_neg (fun e => ne_of_lt (hlow z hz) e.symm), atK_cons y, if_neg (fun e => ne_of_lt (hlow z hz) (e.symm.trans h2))]; exact this
            · by_cases e : x.1 = k
              · exact ⟨bth x y, List.mem_cons_self .., e⟩
              · rw [atK_cons x, if_neg e, atK_cons y, if_neg (fun q => e (h2.symm.trans q))] at hk
                obtain ⟨z, hz, hzk⟩ := i3 k hk
                exact ⟨z, List.mem_cons_of_mem _ hz, hzk⟩
            · rcases List.mem_cons.1 hz with e | hz
              · rw [e]; exact g1 x (List.mem_cons_self ..)
              · exact i4 t (fun q hq => g1 q (List.mem_cons_of_mem _ hq)) (fun q hq => g2 q (List.mem_cons_of_mem _ hq)) z hz
          · rw [if_neg h2]
            have h3 : ltS x.1 y.1 = true := lt_total y.1 x.1 (by simpa using h1) h2
            obtain ⟨i1, i2, i3, i4⟩ := ih a (y :: b) (by simp only [List.length_cons]; omega) ha1 hb
            have hxb : ∀ q ∈ y :: b, ltS x.1 q.1 = true := fun q hq => by
              rcases List.mem_cons.1 hq with e | hq
              · rw [e]; exact h3
              · exact lt_trans _ _ _ h3 (hb2 q hq)
            have hlow := i4 x.1 ha2 hxb
            refine ⟨List.pairwise_cons.2 ⟨hlow, i1⟩, fun z hz => ?_, fun k hk => ?_, fun t g1 g2 z hz => ?_⟩
            · rcases List.mem_cons.1 hz with e | hz
              · rw [e]; show lft x = zf x.1 (atK (x :: a) x.1) (atK (y :: b) x.1)
                rw [atK_cons, if_pos rfl, atK_none (fun q hq => ne_of_lt (hxb q hq))]; rfl
              · have := i2 z hz
                rw [atK_cons x, if_neg (fun e => ne_of_lt (hlow z hz) e.symm)]; exact this
            · by_cases e : x.1 = k
              · exact ⟨lft x, List.mem_cons_self .., e⟩
              · rw [atK_cons x, if_neg e] at hk
                obtain ⟨z, hz, hzk⟩ := i3 k hk
                exact ⟨z, List.mem_cons_of_mem _ hz, hzk⟩
            · rcases List.mem_cons.1 hz with e | hz
              · rw [e]; exact g1 x (List.mem_cons_self ..)
              · exact i4 t (fun q hq => g1 q (List.mem_cons_of_mem _ hq)) g2 z hz
theorem chg_zf (k : List UInt8) (p q : Option (List UInt8)) : chgS (zf k p q) = true ↔ p ≠ q := by
  unfold chgS zf
  cases p <;> cases q <;> simp
/-- What the changes are: just those keys where both differ. -/
theorem diff_mem {a b : List Itm} (ha : Up a) (hb : Up b) (z : Bo) : z ∈ diffS a b ↔ z = zf z.1 (atK a z.1) (atK b z.1) ∧ atK a z.1 ≠ atK b z.1 := by
  obtain ⟨_, h2, h3, _⟩ := merge_says _ a b (Nat.le_refl _) ha hb
  unfold diffS
  rw [List.mem_filter]
  constructor
  · rintro ⟨hz, hc⟩
    have e := h2 z hz
    rw [e] at hc
    exact ⟨e, (chg_zf _ _ _).1 hc⟩
  · rintro ⟨e, hne⟩
    have hs : (atK a z.1).isSome = true ∨ (atK b z.1).isSome = true := by
      cases hp : atK a z.1 with
      | some v => exact .inl rfl
      | none =>
        cases hq : atK b z.1 with
        | some v => exact .inr rfl
        | none => rw [hp, hq] at hne; exact absurd rfl hne
    obtain ⟨z', hz', hk⟩ := h3 z.1 hs
    have e' := h2 z' hz'
    rw [hk] at e'
    rw [← e] at e'
    exact ⟨e' ▸ hz', by rw [e]; exact (chg_zf _ _ _).2 hne⟩
theorem sorted_ext : ∀ (l m : List Bo), (l.Pairwise fun z z' => ltS z.1 z'.1 = true) → (m.Pairwise fun z z' => ltS z.1 z'.1 = true) → (∀ z, z ∈ l ↔ z ∈ m) → l = m
  | [], [], _, _, _ => rfl
  | [], y :: m, _, _, h => absurd ((h y).2 (List.mem_cons_self ..)) (by simp)
  | x :: l, [], _, _, h => absurd ((h x).1 (List.mem_cons_self ..)) (by simp)
  | x :: l, y :: m, hl, hm, h => by
    obtain ⟨l1, l2⟩ := List.pairwise_cons.1 hl
    obtain ⟨m1, m2⟩ := List.pairwise_cons.1 hm
    have hxy : x = y := by
      rcases List.mem_cons.1 ((h x).1 (List.mem_cons_self ..)) with e | hx
      · exact e
      · rcases List.mem_cons.1 ((h y).2 (List.mem_cons_self ..)) with e | hy
        · exact e.symm
        · have a1 := m1 x hx
          have a2 := l1 y hy
          have := lt_trans _ _ _ a1 a2
          rw [lt_irrefl] at this; cases this
    subst hxy
    have hrest : ∀ z, z ∈ l ↔ z ∈ m := fun z => by
      constructor
      · intro hz
        rcases List.mem_cons.1 ((h z).1 (List.mem_cons_of_mem _ hz)) with e | hz'
        · have := l1 z hz; rw [e, lt_irrefl] at this; cases this
        · exact hz'
      · intro hz
        rcases List.mem_cons.1 ((h z).2 (List.mem_cons_of_mem _ hz)) with e | hz'
        · have := m1 z hz; rw [e, lt_irrefl] at this; cases this
        · exact hz'
    rw [sorted_ext l m l2 m2 hrest]
theorem diff_up {a b : List Itm} (ha : Up a) (hb : Up b) : (diffS a b).Pairwise fun z z' => ltS z.1 z'.1 = true :=
  List.Pairwise.sublist (List.filter_sublist) (merge_says _ a b (Nat.le_refl _) ha hb).1
/-- Lists that have the same at each key, or are alike there both times, differ alike. -/
theorem diff_same {a b c d : List Itm} (ha : Up a) (hb : Up b) (hc : Up c) (hd : Up d) (h : ∀ k, (atK a k = atK c k ∧ atK b k = atK d k) ∨ (atK a k = atK b k ∧ atK c k = atK d k)) : diffS a b = diffS c d := by
  refine sorted_ext _ _ (diff_up ha hb) (diff_up hc hd) fun z => ?_
  rw [diff_mem ha hb, diff_mem hc hd]
  rcases h z.1 with ⟨h1, h2⟩ | ⟨h1, h2⟩
  · rw [h1, h2]
  · rw [h1, h2]
    exact ⟨fun h => absurd rfl h.2, fun h => absurd rfl h.2⟩
end Go.Proofs.Ytoidbgedpakjmaa.Dif
namespace Go.Proofs.Ytoidbgedpakjmaa.Dif
open Go.Proofs.Ytoidbgedpakjmaa.Lib Go.Proofs.Ytoidbgedpakjmaa.Itms Go.Proofs.Ytoidbgedpakjmaa.T08 Go.Proofs.Ytoidbgedpakjmaa.WSeq Go.Proofs.Ytoidbgedpakjmaa.Ord Go.Proofs.Ytoidbgedpakjmaa.JoinS Go.Proofs.Ytoidbgedpakjmaa.W08
/-- leaves by their fingerprints -/
abbrev Lv := List UInt8 × List Itm
def allL (P : List Lv) : List Itm := (P.map (·.2)).flatten
/-- those whose fingerprints aren't among some -/
def keepL (ns : List (List UInt8)) (P : List Lv) : List Lv := P.filter fun a => !ns.contains a.1
theorem keep_mem {ns : List (List UInt8)} {P : List Lv} {a : Lv} : a ∈ keepL ns P ↔ a ∈ P ∧ a.1 ∉ ns := by
  unfold keepL
  rw [List.mem_filter]
  simp
theorem all_mem {P : List Lv} {x : Itm} : x ∈ allL P ↔ ∃ a ∈ P, x ∈ a.2 := by
  unfold allL
  rw [List.mem_flatten]
  constructor
  · rintro ⟨l, hl, hx⟩
    obtain ⟨a, ha, rfl⟩ := List.mem_map.1 hl
    exact ⟨a, ha, hx⟩
  · rintro ⟨a, ha, hx⟩
    exact ⟨a.2, List.mem_map.2 ⟨a, ha, rfl⟩, hx⟩
theorem keep_sub (ns : List (List UInt8)) : ∀ P : List Lv, (allL (keepL ns P)).Sublist (allL P)
  | [] => List.Sublist.refl _
  | a :: P => by
    have i1 := keep_sub ns P
    unfold keepL allL at i1 ⊢
    rw [List.filter_cons]
    split
    · simp only [List.map_cons, List.flatten_cons]
      exact List.Sublist.append (List.Sublist.refl _) i1
    · simp only [List.map_cons, List.flatten_cons]
      exact List.Sublist.trans i1 (List.sublist_append_right _ _)
theorem keep_up {ns : List (List UInt8)} {P : List Lv} (h : Up (allL P)) : Up (allL (keepL ns P)) := List.Pairwise.sublist (keep_sub ns P) h
theorem atK_mem {m : List Itm} (hu : Up m) (k v : List UInt8) : atK m k = some v ↔ (k, v) ∈ m := by
  induction m with
  | nil => rw [atK_nil]; exact ⟨fun h => (by cases h), fun h => (by cases h)⟩
  | cons x m ih =>
    obtain ⟨h1, h2⟩ := up_tail hu
    rw [atK_cons]
    by_cases e : x.1 = k
    · rw [if_pos e]
      constructor
      · intro h
        injection h with h
        rw [← e, ← h]; exact List.mem_cons_self ..
      · intro h
        rcases List.mem_cons.1 h with h | h
        · rw [← h]
        · have := h2 _ h
          dsimp only at this
          rw [e, lt_irrefl] at this; cases this
    · rw [if_neg e, ih h1]
      constructor
      · intro h; exact List.mem_cons_of_mem _ h
      · intro h
        rcases List.mem_cons.1 h with h | h
        · rw [← h] at e; exact absurd rfl e
        · exact h
theorem atK_no {m : List Itm} (hu : Up m) (k : List UInt8) : atK m k = none ↔ ∀ v, (k, v) ∉ m := by
  constructor
  · intro h v hv
    rw [(atK_mem hu k v).2 hv] at h; cases h
  · intro h
    cases hq : atK m k with
    | none => rfl
    | some v => exact absurd ((atK_mem hu k v).1 hq) (h v)
/-- in leaves that rise, one behind the other, unlike ones have unlike keys -/
theorem leaf_apart : ∀ {P : List Lv}, Up (allL P) → ∀ a ∈ P, ∀ b ∈ P, a ≠ b → ∀ x ∈ a.2, ∀ y ∈ b.2, x.1 ≠ y.1
  | [], _, a, ha, _, _, _, _, _, _, _ => by cases ha
  | c :: P, hu, a, ha, b, hb, hne, x, hx, y, hy => by
    have e : allL (c :: P) = c.2 ++ allL P := by unfold allL; rw [List.map_cons, List.flatten_cons]
    rw [e] at hu
    obtain ⟨h1, h2, h3⟩ := List.pairwise_append.1 hu
    rcases List.mem_cons.1 ha with e1 | ha
    · rcases List.mem_cons.1 hb with e2 | hb
      · exact absurd (e1.trans e2.symm) hne
      · have := h3 x (by rw [← e1]; exact hx) y (all_mem.2 ⟨b, hb, hy⟩)
        exact fun q => by rw [q, lt_irrefl] at this; cases this
    · rcases List.mem_cons.1 hb with e2 | hb
      · have := h3 y (by rw [← e2]; exact hy) x (all_mem.2 ⟨a, ha, hx⟩)
        exact fun q => by rw [q, lt_irrefl] at this; cases this
      · exact leaf_apart h2 a ha b hb hne x hx y hy
/-- what a side keeps has nothing at a key that a shared leaf has -/
theorem keep_none {P : List Lv} (hu : Up (allL P)) {ns : List (List UInt8)} {a : Lv} (ha : a ∈ P) (hs : a.1 ∈ ns) {k v : List UInt8} (hk : (k, v) ∈ a.2) : atK (allL (keepL ns P)) k = none := by
  rw [atK_no (keep_up hu)]
  intro u hu2
  obtain ⟨b, hb, hbk⟩ := all_mem.1 hu2
  obtain ⟨hb1, hb2⟩ := keep_mem.1 hb
  exact leaf_apart hu a ha b hb1 (fun e => hb2 (e ▸ hs)) _ hk _ hbk rfl
theorem keep_some {P : List Lv} (hu : Up (allL P)) {ns : List (List UInt8)} {a : Lv} (ha : a ∈ P) (hs : a.1 ∉ ns) {k v : List UInt8} (hk : (k, v) ∈ a.2) : atK (allL (keepL ns P)) k = some v :=
  (atK_mem (keep_up hu) k v).2 (all_mem.2 ⟨a, keep_mem.2 ⟨ha, hs⟩, hk⟩)
theorem keep_not {P : List Lv} (hu : Up (allL P)) (ns : List (List UInt8)) {k : List UInt8} (h : atK (allL P) k = none) : atK (allL (keepL ns P)) k = none := by
  rw [atK_no (keep_up hu)]
  intro v hv
  exact (atK_no hu k).1 h v ((keep_sub ns P).subset hv)
/-- Where leaves of one fingerprint are alike, those that both sides have may be left out. -/
theorem rest_law (P Q : List Lv) (hp : Up (allL P)) (hq : Up (allL Q)) (hinj : ∀ a ∈ P, ∀ b ∈ Q, a.1 = b.1 → a.2 = b.2) :
    diffS (allL (keepL (Q.map (·.1)) P)) (allL (keepL (P.map (·.1)) Q)) = diffS (allL P) (allL Q) := by
  refine diff_same (keep_up hp) (keep_up hq) hp hq fun k => ?_
  have nm : ∀ {R : List Lv} {p : List UInt8}, p ∈ R.map (·.1) → ∃ b ∈ R, b.1 = p := fun h => by
    obtain ⟨b, hb, e⟩ := List.mem_map.1 h
    exact ⟨b, hb, e⟩
  cases hx : atK (allL P) k with
  | some v =>
    obtain ⟨a, ha, hak⟩ := all_mem.1 ((atK_mem hp k v).1 hx)
    by_cases hs : a.1 ∈ Q.map (·.1)
    · obtain ⟨b, hb, hba⟩ := nm hs
      have hab := hinj a ha b hb hba.symm
      have hbk : (k, v) ∈ b.2 := hab ▸ hak
      right
      refine ⟨(keep_none hp ha hs hak).trans (keep_none hq hb (List.mem_map.2 ⟨a, ha, hba.symm⟩) hbk).symm, ?_⟩
      exact ((atK_mem hq k v).2 (all_mem.2 ⟨b, hb, hbk⟩)).symm
    · left
      refine ⟨keep_some hp ha hs hak, ?_⟩
      cases hy : atK (allL Q) k with
      | none => exact keep_not hq _ hy
      | some u =>
        obtain ⟨b, hb, hbk⟩ := all_mem.1 ((atK_mem hq k u).1 hy)
        refine keep_some hq hb (fun hbs => ?_) hbk
        obtain ⟨a', ha', hab⟩ := nm hbs
        have h1 := hinj a' ha' b hb hab
        have hak' : (k, u) ∈ a'.2 := h1 ▸ hbk
        refine leaf_apart hp a ha a' ha' (fun e => hs ?_) _ hak _ hak' rfl
        rw [e, hab]; exact List.mem_map.2 ⟨b, hb, rfl⟩
  | none =>
    left
    refine ⟨keep_not hp _ hx, ?_⟩
    cases hy : atK (allL Q) k with
    | none => exact keep_not hq _ hy
    | some u =>
      obtain ⟨b, hb, hbk⟩ := all_mem.1 ((atK_mem hq k u).1 hy)
      refine keep_some hq hb (fun hbs => ?_) hbk
      obtain ⟨a', ha', hab⟩ := nm hbs
      have h1 := hinj a' ha' b hb hab
      have hak' : (k, u) ∈ a'.2 := h1 ▸ hbk
      exact (atK_no hp k).1 hx u (all_mem.2 ⟨a', ha', hak'⟩)
end Go.Proofs.Ytoidbgedpakjmaa.Dif
