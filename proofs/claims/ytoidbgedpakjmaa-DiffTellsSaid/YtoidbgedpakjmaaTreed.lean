/- Layer 8 in plain words: the pairs that a source's tree hands out. The heap of a map's nodes: each is a right node whose count is no more than the map has; if no two have one fingerprint the tree is whole. The pairs of a range, in plain words: below a key, within two, from one on: they are all. -/
import Derived.Test.YtoidbgedpakjmaaTree
import Derived.Test.YtoidbgedpakjmaaL08b
set_option linter.unusedVariables false
set_option linter.unusedSimpArgs false
namespace Go.Proofs.Ytoidbgedpakjmaa.W08
open Go Go.RowKit Go.Proofs.Ytoidbgedpakjmaa Go.Proofs.Ytoidbgedpakjmaa.Lib Go.Proofs.Ytoidbgedpakjmaa.Sha Go.Proofs.Ytoidbgedpakjmaa.T07 Go.Proofs.Ytoidbgedpakjmaa.T08 Go.Proofs.Ytoidbgedpakjmaa.Itms Go.Proofs.Ytoidbgedpakjmaa.WSeq Go.Proofs.Ytoidbgedpakjmaa.Ord Go.Proofs.Ytoidbgedpakjmaa.W08 Go.Proofs.Ytoidbgedpakjmaa.Inj Go.Proofs.Ytoidbgedpakjmaa.Tree
/-- the pairs that a source's tree hands out, from a key on -/
def runP (f : Src) (root key : List UInt8) : List Itm := match atS f root with
  | none => []
  | some p => (walkP f key p.1 p.2).1
end Go.Proofs.Ytoidbgedpakjmaa.W08
namespace Go.Proofs.Ytoidbgedpakjmaa.Tree
open Go Go.Proofs.Ytoidbgedpakjmaa Go.Proofs.Ytoidbgedpakjmaa.Lib Go.Proofs.Ytoidbgedpakjmaa.Sha Go.Proofs.Ytoidbgedpakjmaa.T07 Go.Proofs.Ytoidbgedpakjmaa.T08 Go.Proofs.Ytoidbgedpakjmaa.Itms Go.Proofs.Ytoidbgedpakjmaa.WSeq Go.Proofs.Ytoidbgedpakjmaa.Ord Go.Proofs.Ytoidbgedpakjmaa.W08 Go.Proofs.Ytoidbgedpakjmaa.Inj Go.Proofs.Ytoidbgedpakjmaa.Mp
/-- a node's bytes at most -/
def nmax (lv : Nat) : Nat := if lv = 0 then 160067 else 32707
theorem node_max (lv : Nat) (P : List Itm) (hs : Shrt P) (hn : P.length ≤ 16) (hv : ∀ x ∈ P, okVal lv x.2 = true) : (nodeB lv P).length ≤ nmax lv := by
  have h1 : ∀ l : List Itm, (∀ x ∈ l, x ∈ P) → (l.map form).flatten.length ≤ (if lv = 0 then 10004 else 2044) * l.length := by
    intro l
    induction l with
    | nil => intro _; simp
    | cons x l ih =>
      intro h
      have hx := h x (List.mem_cons_self ..)
      obtain ⟨h1, h2⟩ := hs x hx
      have h3 := hv x hx
      have i1 := ih (fun y hy => h y (List.mem_cons_of_mem _ hy))
      have h4 : lv = 0 ∨ x.2.length = 40 := by
        rcases Nat.eq_zero_or_pos lv with h | h
        · exact .inl h
        · exact .inr (okVal_len h3 h)
      simp only [List.map_cons, List.flatten_cons, List.length_append, List.length_cons, form_len]
      split at i1 <;> rename_i hz
      · rw [if_pos hz]; omega
      · rw [if_neg hz]; rcases h4 with h4 | h4
        · exact absurd h4 hz
        · omega
  have h2 := h1 P (fun x hx => hx)
  unfold nodeB nodeHead nmax
  simp only [List.length_append, List.length_cons, List.length_nil]
  split at h2 <;> rename_i hz
  · rw [if_pos hz]; omega
  · rw [if_neg hz]; omega
/-- What a level's nodes are, whatever fingerprints they have. -/
theorem level_ok (lv : Nat) (hlv : lv ≤ 32) : ∀ (k : Nat) (l : List Itm), l.length ≤ k → Up l → Shrt l → (∀ x ∈ l, okVal lv x.2 = true) → cnt lv l ≤ 1099511627776 →
    (∀ u ∈ (levelS lv l).1, okVal (lv + 1) u.2 = true) ∧ cnt (lv + 1) (levelS lv l).1 = cnt lv l ∧ ∀ s ∈ (levelS lv l).2, ∃ P, parseS s = some (lv, P) ∧ cnt lv P ≤ cnt lv l ∧ s.length ≤ nmax lv := by
  intro k
  induction k with
  | zero =>
    intro l hk _ _ _ _
    obtain rfl : l = [] := List.eq_nil_of_length_eq_zero (by omega)
    rw [level_nil]
    exact ⟨fun u hu => by simp at hu, rfl, fun s hs => by simp at hs⟩
  | succ k ih =>
    intro l hk hu hs hv hc
    rcases Nat.eq_zero_or_pos l.length with h0 | h0
    · obtain rfl : l = [] := List.eq_nil_of_length_eq_zero h0
      rw [level_nil]
      exact ⟨fun u hu => by simp at hu, rfl, fun s hs => by simp at hs⟩
    · rw [level_cons lv l h0]
      obtain ⟨p, hp⟩ : ∃ p, p = partS (l.map form) := ⟨_, rfl⟩
      have p1 := part_pos (l.map form) (by simpa using h0)
      have p2 := part_le (l.map form)
      rw [List.length_map] at p2
      rw [← hp] at p1 p2 ⊢
      have hsplit := List.take_append_drop p l
      have hc2 : cnt lv (l.take p) + cnt lv (l.drop p) = cnt lv l := by rw [← cnt_app, hsplit]
      obtain ⟨b1, b2, b3, b4⟩ := below_up (fun _ => some (nodeB lv (l.take p))) lv (l.take p) (Up.take hu p) (fun x hx => hs x (List.mem_of_mem_take hx)) hlv (by rw [List.length_take]; omega) (by rw [List.length_take]; omega) (fun x hx => hv x (List.mem_of_mem_take hx)) (by omega) rfl
      obtain ⟨i1, i2, i3⟩ := ih (l.drop p) (by rw [List.length_drop]; omega) (Up.drop hu p) (fun x hx => hs x (List.mem_of_mem_drop hx)) (fun x hx => hv x (List.mem_of_mem_drop hx)) (by omega)
      refine ⟨?_, ?_, ?_⟩
      · intro u hu'
        rcases List.mem_cons.1 hu' with e | hu'
        · rw [e]; exact b4
        · exact i1 u hu'
      · show wt (lv + 1) (upS lv (l.take p)) + cnt (lv + 1) (levelS lv (l.drop p)).1 = _
        rw [i2]
        unfold wt
        rw [if_neg (by omega), b3, hc2]
      · intro s hs'
        rcases List.mem_cons.1 hs' with e | hs'
        · exact ⟨l.take p, by rw [e]; exact b1, by omega, by rw [e]; exact node_max lv _ (fun x hx => hs x (List.mem_of_mem_take hx)) (by rw [List.length_take]; omega) (fun x hx => hv x (List.mem_of_mem_take hx))⟩
        · obtain ⟨P, q1, q2, q3⟩ := i3 s hs'
          exact ⟨P, q1, by omega, q3⟩
theorem next_nodes (H : Nat) (hH : H ≤ 32) : ∀ (k lv : Nat) (l : List Itm), l.length ≤ k → 0 < l.length → l.length ≤ 2 ^ (H - lv) → lv ≤ H → Up l → Shrt l → (∀ x ∈ l, okVal lv x.2 = true) → cnt lv l ≤ 1099511627776 →
    (∀ s ∈ (nextS lv l).2, ∃ v P, parseS s = some (v, P) ∧ cnt v P ≤ cnt lv l ∧ v ≤ H ∧ s.length ≤ nmax v) ∧ (nextS lv l).2.length ≤ 2 * l.length + 1 := by
  intro k
  induction k with
  | zero => intro lv l h h0; omega
  | succ k ih =>
    intro lv l hk h0 hp hlv hu hs hv hc
    obtain ⟨a1, a2, a3⟩ := level_ok lv (by omega) _ l (Nat.le_refl _) hu hs hv hc
    have hlen2 : (levelS lv l).2.length = (levelS lv l).1.length := by
      have := levelGo_len lv (cutS (l.map form)) l
      unfold levelS; omega
    have hhalf := level_half lv l
    by_cases h1 : (levelS lv l).1.length = 1
    · rw [next_one lv l h1]
      refine ⟨fun s hs' => ?_, by dsimp only; omega⟩
      obtain ⟨P, q1, q2, q3⟩ := a3 s hs'
      exact ⟨lv, P, q1, q2, hlv, q3⟩
    · have h2 : 2 ≤ (levelS lv l).1.length := by have := level_some lv l h0; omega
      rw [next_more lv l h2]
      have hl3 : 3 ≤ l.length := by omega
      have hlv2 : lv + 1 ≤ H := by
        rcases Nat.lt_or_ge lv H with h | h
        · omega
        · have : lv = H := by omega
          subst this; simp at hp; omega
      have hpow : 2 ^ (H - lv) = 2 * 2 ^ (H - (lv + 1)) := by
        rw [show H - lv = (H - (lv + 1)) + 1 by omega, Nat.pow_succ]; omega
      obtain ⟨u1, u2, _⟩ := level_up lv _ l (Nat.le_refl _) hu hs
      obtain ⟨i1, i2⟩ := ih (lv + 1) (levelS lv l).1 (by omega) (by omega) (by omega) hlv2 u1 u2 a1 (by omega)
      refine ⟨fun s hs' => ?_, by dsimp only; rw [List.length_append]; omega⟩
      rcases List.mem_append.1 hs' with hs' | hs'
      · obtain ⟨P, q1, q2, q3⟩ := a3 s hs'
        exact ⟨lv, P, q1, q2, hlv, q3⟩
      · obtain ⟨v, P, q1, q2, q3⟩ := i1 s hs'
        exact ⟨v, P, q1, by omega, q3⟩
theorem heap_gen : ∀ (l : List (List UInt8)) (f : Src) (k s : List UInt8), (l.foldl putS f) k = some s → f k = some s ∨ (s ∈ l ∧ sha s = k)
  | [], f, k, s, h => .inl h
  | x :: l, f, k, s, h => by
    rcases heap_gen l (putS f x) k s h with h1 | h1
    · unfold putS at h1
      split at h1
      · exact .inl h1
      · unfold putF at h1
        split at h1
        · rename_i e
          injection h1 with h1
          exact .inr ⟨by rw [h1]; simp, by rw [← h1]; exact e.symm⟩
        · exact .inl h1
    · exact .inr ⟨List.mem_cons_of_mem _ h1.1, h1.2⟩
/-- what a heap tells is one of its texts, with that fingerprint -/
theorem heap_mem {l : List (List UInt8)} {k s : List UInt8} (h : heapF l k = some s) : s ∈ l ∧ sha s = k := by
  rcases heap_gen l _ k s h with h1 | h1
  · cases h1
  · exact h1
theorem heap_keep : ∀ (l : List (List UInt8)) (f : Src) (k : List UInt8), (f k).isSome = true → (l.foldl putS f) k = f k
  | [], f, k, h => rfl
  | x :: l, f, k, h => by
    have h1 : putS f x k = f k := by
      unfold putS
      split
      · rfl
      · rename_i hn
        unfold putF
        split
        · rename_i e; subst e; exact absurd h hn
        · rfl
    show (l.foldl putS (putS f x)) k = _
    rw [heap_keep l (putS f x) k (by rw [h1]; exact h), h1]
theorem heap_has : ∀ (l : List (List UInt8)) (f : Src) (s : List UInt8), s ∈ l → ((l.foldl putS f) (sha s)).isSome = true
  | x :: l, f, s, h => by
    show ((l.foldl putS (putS f x)) (sha s)).isSome = true
    rcases List.mem_cons.1 h with e | h
    · have h1 : ((putS f x) (sha s)).isSome = true := by
        rw [e]
        unfold putS
        split
        · rename_i hh; exact hh
        · unfold putF; rw [if_pos rfl]; rfl
      rw [heap_keep l _ _ h1]; exact h1
    · exact heap_has l (putS f x) s h
/-- If no two texts of a heap have one fingerprint each is found. -/
theorem heap_all {l : List (List UInt8)} (hc : NoC l l) (s : List UInt8) (h : s ∈ l) : heapF l (sha s) = some s := by
  have h1 := heap_has l (fun _ => none) s h
  cases hq : heapF l (sha s) with
  | none => unfold heapF at hq; rw [hq] at h1; cases h1
  | some t =>
    obtain ⟨m1, m2⟩ := heap_mem hq
    rw [hc t m1 s h m2]
/-- What a map, its root, its nodes and their heap are. -/
structure MapQ (m : List Itm) : Prop where
  len : m.length ≤ 1000
  right : rightS m = true
  up : Up m
  shrt : Shrt m
  sm : Sm m
  nodes : (treeS m).2.length ≤ 2001
  short : ∀ s ∈ (treeS m).2, s.length ≤ 3000000
  root : (treeS m).1.length = 32
  real : ∀ s ∈ (treeS m).2, ∃ v P, parseS s = some (v, P) ∧ cnt v P ≤ 1000 ∧ v ≤ 10 ∧ s.length ≤ nmax v
theorem nil_parse : parseS (nodeB 0 []) = some (0, []) := by decide
theorem tree_nil_eq : treeS [] = (sha (nodeB 0 []), [nodeB 0 []]) := rfl
theorem at_of {f : Src} {k s : List UInt8} {p : Nat × List Itm} (h1 : f k = some s) (h2 : parseS s = some p) : atS f k = some p := by unfold atS; rw [h1]; exact h2
theorem nil_at {nd : List UInt8} {p : Nat × List Itm} (ht : treeS [] = (sha nd, [nd])) (hn : parseS nd = some p) (hc : NoC (treeS []).2 (treeS []).2) : atS (heapF (treeS []).2) (treeS []).1 = some p := by
  rw [ht] at hc ⊢
  exact at_of (heap_all hc nd (List.mem_singleton.2 rfl)) hn
theorem map_q' (m : List Itm) (len : m.length ≤ 1000) (right : rightS m = true) (up : Up m) (shrt : Shrt m) (sm : Sm m) : MapQ m := by
  rcases Nat.eq_zero_or_pos m.length with h0 | h0
  · obtain rfl : m = [] := List.eq_nil_of_length_eq_zero h0
    have ht := tree_nil_eq
    have hl : (nodeB 0 []).length ≤ 3000 := by decide
    have hn := nil_parse
    generalize nodeB 0 [] = nd at hn ht hl
    refine ⟨len, right, up, shrt, sm, by rw [ht]; exact Nat.le_of_ble_eq_true rfl, by rw [ht]; intro s hs; rw [List.mem_singleton.1 hs]; omega, by rw [ht]; exact sha_len _, ?_⟩
    rw [ht]; intro s hs; rw [List.mem_singleton.1 hs]; exact ⟨0, [], hn, Nat.zero_le _, Nat.zero_le _, by unfold nmax; rw [if_pos rfl]; omega⟩
  · have htn := tree_next m (by omega)
    obtain ⟨n1, n2⟩ := next_nodes 10 (by omega) _ 0 m (Nat.le_refl _) h0 (by simp; omega) (by omega) up shrt (fun x _ => rfl) (by rw [cnt_0]; omega)
    obtain ⟨v, X, _, _, _, e, _⟩ := top_node _ 0 m (Nat.le_refl _) h0
    refine ⟨len, right, up, shrt, sm, by rw [htn]; omega, tree_short m sm, by rw [htn, e]; exact sha_len _, ?_⟩
    rw [htn]
    intro s hs
    obtain ⟨v, P, q1, q2, q3, q4⟩ := n1 s hs
    exact ⟨v, P, q1, by rw [cnt_0] at q2; omega, q3, q4⟩
theorem rising_shrt (l : List Itm) (h : FewS l) : Shrt (risingS l) := fun x hx => by
  obtain ⟨i, hi, rfl⟩ := List.getElem_of_mem (rising_mem l x hx)
  have := h.2 i hi
  rw [itm_eq l i hi] at this
  exact this
theorem map_q (l : List Itm) (h : FewS l) : MapQ (risingS l) :=
  map_q' _ (by have := rising_len l l.length (Nat.le_refl _); rw [List.take_length] at this; have := h.1; omega) (rising_right l h) (rising_up l) (rising_shrt l h) (few_sm l h)
theorem MapQ.hf {m : List Itm} (h : MapQ m) : ∀ k s, heapF (treeS m).2 k = some s → s.length ≤ 1000000000 := fun k s hs => by
  have := h.short s (heap_mem hs).1; omega
/-- Whatever clashes: a walk hands out no more than 200 pairs. -/
theorem MapQ.run_len {m : List Itm} (h : MapQ m) (root key : List UInt8) : (runP (heapF (treeS m).2) root key).length ≤ 1000 := by
  unfold runP
  cases hat : atS (heapF (treeS m).2) root with
  | none => exact Nat.zero_le _
  | some p =>
    dsimp only
    have h1 : cnt p.1 p.2 ≤ 1000 := by
      unfold atS at hat
      cases hk : heapF (treeS m).2 root with
      | none => rw [hk] at hat; cases hat
      | some s =>
        rw [hk] at hat
        obtain ⟨v, P, q1, q2, _⟩ := h.real s (heap_mem hk).1
        have hat : parseS s = some p := hat
        rw [hat] at q1
        injection q1 with q1
        rw [q1]; exact q2
    have h2 := walk_len (heapF (treeS m).2) key p.1 (p.2.drop (placeS p.2 key))
    have h3 := cnt_app p.1 (p.2.take (placeS p.2 key)) (p.2.drop (placeS p.2 key))
    rw [List.take_append_drop] at h3
    unfold walkP
    omega
/-- The tree of a map without clashes is whole. -/
theorem MapQ.whole {m : List Itm} (h : MapQ m) (hc : NoC (treeS m).2 (treeS m).2) : ∃ v X, atS (heapF (treeS m).2) (treeS m).1 = some (v, X) ∧ treeP (heapF (treeS m).2) v X = some m := by
  rcases Nat.eq_zero_or_pos m.length with h0 | h0
  · obtain rfl : m = [] := List.eq_nil_of_length_eq_zero h0
    have hn := nil_parse
    have ht := tree_nil_eq
    generalize nodeB 0 [] = nd at hn ht
    exact ⟨0, [], nil_at ht hn hc, by rw [treeP]⟩
  · obtain ⟨v, X, _, _, _, _, _, _, _, _, _, q1, q2⟩ := whole_tree (heapF (treeS m).2) m h0 (by have := h.len; omega) h.up h.shrt (fun s hs => heap_all hc s hs)
    exact ⟨v, X, q1, q2⟩
theorem MapQ.run {m : List Itm} (h : MapQ m) (hc : NoC (treeS m).2 (treeS m).2) (key : List UInt8) : runP (heapF (treeS m).2) (treeS m).1 key = fromP key m := by
  obtain ⟨v, X, h1, h2⟩ := h.whole hc
  unfold runP
  rw [h1]
  dsimp only
  rw [walk_tree _ key v X m h2 h.up (right_ok (at_facts h1).2.2.2.1)]
end Go.Proofs.Ytoidbgedpakjmaa.Tree
namespace Go.Proofs.Ytoidbgedpakjmaa.Tree
open Go Go.Proofs.Ytoidbgedpakjmaa Go.Proofs.Ytoidbgedpakjmaa.Lib Go.Proofs.Ytoidbgedpakjmaa.Sha Go.Proofs.Ytoidbgedpakjmaa.T07 Go.Proofs.Ytoidbgedpakjmaa.T08 Go.Proofs.Ytoidbgedpakjmaa.Itms Go.Proofs.Ytoidbgedpakjmaa.WSeq Go.Proofs.Ytoidbgedpakjmaa.Ord Go.Proofs.Ytoidbgedpakjmaa.W08 Go.Proofs.Ytoidbgedpakjmaa.Inj Go.Proofs.Ytoidbgedpakjmaa.Mp
def segS (m : List Itm) (x y : List UInt8) : List Itm := ((fromP x m).take (placeS (fromP x m) y)).filter fun z => !ltS z.1 x
theorem ok_up {m : List Itm} (h : rightS m = true) : okS m = true := right_ok h
theorem from_drop (m : List Itm) (x : List UInt8) (hok : okS m = true) : fromP x m = m.drop (placeS m x) := by
  have hp := place_s m x hok
  conv => lhs; rw [← List.take_append_drop (placeS m x) m]
  rw [from_app]
  have h1 : fromP x (m.take (placeS m x)) = [] := by
    unfold fromP
    rw [List.filter_eq_nil_iff]
    intro z hz
    obtain ⟨i, hi, rfl⟩ := List.getElem_of_mem hz
    rw [List.length_take] at hi
    have := hp.2.1 i (by omega)
    rw [itm_eq m i (by omega)] at this
    rw [List.getElem_take, this]; decide
  rw [h1, List.nil_append, from_all]
  intro t ht
  rw [List.length_drop] at ht
  rw [itm_drop]
  exact hp.2.2 _ (by omega) (by omega)
theorem less_tri (x y : List UInt8) : ltS x y = true ∨ x = y ∨ ltS y x = true := by
  cases h : ltS x y with
  | true => exact .inl rfl
  | false =>
    by_cases e : x = y
    · exact .inr (.inl e)
    · exact .inr (.inr (lt_total x y h e))
theorem ok_sub (m : List Itm) (h : okS m = true) (k : Nat) : okS (m.drop k) = true := (okS_iff _).2 (Up.drop ((okS_iff m).1 h) k)
theorem lt_of_not {x y z : List UInt8} (h1 : ltS z x = true) (h2 : ltS y x = false) : ltS z y = true := by
  cases h : ltS z y with
  | true => rfl
  | false =>
    -- y ≤ z < x, so y < x
    rcases less_tri y z with e | e | e
    · rw [lt_trans _ _ _ e h1] at h2; cases h2
    · rw [e, h1] at h2; cases h2
    · rw [e] at h; cases h
theorem place_mono (m : List Itm) (x y : List UInt8) (hok : okS m = true) (h : ltS y x = false) : placeS m x ≤ placeS m y := by
  have hx := place_s m x hok
  have hy := place_s m y hok
  rcases Nat.lt_or_ge (placeS m y) (placeS m x) with hlt | hge
  · have h1 := hx.2.1 _ hlt
    have h2 := hy.2.2 _ (Nat.le_refl _) (by have := hx.1; omega)
    rw [lt_of_not h1 h] at h2; cases h2
  · exact hge
theorem seg_eq (m : List Itm) (x y : List UInt8) (hok : okS m = true) (h : ltS y x = false) : segS m x y = (m.drop (placeS m x)).take (placeS m y - placeS m x) := by
  have hx := place_s m x hok
  have hy := place_s m y hok
  have hm := place_mono m x y hok h
  unfold segS
  rw [from_drop m x hok]
  have hokd : okS (m.drop (placeS m x)) = true := by
    exact ok_sub m hok _
  have hp : placeS (m.drop (placeS m x)) y = placeS m y - placeS m x := by
    refine place_one _ y _ _ (place_s _ y hokd) ⟨by rw [List.length_drop]; have := hy.1; omega, fun t ht => ?_, fun t h1 h2 => ?_⟩
    · rw [itm_drop]; exact hy.2.1 _ (by omega)
    · rw [itm_drop]; rw [List.length_drop] at h2; exact hy.2.2 _ (by omega) (by omega)
  rw [hp, List.filter_eq_self]
  intro z hz
  obtain ⟨i, hi, rfl⟩ := List.getElem_of_mem (List.mem_of_mem_take hz)
  rw [List.length_drop] at hi
  have := hx.2.2 (placeS m x + i) (by omega) (by omega)
  rw [itm_eq m _ (by omega)] at this
  rw [List.getElem_drop, this]; rfl
/-- The pairs below a key, within two, from the second one on: all pairs. -/
theorem segs_all (m : List Itm) (a b top : List UInt8) (hok : okS m = true) (hab : ltS b a = false) (hbt : ltS top b = false) (htop : ∀ i, i < m.length → ltS (itm m i).1 top = true) :
    segS m [] a ++ segS m a b ++ segS m b top = m := by
  have h0 : placeS m [] = 0 := place_one m [] _ _ (place_s m [] hok) (place_nil m)
  have ht : placeS m top = m.length := place_one m top _ _ (place_s m top hok) ⟨Nat.le_refl _, htop, fun t h1 h2 => by omega⟩
  have m1 := place_mono m a b hok hab
  have m2 := place_mono m b top hok hbt
  rw [seg_eq m [] a hok (by cases a <;> rfl), seg_eq m a b hok hab, seg_eq m b top hok hbt, h0, ht, List.drop_zero, Nat.sub_zero]
  have e1 : m.take (placeS m a) = (m.take (placeS m b)).take (placeS m a) := by rw [List.take_take, Nat.min_eq_left m1]
  have e2 : (m.drop (placeS m a)).take (placeS m b - placeS m a) = (m.take (placeS m b)).drop (placeS m a) := by rw [List.drop_take]
  have e3 : (m.drop (placeS m b)).take (m.length - placeS m b) = m.drop (placeS m b) := List.take_of_length_le (by rw [List.length_drop]; omega)
  rw [e2, e3, e1, List.take_append_drop, List.take_append_drop]
end Go.Proofs.Ytoidbgedpakjmaa.Tree
