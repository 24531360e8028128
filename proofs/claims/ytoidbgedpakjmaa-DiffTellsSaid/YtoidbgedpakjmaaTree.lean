/- A tree of nodes in a source: what stands below an item, all pairs below a node. The tree of a list of pairs has just these pairs. What a run over a tree hands out: the pairs from a key on. Nodes that are read are right; what a walk over a tree meets, item by item. -/
import Derived.Test.YtoidbgedpakjmaaNear
import Derived.Test.YtoidbgedpakjmaaW08z
import Derived.Test.YtoidbgedpakjmaaRun
import Derived.Test.YtoidbgedpakjmaaIns
import Derived.Test.YtoidbgedpakjmaaW08q
set_option linter.unusedVariables false
set_option linter.unusedSimpArgs false
namespace Go.Proofs.Ytoidbgedpakjmaa.Tree
open Go.Proofs.Ytoidbgedpakjmaa Go.Proofs.Ytoidbgedpakjmaa.Lib Go.Proofs.Ytoidbgedpakjmaa.Sha Go.Proofs.Ytoidbgedpakjmaa.T07 Go.Proofs.Ytoidbgedpakjmaa.T08 Go.Proofs.Ytoidbgedpakjmaa.Itms Go.Proofs.Ytoidbgedpakjmaa.WSeq Go.Proofs.Ytoidbgedpakjmaa.Ord Go.Proofs.Ytoidbgedpakjmaa.W08 Go.Proofs.Ytoidbgedpakjmaa.Inj
/-- a source, as a function -/
abbrev Src := List UInt8 → Option (List UInt8)
/-- may a node of level m with items ys stand below an item x of a level? -/
def standsP (lv : Nat) (x : Itm) (m : Nat) (ys : List Itm) : Bool := decide (m + 1 = lv) && decide (0 < ys.length) && (lastKey ys == x.1) && decide (countS m ys = told x.2)
def belowP (f : Src) (lv : Nat) (x : Itm) : Option (Nat × List Itm) := match atS f (x.2.take 32) with
  | none => none
  | some p => if standsP lv x p.1 p.2 then some p else none
theorem below_lv {f : Src} {lv : Nat} {x : Itm} {p : Nat × List Itm} (h : belowP f lv x = some p) : p.1 + 1 = lv ∧ 0 < p.2.length ∧ lastKey p.2 = x.1 ∧ countS p.1 p.2 = told x.2 ∧ atS f (x.2.take 32) = some p := by
  unfold belowP at h
  split at h
  · cases h
  · rename_i q hq
    split at h
    · rename_i hs
      injection h with h
      subst h
      unfold standsP at hs
      simp only [Bool.and_eq_true, decide_eq_true_eq, beq_iff_eq] at hs
      exact ⟨hs.1.1.1, hs.1.1.2, hs.1.2, hs.2, hq⟩
    · cases h
/-- all pairs below items of a level -/
def treeP (f : Src) : Nat → List Itm → Option (List Itm)
  | 0, l => some l
  | _ + 1, [] => some []
  | lv + 1, x :: l => match belowP f (lv + 1) x with
    | none => none
    | some p => match treeP f lv p.2, treeP f (lv + 1) l with
      | some a, some b => some (a ++ b)
      | _, _ => none
termination_by lv l => (lv, l.length)
theorem tree_nil (f : Src) (lv : Nat) : treeP f lv [] = some [] := by cases lv <;> rw [treeP]
theorem tree_cons (f : Src) (lv : Nat) (x : Itm) (l : List Itm) : treeP f (lv + 1) (x :: l) = match belowP f (lv + 1) x with
    | none => none
    | some p => match treeP f lv p.2, treeP f (lv + 1) l with
      | some a, some b => some (a ++ b)
      | _, _ => none := by rw [treeP]
theorem tree_app (f : Src) (lv : Nat) : ∀ (l m : List Itm), treeP f lv (l ++ m) = match treeP f lv l, treeP f lv m with
      | some a, some b => some (a ++ b)
      | _, _ => none := by
  cases lv with
  | zero => intro l m; rw [treeP, treeP, treeP]
  | succ lv =>
    intro l
    induction l with
    | nil => intro m; rw [List.nil_append, tree_nil]; cases treeP f (lv + 1) m <;> simp
    | cons x l ih =>
      intro m
      rw [List.cons_append, tree_cons, tree_cons, ih]
      cases belowP f (lv + 1) x with
      | none => rfl
      | some p =>
        dsimp only
        generalize treeP f lv p.2 = a
        generalize treeP f (lv + 1) l = b
        generalize treeP f (lv + 1) m = c
        cases a <;> cases b <;> cases c <;> simp
/-- how many keys an item of a level tells -/
def wt (lv : Nat) (x : Itm) : Nat := if lv = 0 then 1 else told x.2
def cnt (lv : Nat) (l : List Itm) : Nat := (l.map (wt lv)).sum
theorem cnt_app (lv : Nat) (l m : List Itm) : cnt lv (l ++ m) = cnt lv l + cnt lv m := by simp [cnt]
theorem cnt_0 (l : List Itm) : cnt 0 l = l.length := by
  induction l with
  | nil => rfl
  | cons x l ih => show wt 0 x + cnt 0 l = _; rw [ih]; simp [wt]; omega
theorem cnt_count (lv : Nat) (l : List Itm) (h : cnt lv l < 18446744073709551616) : countS lv l = cnt lv l := by
  unfold countS
  by_cases h0 : lv = 0
  · subst h0; rw [if_pos rfl, cnt_0]
  · rw [if_neg h0]
    have : (l.map fun x => told x.2).sum = cnt lv l := by
      unfold cnt; congr 1; apply List.map_congr_left; intro x _; unfold wt; rw [if_neg h0]
    rw [this, Nat.mod_eq_of_lt h]
theorem cnt_pos (lv : Nat) (l : List Itm) (h : 0 < l.length) (hv : ∀ x ∈ l, okVal lv x.2 = true) : 1 ≤ cnt lv l := by
  match l, h with
  | x :: l, _ =>
    show 1 ≤ wt lv x + cnt lv l
    have : 1 ≤ wt lv x := by
      unfold wt
      split
      · exact Nat.le_refl _
      · rename_i h0
        have := hv x (by simp)
        unfold okVal at this
        simp only [Bool.or_eq_true, Bool.and_eq_true, decide_eq_true_eq] at this
        rcases this with h | h
        · exact absurd h h0
        · exact h.1.2
    omega
/-- A node of the source whose items are right is found below the item that is made of it. -/
theorem below_up (f : Src) (lv : Nat) (P : List Itm) (hu : Up P) (hs : Shrt P) (hlv : lv ≤ 32) (hn : P.length ≤ 16) (h0 : 0 < P.length) (hv : ∀ x ∈ P, okVal lv x.2 = true) (hc : cnt lv P ≤ 1099511627776) (hf : f (sha (nodeB lv P)) = some (nodeB lv P)) :
    atS f (sha (nodeB lv P)) = some (lv, P) ∧ belowP f (lv + 1) (upS lv P) = some (lv, P) ∧ told (upS lv P).2 = cnt lv P ∧ okVal (lv + 1) (upS lv P).2 = true := by
  have hp := parse_node lv P (shrt_right P hu hs) (shrt_sm P hs) hlv hn (.inr h0) hv
  have hat : atS f (sha (nodeB lv P)) = some (lv, P) := by unfold atS; rw [hf]; exact hp
  have hcc := cnt_count lv P (by omega)
  have ht : told (upS lv P).2 = cnt lv P := by
    show told (sha (nodeB lv P) ++ be (countS lv P) 8) = _
    rw [told_be _ _ (sha_len _) (by rw [hcc]; omega), hcc]
  have hp1 := cnt_pos lv P h0 hv
  have hl : (upS lv P).2.length = 40 := by simp [upS, sha_len, be]
  refine ⟨hat, ?_, ht, ?_⟩
  · unfold belowP
    rw [up_take, hat]
    have : standsP (lv + 1) (upS lv P) lv P = true := by
      unfold standsP
      simp only [Bool.and_eq_true, decide_eq_true_eq, beq_iff_eq]
      exact ⟨⟨⟨trivial, h0⟩, rfl⟩, by rw [ht, hcc]⟩
    simp only [this, if_true]
  · simp only [okVal, hl, ht]
    simp; omega
theorem level_tree (f : Src) (lv : Nat) (hlv : lv ≤ 32) : ∀ (k : Nat) (l : List Itm), l.length ≤ k → Up l → Shrt l → (∀ x ∈ l, okVal lv x.2 = true) → cnt lv l ≤ 1099511627776 → (∀ s ∈ (levelS lv l).2, f (sha s) = some s) →
    treeP f (lv + 1) (levelS lv l).1 = treeP f lv l ∧ (∀ u ∈ (levelS lv l).1, okVal (lv + 1) u.2 = true) ∧ cnt (lv + 1) (levelS lv l).1 = cnt lv l := by
  intro k
  induction k with
  | zero =>
    intro l hk _ _ _ _ _
    obtain rfl : l = [] := List.eq_nil_of_length_eq_zero (by omega)
    rw [level_nil]
    exact ⟨by rw [tree_nil, tree_nil], fun u hu => by simp at hu, rfl⟩
  | succ k ih =>
    intro l hk hu hs hv hc hf
    rcases Nat.eq_zero_or_pos l.length with h0 | h0
    · obtain rfl : l = [] := List.eq_nil_of_length_eq_zero h0
      rw [level_nil]
      exact ⟨by rw [tree_nil, tree_nil], fun u hu => by simp at hu, rfl⟩
    · rw [level_cons lv l h0] at hf ⊢
      obtain ⟨p, hp⟩ : ∃ p, p = partS (l.map form) := ⟨_, rfl⟩
      have p1 := part_pos (l.map form) (by simpa using h0)
      have p2 := part_le (l.map form)
      rw [List.length_map] at p2
      rw [← hp] at p1 p2 hf ⊢
      have hsplit := List.take_append_drop p l
      have hc2 : cnt lv (l.take p) + cnt lv (l.drop p) = cnt lv l := by rw [← cnt_app, hsplit]
      obtain ⟨b1, b2, b3, b4⟩ := below_up f lv (l.take p) (Up.take hu p) (fun x hx => hs x (List.mem_of_mem_take hx)) hlv (by rw [List.length_take]; omega) (by rw [List.length_take]; omega) (fun x hx => hv x (List.mem_of_mem_take hx)) (by omega) (hf _ (by simp))
      obtain ⟨i1, i2, i3⟩ := ih (l.drop p) (by rw [List.length_drop]; omega) (Up.drop hu p) (fun x hx => hs x (List.mem_of_mem_drop hx)) (fun x hx => hv x (List.mem_of_mem_drop hx)) (by omega) (fun s hs => hf s (by simp [hs]))
      refine ⟨?_, ?_, ?_⟩
      · rw [tree_cons, b2]
        dsimp only
        rw [i1]
        conv => rhs; rw [← hsplit, tree_app]
      · intro u hu'
        rcases List.mem_cons.1 hu' with e | hu'
        · rw [e]; exact b4
        · exact i2 u hu'
      · show wt (lv + 1) (upS lv (l.take p)) + cnt (lv + 1) (levelS lv (l.drop p)).1 = _
        rw [i3]
        unfold wt
        rw [if_neg (by omega), b3, hc2]
theorem cut_half : ∀ (k : Nat) (l : List (List UInt8)), l.length ≤ k → (cutS l).length ≤ (l.length + 1) / 2 := by
  intro k
  induction k with
  | zero =>
    intro l hk
    obtain rfl : l = [] := List.eq_nil_of_length_eq_zero (by omega)
    rw [cut_nil]; simp
  | succ k ih =>
    intro l hk
    rcases Nat.eq_zero_or_pos l.length with h0 | h0
    · obtain rfl : l = [] := List.eq_nil_of_length_eq_zero h0
      rw [cut_nil]; simp
    · rw [cut_cons l h0, List.length_cons]
      have p1 := part_pos l h0
      have p2 := part_le l
      have hi := ih (l.drop (partS l)) (by rw [List.length_drop]; omega)
      rw [List.length_drop] at hi
      by_cases h2 : 2 ≤ l.length
      · have := part_two l h2; omega
      · have : l.length = 1 := by omega
        omega
theorem level_half (lv : Nat) (l : List Itm) : (levelS lv l).1.length ≤ (l.length + 1) / 2 := by
  rw [level_len]
  have := cut_half _ (l.map form) (Nat.le_refl _)
  rwa [List.length_map] at this
/-- The tree above items of a level: its root's node, and that it has just what is below them. -/
theorem top_tree (f : Src) : ∀ (k lv : Nat) (l : List Itm), l.length ≤ k → 0 < l.length → l.length ≤ 2 ^ (32 - lv) → lv ≤ 32 → Up l → Shrt l → (∀ x ∈ l, okVal lv x.2 = true) → cnt lv l ≤ 1099511627776 → (∀ s ∈ (nextS lv l).2, f (sha s) = some s) →
    ∃ v X, lv ≤ v ∧ v ≤ 32 ∧ 0 < X.length ∧ X.length ≤ 16 ∧ Up X ∧ Shrt X ∧ (∀ x ∈ X, okVal v x.2 = true) ∧ cnt v X = cnt lv l ∧ (nextS lv l).1 = sha (nodeB v X) ∧ nodeB v X ∈ (nextS lv l).2 ∧ atS f (nextS lv l).1 = some (v, X) ∧ treeP f v X = treeP f lv l := by
  intro k
  induction k with
  | zero => intro lv l h h0; omega
  | succ k ih =>
    intro lv l hk h0 hp hlv hu hs hv hc hf
    by_cases h1 : (levelS lv l).1.length = 1
    · have hn := next_leaf lv l h0 h1
      have hone := level_one lv l h0 h1
      rw [hn] at hf ⊢
      have h16 : l.length ≤ 16 := by
        have hc := level_cons lv l h0
        rw [hone] at hc
        injection hc with e1 e2
        injection e2 with e3 e4
        have hd : (levelS lv (l.drop (partS (l.map form)))).2 = [] := e4.symm
        have hd2 : l.drop (partS (l.map form)) = [] := by
          rcases Nat.lt_or_ge 0 (l.drop (partS (l.map form))).length with h | h
          · rw [level_cons lv _ h] at hd; cases hd
          · exact List.eq_nil_of_length_eq_zero (by omega)
        have := congrArg List.length hd2
        rw [List.length_drop] at this
        have p2 := part_le (l.map form)
        simp at this; omega
      obtain ⟨b1, _⟩ := below_up f lv l hu hs hlv h16 h0 hv hc (hf _ (by simp))
      exact ⟨lv, l, Nat.le_refl _, hlv, h0, h16, hu, hs, hv, rfl, rfl, by simp, b1, rfl⟩
    · have h2 : 2 ≤ (levelS lv l).1.length := by have := level_some lv l h0; omega
      have hn := next_more lv l h2
      rw [hn] at hf ⊢
      have hhalf := level_half lv l
      have hl3 : 3 ≤ l.length := by omega
      have hlv2 : lv + 1 ≤ 32 := by
        rcases Nat.lt_or_ge lv 32 with h | h
        · omega
        · have : lv = 32 := by omega
          subst this; simp at hp; omega
      have hpow : 2 ^ (32 - lv) = 2 * 2 ^ (32 - (lv + 1)) := by
        rw [show 32 - lv = (32 - (lv + 1)) + 1 by omega, Nat.pow_succ]; omega
      obtain ⟨t1, t2, t3⟩ := level_tree f lv hlv _ l (Nat.le_refl _) hu hs hv hc (fun s hs => hf s (by simp [hs]))
      obtain ⟨u1, u2, _⟩ := level_up lv _ l (Nat.le_refl _) hu hs
      obtain ⟨v, X, g1, g2, g3, g4, g5, g6, g7, g8, g9, g10, g11, g12⟩ := ih (lv + 1) (levelS lv l).1 (by omega) (by omega) (by omega) hlv2 u1 u2 t2 (by omega) (fun s hs => hf s (by simp [hs]))
      exact ⟨v, X, by omega, g2, g3, g4, g5, g6, g7, by omega, g9, by simp [g10], g11, g12.trans t1⟩
/-- The whole: the root of a list's tree leads to just its pairs. -/
theorem whole_tree (f : Src) (l : List Itm) (h0 : 0 < l.length) (hl : l.length ≤ 1000000) (hu : Up l) (hs : Shrt l) (hf : ∀ s ∈ (treeS l).2, f (sha s) = some s) :
    ∃ v X, v ≤ 32 ∧ 0 < X.length ∧ X.length ≤ 16 ∧ Up X ∧ Shrt X ∧ (∀ x ∈ X, okVal v x.2 = true) ∧ cnt v X = l.length ∧ (treeS l).1 = sha (nodeB v X) ∧ nodeB v X ∈ (treeS l).2 ∧ atS f (treeS l).1 = some (v, X) ∧ treeP f v X = some l := by
  rw [tree_next l (by omega)] at hf ⊢
  obtain ⟨v, X, g1, g2, g3, g4, g5, g6, g7, g8, g9, g10, g11, g12⟩ := top_tree f _ 0 l (Nat.le_refl _) h0 (by simp; omega) (by omega) hu hs (fun x _ => rfl) (by rw [cnt_0]; omega) hf
  exact ⟨v, X, g2, g3, g4, g5, g6, g7, by rw [g8, cnt_0], g9, g10, g11, by rw [g12, treeP]⟩
end Go.Proofs.Ytoidbgedpakjmaa.Tree
namespace Go.Proofs.Ytoidbgedpakjmaa.Tree
open Go.Proofs.Ytoidbgedpakjmaa Go.Proofs.Ytoidbgedpakjmaa.Lib Go.Proofs.Ytoidbgedpakjmaa.Sha Go.Proofs.Ytoidbgedpakjmaa.T07 Go.Proofs.Ytoidbgedpakjmaa.T08 Go.Proofs.Ytoidbgedpakjmaa.Itms Go.Proofs.Ytoidbgedpakjmaa.WSeq Go.Proofs.Ytoidbgedpakjmaa.Ord Go.Proofs.Ytoidbgedpakjmaa.W08 Go.Proofs.Ytoidbgedpakjmaa.Inj
theorem last_app (a b : List Itm) (h : 0 < b.length) : lastKey (a ++ b) = lastKey b := by
  unfold lastKey
  simp only [List.getD_eq_getElem?_getD, List.length_append]
  rw [List.getElem?_append_right (by omega)]
  congr 3; omega
/-- The last key below items is the last item's. -/
theorem last_tree (f : Src) : ∀ (lv : Nat) (k : Nat) (l P : List Itm), l.length ≤ k → treeP f lv l = some P → 0 < l.length → 0 < P.length ∧ lastKey P = lastKey l := by
  intro lv
  induction lv with
  | zero => intro k l P _ h h0; rw [treeP] at h; injection h with h; subst h; exact ⟨h0, rfl⟩
  | succ lv ihl =>
    intro k
    induction k with
    | zero => intro l P hk _ h0; omega
    | succ k ih =>
      intro l P hk h h0
      match l, h0 with
      | x :: l, _ =>
        rw [tree_cons] at h
        cases hb : belowP f (lv + 1) x with
        | none => rw [hb] at h; cases h
        | some p =>
          rw [hb] at h
          dsimp only at h
          obtain ⟨_, b1, b2, _, _⟩ := below_lv hb
          cases ha : treeP f lv p.2 with
          | none => rw [ha] at h; cases h
          | some a =>
            rw [ha] at h
            cases hr : treeP f (lv + 1) l with
            | none => rw [hr] at h; cases h
            | some b =>
              rw [hr] at h
              dsimp only at h
              injection h with h
              subst h
              obtain ⟨a1, a2⟩ := ihl _ p.2 a (Nat.le_refl _) ha b1
              rcases Nat.eq_zero_or_pos l.length with h0 | h0
              · obtain rfl : l = [] := List.eq_nil_of_length_eq_zero h0
                rw [tree_nil] at hr; injection hr with hr; subst hr
                rw [List.append_nil]
                exact ⟨a1, by rw [a2, b2]; rfl⟩
              · obtain ⟨c1, c2⟩ := ih l b (by simpa using hk) hr h0
                refine ⟨by rw [List.length_append]; omega, ?_⟩
                rw [last_app a b c1, c2]
                exact (last_app [x] l h0).symm
/-- the pairs from a key on -/
def fromP (key : List UInt8) (P : List Itm) : List Itm := P.filter fun x => !ltS x.1 key
theorem from_app (key : List UInt8) (a b : List Itm) : fromP key (a ++ b) = fromP key a ++ fromP key b := by simp [fromP]
theorem from_none (key : List UInt8) (P : List Itm) (hu : Up P) (h0 : 0 < P.length) (h : ltS (lastKey P) key = true) : fromP key P = [] := by
  unfold fromP
  rw [List.filter_eq_nil_iff]
  intro x hx
  obtain ⟨i, hi, rfl⟩ := List.getElem_of_mem hx
  have hl : lastKey P = (P[P.length - 1]).1 := by
    unfold lastKey; rw [List.getD_eq_getElem?_getD, List.getElem?_eq_getElem (by omega)]; rfl
  have : ltS (P[i]).1 key = true := by
    by_cases e : i = P.length - 1
    · subst e; rw [← hl]; exact h
    · unfold Up at hu
      rw [List.pairwise_iff_getElem] at hu
      exact lt_trans _ _ _ (hu i (P.length - 1) hi (by omega) (by omega)) (hl ▸ h)
  simp [this]
/-- What stands ahead of a key's place in a node has no pair from the key on. -/
theorem from_place (f : Src) (lv : Nat) (key : List UInt8) (l P : List Itm) (i : Nat) (hP : treeP f lv l = some P) (hu : Up P) (hi : i ≤ l.length) (hlt : ∀ t, t < i → ltS (itm l t).1 key = true) : ∃ Q, treeP f lv (l.drop i) = some Q ∧ fromP key P = fromP key Q := by
  have hs := List.take_append_drop i l
  have ht := tree_app f lv (l.take i) (l.drop i)
  rw [hs, hP] at ht
  cases ha : treeP f lv (l.take i) with
  | none => rw [ha] at ht; cases ht
  | some a =>
    cases hb : treeP f lv (l.drop i) with
    | none => rw [ha, hb] at ht; cases ht
    | some b =>
      rw [ha, hb] at ht
      dsimp only at ht
      injection ht with ht
      refine ⟨b, rfl, ?_⟩
      rw [ht, from_app]
      rcases Nat.eq_zero_or_pos i with h0 | h0
      · subst h0
        rw [List.take_zero, tree_nil] at ha; injection ha with ha; subst ha; rfl
      · have hua : Up a := by rw [ht] at hu; exact (List.pairwise_append.1 hu).1
        obtain ⟨c1, c2⟩ := last_tree f lv _ (l.take i) a (Nat.le_refl _) ha (by rw [List.length_take]; omega)
        have hlk : lastKey (l.take i) = (itm l (i - 1)).1 := by
          unfold lastKey itm
          rw [List.length_take, show min i l.length - 1 = i - 1 by omega]
          simp only [List.getD_eq_getElem?_getD]
          rw [List.getElem?_take_of_lt (by omega)]
        rw [from_none key a hua c1 (by rw [c2, hlk]; exact hlt (i - 1) (by omega))]
        rfl
end Go.Proofs.Ytoidbgedpakjmaa.Tree
namespace Go.Proofs.Ytoidbgedpakjmaa.Tree
open Go Go.RowKit Go.Proofs.Ytoidbgedpakjmaa Go.Proofs.Ytoidbgedpakjmaa.Lib Go.Proofs.Ytoidbgedpakjmaa.Sha Go.Proofs.Ytoidbgedpakjmaa.T07 Go.Proofs.Ytoidbgedpakjmaa.T08 Go.Proofs.Ytoidbgedpakjmaa.Itms Go.Proofs.Ytoidbgedpakjmaa.WSeq Go.Proofs.Ytoidbgedpakjmaa.Ord Go.Proofs.Ytoidbgedpakjmaa.W08 Go.Proofs.Ytoidbgedpakjmaa.Inj
theorem parseGo_ok (lv : Nat) : ∀ (n : Nat) (r : List UInt8) (l : List Itm) (r' : List UInt8), parseGo lv n r = some (l, r') → l.length = n ∧ ∀ x ∈ l, okVal lv x.2 = true := by
  intro n
  induction n with
  | zero => intro r l r' h; rw [parseGo] at h; injection h with h; injection h with h1 h2; subst h1; exact ⟨rfl, fun x hx => by simp at hx⟩
  | succ n ih =>
    intro r l r' h
    rw [parseGo] at h
    cases h1 : fieldS r with
    | none => rw [h1] at h; cases h
    | some p =>
      obtain ⟨k, r1⟩ := p
      rw [h1] at h
      dsimp only at h
      cases h2 : fieldS r1 with
      | none => rw [h2] at h; cases h
      | some q =>
        obtain ⟨v, r2⟩ := q
        rw [h2] at h
        dsimp only at h
        by_cases h3 : okVal lv v = true
        · rw [if_pos h3] at h
          cases h4 : parseGo lv n r2 with
          | none => rw [h4] at h; cases h
          | some z =>
            obtain ⟨l', r3⟩ := z
            rw [h4] at h
            dsimp only at h
            injection h with h; injection h with e1 e2
            subst e1
            obtain ⟨i1, i2⟩ := ih _ _ _ h4
            refine ⟨by rw [List.length_cons, i1], fun x hx => ?_⟩
            rcases List.mem_cons.1 hx with e | hx
            · rw [e]; exact h3
            · exact i2 x hx
        · rw [if_neg h3] at h; cases h
theorem parse_facts {s : List UInt8} {lv : Nat} {l : List Itm} (h : parseS s = some (lv, l)) : lv ≤ 32 ∧ l.length ≤ 16 ∧ (∀ x ∈ l, okVal lv x.2 = true) ∧ rightS l = true ∧ (0 < lv → 0 < l.length) := by
  unfold parseS at h
  split at h
  · rename_i hh
    unfold headOk at hh
    simp only [Bool.and_eq_true, decide_eq_true_eq] at hh
    obtain ⟨⟨⟨_, _⟩, h1⟩, h2⟩ := hh
    have h1 : (bat s 1).toNat ≤ 32 := by unfold bt at h1; unfold bat; omega
    have h2 : (bat s 2).toNat ≤ 16 := by unfold bt at h2; unfold bat; omega
    split at h
    · cases h
    · rename_i l' r hg
      split at h
      · rename_i hc
        injection h with h; injection h with e1 e2
        subst e1; subst e2
        obtain ⟨p1, p2⟩ := parseGo_ok _ _ _ _ _ hg
        refine ⟨h1, by omega, p2, hc.2.2, fun h3 => ?_⟩
        rcases Nat.eq_zero_or_pos l'.length with h0 | h0
        · exact absurd ⟨h3, h0⟩ hc.2.1
        · exact h0
      · cases h
  · cases h
theorem at_facts {f : Src} {k : List UInt8} {lv : Nat} {l : List Itm} (h : atS f k = some (lv, l)) : lv ≤ 32 ∧ l.length ≤ 16 ∧ (∀ x ∈ l, okVal lv x.2 = true) ∧ rightS l = true ∧ (0 < lv → 0 < l.length) := by
  unfold atS at h
  split at h
  · cases h
  · exact parse_facts h
theorem okVal_len {lv : Nat} {v : List UInt8} (h : okVal lv v = true) (h0 : 0 < lv) : v.length = 40 := by
  unfold okVal at h
  simp only [Bool.or_eq_true, Bool.and_eq_true, decide_eq_true_eq] at h
  omega
theorem up_right {l : List Itm} (h : rightS l = true) : Up l := by
  unfold Up
  rw [List.pairwise_iff_getElem]
  intro i j hi hj hij
  have := okS_lt l (right_ok h) i (j - i - 1) (by omega)
  rw [show i + (j - i - 1) + 1 = j by omega, itm_eq l i hi, itm_eq l j hj] at this
  exact this
theorem tree_step (f : Src) (lv : Nat) (l : List Itm) (k : Nat) (Q : List Itm) (hk : k < l.length) (h : treeP f (lv + 1) (l.drop k) = some Q) :
    ∃ p a b, belowP f (lv + 1) (itm l k) = some p ∧ treeP f lv p.2 = some a ∧ treeP f (lv + 1) (l.drop (k + 1)) = some b ∧ Q = a ++ b := by
  rw [List.drop_eq_getElem_cons hk, tree_cons, ← itm_eq l k hk] at h
  cases h1 : belowP f (lv + 1) (itm l k) with
  | none => rw [h1] at h; cases h
  | some p =>
    rw [h1] at h
    dsimp only at h
    cases h2 : treeP f lv p.2 with
    | none => rw [h2] at h; cases h
    | some a =>
      cases h3 : treeP f (lv + 1) (l.drop (k + 1)) with
      | none => rw [h2, h3] at h; cases h
      | some b =>
        rw [h2, h3] at h
        dsimp only at h
        injection h with h
        exact ⟨p, a, b, rfl, h2, rfl, h.symm⟩
/-- the first item whose key isn't below a key: Ord.placeS -/
theorem place_below (key : List UInt8) : ∀ l t, t < placeS l key → ltS (itm l t).1 key = true
  | [], t, h => absurd h (Nat.not_lt_zero _)
  | x :: l, t, h => by
    rw [placeS] at h
    split at h
    · rename_i hx
      cases t with
      | zero => exact hx
      | succ t => exact place_below key l t (by omega)
    · omega
theorem place_key (key : List UInt8) : ∀ l, placeS l key < l.length → ltS (itm l (placeS l key)).1 key = false
  | [], h => absurd h (Nat.not_lt_zero _)
  | x :: l, h => by
    rw [placeS] at h ⊢
    split
    · rename_i hx
      rw [if_pos hx, List.length_cons] at h
      exact place_key key l (by omega)
    · rename_i hx
      cases hh : ltS x.1 key with
      | true => exact absurd hh hx
      | false => exact hh
theorem place_s (l : List Itm) (key : List UInt8) (hok : okS l = true) : PlaceAt l key (placeS l key) :=
  ⟨place_le l key, fun t ht => place_below key l t ht, fun t ht ht2 => place_hi l key hok (placeS l key) t ht ht2 (place_key key l (by omega))⟩
/-- Pairs that are all from the key on. -/
theorem from_all (key : List UInt8) (l : List Itm) (h : ∀ t, t < l.length → ltS (itm l t).1 key = false) : fromP key l = l := by
  unfold fromP
  rw [List.filter_eq_self]
  intro x hx
  obtain ⟨i, hi, rfl⟩ := List.getElem_of_mem hx
  have := h i hi
  rw [itm_eq l i hi] at this
  rw [this]; rfl
/-- items, one behind the other: what each hands out; none, or false: it ends there -/
def goP (g : Itm → Option (List Itm × Bool)) : List Itm → List Itm × Bool
  | [] => ([], true)
  | x :: l => match g x with
    | none => ([], false)
    | some (a, false) => (a, false)
    | some (a, true) => (a ++ (goP g l).1, (goP g l).2)
def gP (f : Src) (key : List UInt8) : Nat → Itm → Option (List Itm × Bool)
  | 0, x => some ([x], true)
  | lv + 1, x => match belowP f (lv + 1) x with
    | none => none
    | some p => some (goP (gP f key lv) (p.2.drop (placeS p.2 key)))
/-- what a walk below a node hands out, and whether it came to its end -/
def walkP (f : Src) (key : List UInt8) (lv : Nat) (l : List Itm) : List Itm × Bool := goP (gP f key lv) (l.drop (placeS l key))
theorem goP_at (g : Itm → Option (List Itm × Bool)) (l : List Itm) (k : Nat) (h : k < l.length) : goP g (l.drop k) = match g (itm l k) with
    | none => ([], false)
    | some (a, false) => (a, false)
    | some (a, true) => (a ++ (goP g (l.drop (k + 1))).1, (goP g (l.drop (k + 1))).2) := by
  rw [List.drop_eq_getElem_cons h, ← itm_eq l k h, goP]
theorem walk_go (f : Src) (key : List UInt8) (lv : Nat) (hsub : ∀ x p, belowP f (lv + 1) x = some p → ∀ P, treeP f lv p.2 = some P → Up P → walkP f key lv p.2 = (fromP key P, true)) :
    ∀ (l Q : List Itm), treeP f (lv + 1) l = some Q → Up Q → goP (gP f key (lv + 1)) l = (fromP key Q, true) := by
  intro l
  induction l with
  | nil => intro Q h _; rw [tree_nil] at h; injection h with h; subst h; rfl
  | cons x l ih =>
    intro Q h hu
    rw [tree_cons] at h
    rw [goP, gP]
    cases hb : belowP f (lv + 1) x with
    | none => rw [hb] at h; cases h
    | some p =>
      rw [hb] at h
      dsimp only at h
      cases ha : treeP f lv p.2 with
      | none => rw [ha] at h; cases h
      | some a =>
        cases hr : treeP f (lv + 1) l with
        | none => rw [ha, hr] at h; cases h
        | some b =>
          rw [ha, hr] at h
          dsimp only at h
          injection h with h
          subst h
          have hua := (List.pairwise_append.1 hu).1
          have hub := (List.pairwise_append.1 hu).2.1
          have h1 := hsub x p hb a ha hua
          unfold walkP at h1
          dsimp only
          rw [h1]
          dsimp only
          rw [ih b hr hub, from_app]
theorem leaf_go (f : Src) (key : List UInt8) : ∀ l, goP (gP f key 0) l = (l, true)
  | [] => rfl
  | x :: l => by rw [goP, gP]; dsimp only; rw [leaf_go f key l]; rfl
/-- In a whole tree a walk hands out all pairs from the key on. -/
theorem walk_tree (f : Src) (key : List UInt8) : ∀ (lv : Nat) (l P : List Itm), treeP f lv l = some P → Up P → okS l = true → walkP f key lv l = (fromP key P, true) := by
  intro lv
  induction lv with
  | zero =>
    intro l P h hu hok
    have hp := place_s l key hok
    obtain ⟨Q, hQ, hf⟩ := from_place f 0 key l P _ h hu hp.1 hp.2.1
    rw [treeP] at hQ
    injection hQ with hQ
    unfold walkP
    rw [leaf_go, hf, ← hQ, from_all]
    intro t ht
    rw [List.length_drop] at ht
    have : itm (l.drop (placeS l key)) t = itm l (placeS l key + t) := by simp [itm, List.getD_eq_getElem?_getD]
    rw [this]
    exact hp.2.2 _ (by omega) (by omega)
  | succ lv ih =>
    intro l P h hu hok
    have hp := place_s l key hok
    obtain ⟨Q, hQ, hf⟩ := from_place f (lv + 1) key l P _ h hu hp.1 hp.2.1
    have huq : Up Q := by
      have ht := tree_app f (lv + 1) (l.take (placeS l key)) (l.drop (placeS l key))
      rw [List.take_append_drop, h, hQ] at ht
      cases ha : treeP f (lv + 1) (l.take (placeS l key)) with
      | none => rw [ha] at ht; cases ht
      | some a => rw [ha] at ht; injection ht with ht; rw [ht] at hu; exact (List.pairwise_append.1 hu).2.1
    unfold walkP
    rw [hf]
    refine walk_go f key lv (fun x p hb P' hP' hu' => ?_) _ Q hQ huq
    obtain ⟨_, _, _, _, hat⟩ := below_lv hb
    exact ih p.2 P' hP' hu' (right_ok (at_facts (lv := p.1) (l := p.2) hat).2.2.2.1)
theorem told_ok {lv : Nat} {v : List UInt8} (h : okVal (lv + 1) v = true) : told v ≤ 1099511627776 := by
  unfold okVal at h
  simp only [Bool.or_eq_true, Bool.and_eq_true, decide_eq_true_eq] at h
  omega
theorem wt_ok {lv : Nat} {x : Itm} (h : okVal lv x.2 = true) : wt lv x ≤ 1099511627776 := by
  unfold wt
  split
  · omega
  · cases lv with
    | zero => omega
    | succ lv => exact told_ok h
theorem cnt_bound (lv : Nat) (l : List Itm) (h : ∀ x ∈ l, okVal lv x.2 = true) : cnt lv l ≤ l.length * 1099511627776 := by
  induction l with
  | nil => simp [cnt]
  | cons x l ih =>
    have h1 := ih (fun y hy => h y (List.mem_cons_of_mem _ hy))
    have h2 : cnt lv (x :: l) = wt lv x + cnt lv l := rfl
    have h3 := wt_ok (h x (by simp))
    rw [h2, List.length_cons]
    omega
/-- A walk hands out no more than the counts tell. -/
theorem walk_len (f : Src) (key : List UInt8) : ∀ (lv : Nat) (l : List Itm), (goP (gP f key lv) l).1.length ≤ cnt lv l := by
  intro lv
  induction lv with
  | zero => intro l; rw [leaf_go, cnt_0]; exact Nat.le_refl _
  | succ lv ih =>
    intro l
    induction l with
    | nil => exact Nat.zero_le _
    | cons x l ih2 =>
      show _ ≤ wt (lv + 1) x + cnt (lv + 1) l
      rw [goP, gP]
      cases hb : belowP f (lv + 1) x with
      | none => exact Nat.zero_le _
      | some p =>
        dsimp only
        obtain ⟨h1, h2, _, h3, hat⟩ := below_lv hb
        obtain ⟨_, h16, hv, _, _⟩ := at_facts (lv := p.1) (l := p.2) hat
        have hplv : p.1 = lv := by omega
        have hcb := cnt_bound p.1 p.2 hv
        have hcc := cnt_count p.1 p.2 (by omega)
        have hd : cnt lv (p.2.drop (placeS p.2 key)) ≤ cnt lv p.2 := by
          have := cnt_app lv (p.2.take (placeS p.2 key)) (p.2.drop (placeS p.2 key))
          rw [List.take_append_drop] at this
          omega
        have hsub := ih (p.2.drop (placeS p.2 key))
        have hwx : wt (lv + 1) x = cnt lv p.2 := by
          unfold wt; rw [if_neg (by omega), ← h3, hcc, hplv]
        rw [hwx]
        rcases hg : goP (gP f key lv) (p.2.drop (placeS p.2 key)) with ⟨a, ok⟩
        rw [hg] at hsub
        cases ok with
        | false => dsimp only at hsub ⊢; omega
        | true => dsimp only at hsub ⊢; rw [List.length_append]; omega
/-- what a run hands out from off on -/
def EncAt (encs : Nat → Array Value) (off : Nat) (L : List Itm) : Prop := ∀ j, j < L.length → encs (off + j) = #[.string (Str (itm L j).1), .string (Str (itm L j).2)]
theorem itm_left (a b : List Itm) (j : Nat) (h : j < a.length) : itm (a ++ b) j = itm a j := by
  simp [itm, List.getD_eq_getElem?_getD, List.getElem?_append_left h]
theorem itm_right (a b : List Itm) (j : Nat) : itm (a ++ b) (a.length + j) = itm b j := by
  unfold itm; rw [List.getD_eq_getElem?_getD, List.getD_eq_getElem?_getD, List.getElem?_append_right (by omega), Nat.add_sub_cancel_left]
theorem enc_left {encs : Nat → Array Value} {off : Nat} {a b : List Itm} (h : EncAt encs off (a ++ b)) : EncAt encs off a := fun j hj => by
  rw [h j (by rw [List.length_append]; omega), itm_left a b j hj]
theorem enc_right {encs : Nat → Array Value} {off : Nat} {a b : List Itm} (h : EncAt encs off (a ++ b)) : EncAt encs (off + a.length) b := fun j hj => by
  have := h (a.length + j) (by rw [List.length_append]; omega)
  rw [itm_right] at this
  rw [Nat.add_assoc]; exact this
theorem itm_drop (l : List Itm) (i k : Nat) : itm (l.drop i) k = itm l (i + k) := by simp [itm, List.getD_eq_getElem?_getD]
end Go.Proofs.Ytoidbgedpakjmaa.Tree
