/- Layer 11 in plain words: in a whole tree each key has a way, whose last node shows what the map has. -/
import Derived.Test.YteeonfnaikndfaaW11f
import Derived.Test.YteeonfnaikndfaaTreed
set_option linter.unusedVariables false
set_option linter.unusedSimpArgs false
namespace Go.Proofs.Yteeonfnaikndfaa.W11
open Go Go.RowKit Go.Proofs.Yteeonfnaikndfaa Go.Proofs.Yteeonfnaikndfaa.Lib Go.Proofs.Yteeonfnaikndfaa.Sha Go.Proofs.Yteeonfnaikndfaa.T07 Go.Proofs.Yteeonfnaikndfaa.T08 Go.Proofs.Yteeonfnaikndfaa.Itms Go.Proofs.Yteeonfnaikndfaa.WSeq Go.Proofs.Yteeonfnaikndfaa.Ord Go.Proofs.Yteeonfnaikndfaa.W08 Go.Proofs.Yteeonfnaikndfaa.Inj Go.Proofs.Yteeonfnaikndfaa.Tree Go.Proofs.Yteeonfnaikndfaa.Wit
/-- what a map has at a key -/
def lookS (m : List Itm) (key : List UInt8) : Option (List UInt8) := (m.find? fun x => x.1 == key).map (·.2)
theorem look_app (a b : List Itm) (key : List UInt8) : lookS (a ++ b) key = (lookS a key).or (lookS b key) := by
  unfold lookS
  rw [List.find?_append]
  cases a.find? fun x => x.1 == key <;> rfl
theorem look_none (m : List Itm) (key : List UInt8) (h : ∀ x ∈ m, x.1 ≠ key) : lookS m key = none := by
  unfold lookS
  rw [List.find?_eq_none.2 (fun x hx => by simpa using h x hx)]; rfl
theorem lt_ne {a b : List UInt8} (h : ltS a b = true) : a ≠ b := fun e => by rw [e, lt_irrefl] at h; cases h
/-- keys of pairs whose last key is below a key are not that key -/
theorem below_ne (P : List Itm) (key : List UInt8) (hu : Up P) (h : 0 < P.length → ltS (lastKey P) key = true) : ∀ x ∈ P, x.1 ≠ key := by
  intro x hx
  have h0 : 0 < P.length := List.length_pos_of_mem hx
  have hn := from_none key P hu h0 (h h0)
  unfold fromP at hn
  rw [List.filter_eq_nil_iff] at hn
  have := hn x hx
  simp at this
  exact lt_ne this
theorem look_leaf (l : List Itm) (key : List UInt8) (hok : okS l = true) : shownS (0, l) key = lookS l key := by
  have hp := place_s l key hok
  have hu : Up l := (okS_iff l).1 hok
  unfold shownS
  dsimp only
  obtain ⟨i, hi⟩ : ∃ i, i = placeS l key := ⟨_, rfl⟩
  rw [← hi] at hp ⊢
  have hsp : l = l.take i ++ l.drop i := (List.take_append_drop i l).symm
  have h1 : lookS (l.take i) key = none := look_none _ _ (fun x hx => by
    obtain ⟨t, ht, rfl⟩ := List.getElem_of_mem hx
    rw [List.length_take] at ht
    have := hp.2.1 t (by omega)
    rw [itm_eq l t (by omega)] at this
    rw [List.getElem_take]; exact lt_ne this)
  have h2 : lookS l key = lookS (l.drop i) key := by
    conv => lhs; rw [hsp, look_app, h1]
    rfl
  rw [h2]
  by_cases hlt : i < l.length
  · rw [List.drop_eq_getElem_cons hlt]
    have hx : (itm l i) = l[i] := itm_eq l i hlt
    by_cases he : (itm l i).1 = key
    · rw [if_pos ⟨rfl, hlt, he⟩]
      unfold lookS
      rw [List.find?_cons_of_pos (by rw [← hx]; simpa using he), ← hx]; rfl
    · rw [if_neg (fun h => he h.2.2)]
      symm
      refine look_none _ _ (fun x hx' => ?_)
      rcases List.mem_cons.1 hx' with e | hx'
      · rw [e, ← hx]; exact he
      · obtain ⟨t, ht, rfl⟩ := List.getElem_of_mem hx'
        rw [List.length_drop] at ht
        have h3 := okS_lt l hok i t (by omega)
        have h4 := hp.2.2 i (Nat.le_refl _) hlt
        intro e
        have e2 : (itm l (i + t + 1)).1 = key := by
          rw [← e, List.getElem_drop, show i + t + 1 = i + 1 + t by omega, itm_eq l (i + 1 + t) (by omega)]
        rw [e2] at h3
        rw [h3] at h4; cases h4
  · rw [if_neg (fun h => hlt h.2.1), List.drop_of_length_le (by omega)]; rfl
/-- In a whole tree a way from a node ends at one that shows what the pairs below have. -/
theorem end_whole (f : Src) (key : List UInt8) : ∀ (lv k : Nat) (l P : List Itm), lv ≤ k → treeP f lv l = some P → Up P → okS l = true → ∃ n, endFrom f key k (lv, l) = some n ∧ shownS n key = lookS P key := by
  intro lv
  induction lv with
  | zero =>
    intro k l P _ hT hu hok
    rw [treeP] at hT
    injection hT with hT
    subst hT
    refine ⟨(0, l), ?_, look_leaf l key hok⟩
    unfold endFrom
    rw [if_pos (by unfold endsAt; rfl)]
  | succ lv ih =>
    intro k l P hk hT hu hok
    have hp := place_s l key hok
    obtain ⟨i, hi⟩ : ∃ i, i = placeS l key := ⟨_, rfl⟩
    rw [← hi] at hp
    have hsplit := tree_app f (lv + 1) (l.take i) (l.drop i)
    rw [List.take_append_drop, hT] at hsplit
    obtain ⟨a0, ha0⟩ : ∃ a0, treeP f (lv + 1) (l.take i) = some a0 := by
      cases h : treeP f (lv + 1) (l.take i) with
      | none => rw [h] at hsplit; cases hsplit
      | some a => exact ⟨a, rfl⟩
    obtain ⟨Q, hQ⟩ : ∃ Q, treeP f (lv + 1) (l.drop i) = some Q := by
      cases h : treeP f (lv + 1) (l.drop i) with
      | none => rw [ha0, h] at hsplit; cases hsplit
      | some a => exact ⟨a, rfl⟩
    rw [ha0, hQ] at hsplit
    injection hsplit with hsplit
    have hsplit : P = a0 ++ Q := hsplit
    have hua : Up a0 := by rw [hsplit] at hu; exact (List.pairwise_append.1 hu).1
    have huq : Up Q := by rw [hsplit] at hu; exact (List.pairwise_append.1 hu).2.1
    have hla : lookS a0 key = none := by
      refine look_none _ _ (below_ne a0 key hua (fun h0 => ?_))
      rcases Nat.eq_zero_or_pos i with hz | hz
      · rw [hz, List.take_zero, tree_nil] at ha0
        injection ha0 with ha0
        rw [← ha0] at h0; simp at h0
      · have hlt := last_tree f (lv + 1) _ (l.take i) a0 (Nat.le_refl _) ha0 (by rw [List.length_take]; have := hp.1; omega)
        rw [hlt.2]
        have hlk : lastKey (l.take i) = (itm l (i - 1)).1 := by
          unfold lastKey itm
          rw [List.length_take, show min i l.length - 1 = i - 1 by have := hp.1; omega]
          simp only [List.getD_eq_getElem?_getD]
          rw [List.getElem?_take_of_lt (by omega)]
        rw [hlk]
        exact hp.2.1 (i - 1) (by omega)
    have hlp : lookS P key = lookS Q key := by rw [hsplit, look_app, hla]; rfl
    rw [hlp]
    by_cases hil : i = l.length
    · rw [hil, List.drop_length, tree_nil] at hQ
      injection hQ with hQ
      refine ⟨(lv + 1, l), ?_, ?_⟩
      · unfold endFrom
        rw [if_pos (by unfold endsAt; dsimp only; rw [← hi, hil]; simp)]
      · unfold shownS
        rw [if_neg (fun h => by have := h.1; dsimp only at this; omega), ← hQ]; rfl
    · have hlt : i < l.length := by have := hp.1; omega
      obtain ⟨⟨pm, ys⟩, a, b, hbel, hta, htb, hQe⟩ := tree_step f lv l i Q hlt hQ
      obtain ⟨hpm, hys0, hlast, _, hat⟩ := below_lv hbel
      dsimp only at hpm hys0 hlast hta
      obtain rfl : pm = lv := by omega
      obtain ⟨_, _, _, hyr, _⟩ := at_facts hat
      rw [hQe] at huq
      have hua2 := (List.pairwise_append.1 huq).1
      obtain ⟨k', rfl⟩ : ∃ k', k = k' + 1 := ⟨k - 1, by omega⟩
      obtain ⟨n, hn1, hn2⟩ := ih k' ys a (by omega) hta hua2 (right_ok hyr)
      refine ⟨n, ?_, ?_⟩
      · rw [end_step f key k' (pm + 1) l (by unfold endsAt; dsimp only; rw [← hi]; simp; omega), ← hi, hbel]
        exact hn1
      · rw [hn2, hQe, look_app]
        have hlb : lookS b key = none := by
          refine look_none _ _ (fun x hx e => ?_)
          have hl2 := last_tree f pm _ ys a (Nat.le_refl _) hta hys0
          have hge := hp.2.2 i (Nat.le_refl _) hlt
          have hm : ∃ z ∈ a, z.1 = (itm l i).1 := by
            refine ⟨a[a.length - 1]'(by omega), List.getElem_mem _, ?_⟩
            have : lastKey a = (a[a.length - 1]'(by omega)).1 := by
              unfold lastKey; rw [List.getD_eq_getElem?_getD, List.getElem?_eq_getElem (by omega)]; rfl
            rw [← this, hl2.2, hlast]
          obtain ⟨z, hz, hzk⟩ := hm
          have h3 := (List.pairwise_append.1 huq).2.2 z hz x hx
          rw [hzk, e] at h3
          rw [h3] at hge; cases hge
        rw [hlb]; cases lookS a key <;> rfl
/-- In a map's whole tree each key has a way, whose last node shows what the map has there. -/
theorem way_whole (f : Src) (root key : List UInt8) (v : Nat) (X m : List Itm) (hat : atS f root = some (v, X)) (hT : treeP f v X = some m) (hu : Up m) : ∃ ts n z, wayS (srcNx f) key () root = some (ts, n, z) ∧ shownS n key = lookS m key := by
  obtain ⟨hv, _, _, hr, _⟩ := at_facts hat
  obtain ⟨n, h1, h2⟩ := end_whole f key v 33 X m (by omega) hT hu (right_ok hr)
  have hw := way_root f key root
  rw [hat] at hw
  dsimp only at hw
  rw [h1] at hw
  rcases hws : wayS (srcNx f) key () root with _ | ⟨ts, n', z⟩
  · rw [hws] at hw; cases hw
  · rw [hws] at hw
    injection hw with hw
    have hw : n' = n := hw
    exact ⟨ts, n', z, rfl, by rw [hw]; exact h2⟩
theorem proof_texts (ns : List (List UInt8)) : ∀ (st p t st' : List UInt8), (∃ ts', st = bytesS ts' ∧ ∀ x ∈ ts', x ∈ ns ∧ x.length < 4294967296) → proofNx st p = some (t, st') → t ∈ ns ∧ ∃ ts', st' = bytesS ts' ∧ ∀ x ∈ ts', x ∈ ns ∧ x.length < 4294967296 := by
  rintro st p t st' ⟨ts, rfl, hts⟩ h
  cases ts with
  | nil =>
    have hc : cutP (bytesS []) = none := rfl
    unfold proofNx at h
    rw [hc] at h; cases h
  | cons t0 rest =>
    obtain ⟨h0, h1⟩ := hts t0 (by simp)
    have e : bytesS (t0 :: rest) = four t0.length ++ t0 ++ bytesS rest := by simp [bytesS]
    unfold proofNx at h
    rw [e, cut_four t0 _ h1] at h
    dsimp only at h
    split at h
    · injection h with h; injection h with q1 q2
      subst q1; subst q2
      exact ⟨h0, rest, rfl, fun x hx => hts x (List.mem_cons_of_mem _ hx)⟩
    · cases h
/-- the bytes that Prove answers -/
def proveP (f : Src) (root key : List UInt8) : List UInt8 := match wayS (srcNx f) key () root with
  | none => []
  | some (ts, _, _) => bytesS ts
/-- A proof of one map and key shows nothing wrong of another map and key. -/
theorem other_law (ns1 ns2 : List (List UInt8)) (h1 : ∀ s ∈ ns1, s.length < 4294967296) (hc : NoC (ns1 ++ ns2) (ns1 ++ ns2)) (a b k0 k1 : List UInt8) (v : Nat) (X y : List Itm) (hat : atS (heapF ns2) b = some (v, X)) (hT : treeP (heapF ns2) v X = some y) (hu : Up y) (s : Option (List UInt8))
    (hv : verifyS b k1 (proveP (heapF ns1) a k0) = some s) : s = lookS y k1 := by
  obtain ⟨ts2, n2, z, hw2, hs2⟩ := way_whole (heapF ns2) b k1 v X y hat hT hu
  unfold verifyS at hv
  rcases ht : toldS b k1 (proveP (heapF ns1) a k0) with _ | ⟨us, m⟩
  · rw [ht] at hv; cases hv
  rw [ht] at hv
  injection hv with hv
  have hv : shownS m k1 = s := hv
  have hu2 : ∃ r, wayS proofNx k1 (proveP (heapF ns1) a k0) b = some (us, m, r) := by
    unfold toldS at ht
    split at ht
    · cases ht
    · split at ht
      · cases ht
      · rename_i ts' n' r' hw'
        split at ht
        · injection ht with ht; injection ht with e1 e2
          subst e1; subst e2
          exact ⟨r', hw'⟩
        · cases ht
  obtain ⟨r, hu2⟩ := hu2
  have hp : ∃ ts', proveP (heapF ns1) a k0 = bytesS ts' ∧ ∀ x ∈ ts', x ∈ ns1 ∧ x.length < 4294967296 := by
    unfold proveP
    rcases hw : wayS (srcNx (heapF ns1)) k0 () a with _ | ⟨ts, n, z⟩
    · exact ⟨[], rfl, fun x hx => by cases hx⟩
    · exact ⟨ts, rfl, fun x hx => by
        have := way_all (heapF ns1) (fun t => t ∈ ns1) (fun k s h => (heap_mem h).1) k0 _ _ _ _ _ _ _ hw x hx
        exact ⟨this, h1 x this⟩⟩
  rcases two_ways (srcNx (heapF ns2)) proofNx (fun st p t st' h => by
      unfold srcNx at h
      cases h9 : heapF ns2 p with
      | none => rw [h9] at h; cases h
      | some s' => rw [h9] at h; injection h with h; injection h with h; subst h; exact (heap_mem h9).2) proof_sha k1 _ _ _ _ _ _ _ _ _ _ _ _ hw2 hu2 with ⟨i1, _⟩ | ⟨x, x', i1, i2, i3, i4, i5⟩
  · rw [← hv, ← i1, hs2]
  · have m1 : x ∈ ns2 := way_all (heapF ns2) (fun t => t ∈ ns2) (fun k s h => (heap_mem h).1) k1 _ _ _ _ _ _ _ hw2 x i4
    have m2 : x' ∈ ns1 := way_inv proofNx (fun r => ∃ ts', r = bytesS ts' ∧ ∀ x ∈ ts', x ∈ ns1 ∧ x.length < 4294967296) (fun t => t ∈ ns1) (proof_texts ns1) k1 _ _ _ _ _ _ _ _ hp hu2 x' i5
    exact absurd (hc x (List.mem_append_right _ m1) x' (List.mem_append_left _ m2) i3) i2
end Go.Proofs.Yteeonfnaikndfaa.W11
