/- Layer 11 in plain words: a proof's texts, all of them ahead, and the way through them. -/
import Derived.Test.YteeonfnaikndfaaWit
set_option linter.unusedVariables false
set_option linter.unusedSimpArgs false
namespace Go.Proofs.Yteeonfnaikndfaa.Wit
open Go Go.RowKit Go.Proofs.Yteeonfnaikndfaa Go.Proofs.Yteeonfnaikndfaa.Lib Go.Proofs.Yteeonfnaikndfaa.Sha Go.Proofs.Yteeonfnaikndfaa.T07 Go.Proofs.Yteeonfnaikndfaa.T08 Go.Proofs.Yteeonfnaikndfaa.Itms Go.Proofs.Yteeonfnaikndfaa.WSeq Go.Proofs.Yteeonfnaikndfaa.Ord Go.Proofs.Yteeonfnaikndfaa.W08 Go.Proofs.Yteeonfnaikndfaa.Inj Go.Proofs.Yteeonfnaikndfaa.Tree
theorem cut_rest {s t r : List UInt8} (h : cutP s = some (t, r)) : r.length + 4 ≤ s.length ∧ t.length + 4 ≤ s.length := by
  unfold cutP at h
  split at h
  · cases h
  · split at h
    · cases h
    · injection h with h; injection h with h1 h2
      subst h1; subst h2
      simp only [List.length_drop, List.length_take]; omega
/-- a proof's texts -/
def nodesF : Nat → List UInt8 → Option (List (List UInt8))
  | 0, s => if s = [] then some [] else none
  | k + 1, s => if s = [] then some [] else match cutP s with
    | none => none
    | some (t, r) => (nodesF k r).map (t :: ·)
def nodesS (s : List UInt8) : Option (List (List UInt8)) := nodesF s.length s
theorem nodesF_any : ∀ (k j : Nat) (s : List UInt8), s.length ≤ k → s.length ≤ j → nodesF k s = nodesF j s
  | 0, 0, s, _, _ => rfl
  | 0, j + 1, s, h, _ => by
    obtain rfl : s = [] := List.eq_nil_of_length_eq_zero (by omega)
    rfl
  | k + 1, 0, s, _, h => by
    obtain rfl : s = [] := List.eq_nil_of_length_eq_zero (by omega)
    rfl
  | k + 1, j + 1, s, h1, h2 => by
    rw [nodesF, nodesF]
    split
    · rfl
    · cases hc : cutP s with
      | none => rfl
      | some q =>
        obtain ⟨t, r⟩ := q
        dsimp only
        have := (cut_rest hc).1
        rw [nodesF_any k j r (by omega) (by omega)]
theorem nodes_nil : nodesS [] = some [] := rfl
theorem nodes_cut {s : List UInt8} (h : s ≠ []) : nodesS s = match cutP s with
    | none => none
    | some (t, r) => (nodesS r).map (t :: ·) := by
  have h0 : 0 < s.length := List.length_pos_iff.2 h
  unfold nodesS
  rw [show s.length = (s.length - 1) + 1 by omega, nodesF, if_neg h]
  cases hc : cutP s with
  | none => rfl
  | some q =>
    obtain ⟨t, r⟩ := q
    dsimp only
    have := (cut_rest hc).1
    rw [nodesF_any (s.length - 1) r.length r (by omega) (Nat.le_refl _)]
/-- the texts, as what a way asks -/
def listNx : Next (List (List UInt8)) := fun l p => match l with
  | [] => none
  | t :: r => if sha t = p then some (t, r) else none
theorem proof_cut {st p t r : List UInt8} (h : proofNx st p = some (t, r)) : cutP st = some (t, r) ∧ sha t = p := by
  unfold proofNx at h
  cases hc : cutP st with
  | none => rw [hc] at h; cases h
  | some q =>
    obtain ⟨a, b⟩ := q
    rw [hc] at h
    dsimp only at h
    split at h
    · injection h with h; injection h with h1 h2
      subst h1; subst h2; rename_i hs
      exact ⟨rfl, hs⟩
    · cases h
theorem cut_ne {s : List UInt8} {q : List UInt8 × List UInt8} (h : cutP s = some q) : s ≠ [] := fun e => by
  subst e; cases h
/-- where a way ends the rest of the texts is what is left of them -/
theorem way_rest (key : List UInt8) : ∀ (k : Nat) (st p : List UInt8) (lv : Nat) (x : Option Itm) (ts : List (List UInt8)) (n : Nat × List Itm) (z : List UInt8), wayGo proofNx key k st p lv x = some (ts, n, z) → nodesS st = (nodesS z).map (ts ++ ·) := by
  intro k
  induction k with
  | zero => intro st p lv x ts n z h; rw [wayGo] at h; cases h
  | succ k ih =>
    intro st p lv x ts n z h
    rw [way_step] at h
    cases h1 : proofNx st p with
    | none => rw [h1] at h; cases h
    | some q =>
      obtain ⟨t, r⟩ := q
      obtain ⟨hc, _⟩ := proof_cut h1
      have hn := nodes_cut (cut_ne hc)
      rw [hc] at hn
      dsimp only at hn
      rw [h1] at h
      dsimp only at h
      cases h2 : nodeS t lv x with
      | none => rw [h2] at h; cases h
      | some m =>
        rw [h2] at h
        dsimp only at h
        split at h
        · injection h with h; injection h with e1 e2; injection e2 with e2 e3
          subst e1; subst e3
          rw [hn]
          cases nodesS r <;> rfl
        · cases h3 : wayGo proofNx key k r ((itm m.2 (placeS m.2 key)).2.take 32) m.1 (some (itm m.2 (placeS m.2 key))) with
          | none => rw [h3] at h; cases h
          | some y =>
            obtain ⟨ts', n', z'⟩ := y
            rw [h3] at h
            dsimp only at h
            injection h with h; injection h with e1 e2; injection e2 with e2 e3
            subst e1; subst e3
            rw [hn, ih _ _ _ _ _ _ _ h3]
            cases nodesS z' <;> rfl
/-- a way over bytes that are texts is a way over these texts -/
theorem way_list (key : List UInt8) : ∀ (k : Nat) (st : List UInt8) (l : List (List UInt8)) (p : List UInt8) (lv : Nat) (x : Option Itm), nodesS st = some l →
    match wayGo proofNx key k st p lv x, wayGo listNx key k l p lv x with
    | none, none => True
    | some (ts, n, z), some (ts', n', z') => ts = ts' ∧ n = n' ∧ nodesS z = some z'
    | _, _ => False := by
  intro k
  induction k with
  | zero => intro st l p lv x _; rw [wayGo, wayGo]; trivial
  | succ k ih =>
    intro st l p lv x hl
    rw [way_step, way_step]
    by_cases h0 : st = []
    · subst h0
      rw [nodes_nil] at hl
      injection hl with hl
      subst hl
      have e1 : proofNx [] p = none := rfl
      have e2 : listNx [] p = none := rfl
      rw [e1, e2]; trivial
    · have hn := nodes_cut h0
      rw [hl] at hn
      cases hc : cutP st with
      | none => rw [hc] at hn; cases hn
      | some q =>
        obtain ⟨t, r⟩ := q
        rw [hc] at hn
        dsimp only at hn
        cases hr : nodesS r with
        | none => rw [hr] at hn; cases hn
        | some l' =>
          rw [hr] at hn
          injection hn with hn
          have hn : l = t :: l' := hn
          subst hn
          by_cases hs : sha t = p
          · have e1 : proofNx st p = some (t, r) := by unfold proofNx; rw [hc]; dsimp only; rw [if_pos hs]
            have e2 : listNx (t :: l') p = some (t, l') := by unfold listNx; dsimp only; rw [if_pos hs]
            rw [e1, e2]
            dsimp only
            cases h2 : nodeS t lv x with
            | none => trivial
            | some m =>
              dsimp only
              by_cases he : endsAt m key = true
              · rw [if_pos he, if_pos he]; exact ⟨rfl, rfl, hr⟩
              · rw [if_neg he, if_neg he]
                have i1 := ih r l' ((itm m.2 (placeS m.2 key)).2.take 32) m.1 (some (itm m.2 (placeS m.2 key))) hr
                rcases w1 : wayGo proofNx key k r ((itm m.2 (placeS m.2 key)).2.take 32) m.1 (some (itm m.2 (placeS m.2 key))) with _ | ⟨ts, n, z⟩ <;>
                rcases w2 : wayGo listNx key k l' ((itm m.2 (placeS m.2 key)).2.take 32) m.1 (some (itm m.2 (placeS m.2 key))) with _ | ⟨ts', n', z'⟩
                · trivial
                · rw [w1, w2] at i1; exact i1
                · rw [w1, w2] at i1; exact i1
                · rw [w1, w2] at i1
                  exact ⟨by rw [i1.1], i1.2.1, i1.2.2⟩
          · have e1 : proofNx st p = none := by unfold proofNx; rw [hc]; dsimp only; rw [if_neg hs]
            have e2 : listNx (t :: l') p = none := by unfold listNx; dsimp only; rw [if_neg hs]
            rw [e1, e2]; trivial
/-- what texts show, all of them read -/
def showL (key : List UInt8) (r : Option (List (List UInt8) × (Nat × List Itm) × List (List UInt8))) : Option (Option (List UInt8)) := match r with
  | some (_, n, []) => some (shownS n key)
  | _ => none
/-- What bytes show, by their texts. -/
theorem verify_list (root key proof : List UInt8) (hl : proof.length ≤ 1048576) : verifyS root key proof = match nodesS proof with
    | none => none
    | some l => showL key (wayS listNx key l root) := by
  unfold verifyS toldS
  rw [if_neg (by omega)]
  cases hn : nodesS proof with
  | none =>
    dsimp only
    rcases hw : wayS proofNx key proof root with _ | ⟨ts, n, z⟩
    · rfl
    · dsimp only
      have := way_rest key _ _ _ _ _ _ _ _ hw
      rw [if_neg]
      intro hz
      rw [hz, nodes_nil, hn] at this; cases this
  | some l =>
    dsimp only
    have h1 := way_list key 34 proof l root 0 none hn
    unfold wayS
    rcases w1 : wayGo proofNx key 34 proof root 0 none with _ | ⟨ts, n, z⟩ <;>
    rcases w2 : wayGo listNx key 34 l root 0 none with _ | ⟨ts', n', z'⟩
    · rfl
    · rw [w1, w2] at h1; exact h1.elim
    · rw [w1, w2] at h1; exact h1.elim
    · rw [w1, w2] at h1
      obtain ⟨_, rfl, h3⟩ := h1
      dsimp only
      cases z' with
      | nil =>
        have hz : z = [] := by
          cases z with
          | nil => rfl
          | cons c z =>
            have h4 := nodes_cut (s := c :: z) (by simp)
            rw [h3] at h4
            cases hc : cutP (c :: z) with
            | none => rw [hc] at h4; cases h4
            | some q =>
              obtain ⟨a, b⟩ := q
              rw [hc] at h4
              dsimp only at h4
              cases hb : nodesS b with
              | none => rw [hb] at h4; cases h4
              | some y => rw [hb] at h4; injection h4 with h4; cases h4
        rw [if_pos hz]; rfl
      | cons c z' =>
        have hz : z ≠ [] := fun e => by rw [e, nodes_nil] at h3; injection h3 with h3; cases h3
        rw [if_neg hz]; rfl
/-- from a node on, over texts -/
def endL (key : List UInt8) (k : Nat) (m : Nat × List Itm) (l : List (List UInt8)) : Option (Option (List UInt8)) :=
  if endsAt m key = true then (if l = [] then some (shownS m key) else none)
  else showL key (wayGo listNx key k l ((itm m.2 (placeS m.2 key)).2.take 32) m.1 (some (itm m.2 (placeS m.2 key))))
theorem endL_end {key : List UInt8} {k : Nat} {m : Nat × List Itm} {l : List (List UInt8)} (h : endsAt m key = true) : endL key k m l = if l = [] then some (shownS m key) else none := by unfold endL; rw [if_pos h]
theorem show_go (key : List UInt8) (k : Nat) (t : List UInt8) (l : List (List UInt8)) (p : List UInt8) (lv : Nat) (x : Option Itm) : showL key (wayGo listNx key (k + 1) (t :: l) p lv x) = if sha t = p then (match nodeS t lv x with
    | none => none
    | some m => endL key k m l) else none := by
  rw [way_step]
  by_cases hs : sha t = p
  · have e2 : listNx (t :: l) p = some (t, l) := by unfold listNx; dsimp only; rw [if_pos hs]
    rw [e2, if_pos hs]
    dsimp only
    cases h2 : nodeS t lv x with
    | none => rfl
    | some m =>
      dsimp only
      by_cases he : endsAt m key = true
      · rw [if_pos he, endL_end he]
        cases l with
        | nil => rw [if_pos rfl]; rfl
        | cons a l => rw [if_neg (by simp)]; rfl
      · rw [if_neg he]
        unfold endL
        rw [if_neg he]
        rcases wayGo listNx key k l ((itm m.2 (placeS m.2 key)).2.take 32) m.1 (some (itm m.2 (placeS m.2 key))) with _ | ⟨ts, n, z⟩
        · rfl
        · cases z <;> rfl
  · have e2 : listNx (t :: l) p = none := by unfold listNx; dsimp only; rw [if_neg hs]
    rw [e2, if_neg hs]; rfl
theorem endL_step {key : List UInt8} {k : Nat} {m : Nat × List Itm} {t : List UInt8} {l : List (List UInt8)} (h : ¬ endsAt m key = true) : endL key (k + 1) m (t :: l) = if sha t = (itm m.2 (placeS m.2 key)).2.take 32 then (match nodeS t m.1 (some (itm m.2 (placeS m.2 key))) with
    | none => none
    | some n => endL key k n l) else none := by
  conv => lhs; unfold endL
  rw [if_neg h, show_go]
theorem endL_none {key : List UInt8} {k : Nat} {m : Nat × List Itm} (h : ¬ endsAt m key = true) : endL key k m [] = none := by
  unfold endL
  rw [if_neg h]
  cases k with
  | zero => rw [wayGo]; rfl
  | succ k => rw [way_step]; rfl
theorem verify_first (root key : List UInt8) (t : List UInt8) (l : List (List UInt8)) : showL key (wayS listNx key (t :: l) root) = if sha t = root then (match parseS t with
    | none => none
    | some m => endL key 33 m l) else none := by
  unfold wayS
  rw [show_go]
  split
  · unfold nodeS; cases parseS t <;> rfl
  · rfl
end Go.Proofs.Yteeonfnaikndfaa.Wit
