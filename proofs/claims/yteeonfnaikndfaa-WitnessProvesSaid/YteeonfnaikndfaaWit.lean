/- Layer 11 in plain words: the way to a key, its texts as bytes, what bytes show. Layer 11 in plain words: what is proved of a source is taken. -/
import Derived.Test.YteeonfnaikndfaaTree
set_option linter.unusedVariables false
set_option linter.unusedSimpArgs false
namespace Go.Proofs.Yteeonfnaikndfaa.Wit
open Go Go.RowKit Go.Proofs.Yteeonfnaikndfaa Go.Proofs.Yteeonfnaikndfaa.Lib Go.Proofs.Yteeonfnaikndfaa.Sha Go.Proofs.Yteeonfnaikndfaa.T07 Go.Proofs.Yteeonfnaikndfaa.T08 Go.Proofs.Yteeonfnaikndfaa.Itms Go.Proofs.Yteeonfnaikndfaa.WSeq Go.Proofs.Yteeonfnaikndfaa.Ord Go.Proofs.Yteeonfnaikndfaa.W08 Go.Proofs.Yteeonfnaikndfaa.Inj Go.Proofs.Yteeonfnaikndfaa.Tree
/-- a text as a node, below an item of a level (any, of the root's) -/
def nodeS (s : List UInt8) (lv : Nat) (x : Option Itm) : Option (Nat × List Itm) := match parseS s with
  | none => none
  | some p => match x with
    | none => some p
    | some y => if standsP lv y p.1 p.2 = true then some p else none
/-- does a way end at a node? -/
def endsAt (n : Nat × List Itm) (key : List UInt8) : Bool := decide (n.1 = 0) || decide (placeS n.2 key = n.2.length)
abbrev Next (σ : Type) := σ → List UInt8 → Option (List UInt8 × σ)
/-- the way: nx tells texts -/
def wayGo {σ : Type} (nx : Next σ) (key : List UInt8) : Nat → σ → List UInt8 → Nat → Option Itm → Option (List (List UInt8) × (Nat × List Itm) × σ)
  | 0, _, _, _, _ => none
  | k + 1, st, p, lv, x => match nx st p with
    | none => none
    | some (s, st') => match nodeS s lv x with
      | none => none
      | some n => if endsAt n key = true then some ([s], n, st') else
        match wayGo nx key k st' ((itm n.2 (placeS n.2 key)).2.take 32) n.1 (some (itm n.2 (placeS n.2 key))) with
        | none => none
        | some (ts, m, z) => some (s :: ts, m, z)
def wayS {σ : Type} (nx : Next σ) (key : List UInt8) (st : σ) (root : List UInt8) : Option (List (List UInt8) × (Nat × List Itm) × σ) := wayGo nx key 34 st root 0 none
theorem way_step {σ : Type} (nx : Next σ) (key : List UInt8) (k : Nat) (st : σ) (p : List UInt8) (lv : Nat) (x : Option Itm) : wayGo nx key (k + 1) st p lv x = match nx st p with
    | none => none
    | some (s, st') => match nodeS s lv x with
      | none => none
      | some n => if endsAt n key = true then some ([s], n, st') else
        match wayGo nx key k st' ((itm n.2 (placeS n.2 key)).2.take 32) n.1 (some (itm n.2 (placeS n.2 key))) with
        | none => none
        | some (ts, m, z) => some (s :: ts, m, z) := by rw [wayGo]
/-- behind texts that were met -/
def behind {σ : Type} (acc : List (List UInt8)) (r : Option (List (List UInt8) × (Nat × List Itm) × σ)) : Option (List (List UInt8) × (Nat × List Itm) × σ) := match r with
  | none => none
  | some (ts, m, z) => some (acc ++ ts, m, z)
theorem behind_nil {σ : Type} (r : Option (List (List UInt8) × (Nat × List Itm) × σ)) : behind [] r = r := by cases r <;> rfl
theorem behind_snoc {σ : Type} (acc : List (List UInt8)) (s : List UInt8) (r : Option (List (List UInt8) × (Nat × List Itm) × σ)) : behind acc (match r with
    | none => none
    | some (ts, m, z) => some (s :: ts, m, z)) = behind (acc ++ [s]) r := by
  cases r with
  | none => rfl
  | some q => simp [behind]
theorem node_facts {s : List UInt8} {lv : Nat} {x : Option Itm} {n : Nat × List Itm} (h : nodeS s lv x = some n) : parseS s = some n ∧ (∀ y, x = some y → standsP lv y n.1 n.2 = true) := by
  unfold nodeS at h
  cases hp : parseS s with
  | none => rw [hp] at h; cases h
  | some p =>
    rw [hp] at h
    cases x with
    | none => injection h with h; subst h; exact ⟨rfl, fun y e => by cases e⟩
    | some y =>
      dsimp only at h
      split at h
      · injection h with h; subst h; rename_i hs; exact ⟨rfl, fun y e => by injection e with e; subst e; exact hs⟩
      · cases h
theorem stands_lv {lv m : Nat} {x : Itm} {ys : List Itm} (h : standsP lv x m ys = true) : m + 1 = lv ∧ 0 < ys.length := by
  unfold standsP at h
  simp only [Bool.and_eq_true, decide_eq_true_eq] at h
  exact ⟨h.1.1.1, h.1.1.2⟩
theorem way_parse {σ : Type} (nx : Next σ) (key : List UInt8) : ∀ (k : Nat) (st : σ) (p : List UInt8) (lv : Nat) (x : Option Itm) (ts : List (List UInt8)) (n : Nat × List Itm) (z : σ), wayGo nx key k st p lv x = some (ts, n, z) → (∃ s, parseS s = some n) ∧ 0 < ts.length ∧ ts.length ≤ k := by
  intro k
  induction k with
  | zero => intro st p lv x ts n z h; rw [wayGo] at h; cases h
  | succ k ih =>
    intro st p lv x ts n z h
    rw [way_step] at h
    cases h1 : nx st p with
    | none => rw [h1] at h; cases h
    | some q =>
      obtain ⟨s, st'⟩ := q
      rw [h1] at h
      dsimp only at h
      cases h2 : nodeS s lv x with
      | none => rw [h2] at h; cases h
      | some m =>
        rw [h2] at h
        dsimp only at h
        split at h
        · injection h with h; injection h with e1 e2; injection e2 with e2 e3
          subst e1; subst e2
          exact ⟨⟨s, (node_facts h2).1⟩, by simp, by simp⟩
        · cases h3 : wayGo nx key k st' ((itm m.2 (placeS m.2 key)).2.take 32) m.1 (some (itm m.2 (placeS m.2 key))) with
          | none => rw [h3] at h; cases h
          | some r =>
            obtain ⟨ts', n', z'⟩ := r
            rw [h3] at h
            dsimp only at h
            injection h with h; injection h with e1 e2; injection e2 with e2 e3
            subst e1; subst e2
            obtain ⟨i1, i2, i3⟩ := ih _ _ _ _ _ _ _ h3
            exact ⟨i1, by simp, by simp; omega⟩
/-- what the last node of a way shows -/
def shownS (n : Nat × List Itm) (key : List UInt8) : Option (List UInt8) :=
  if n.1 = 0 ∧ placeS n.2 key < n.2.length ∧ (itm n.2 (placeS n.2 key)).1 = key then some (itm n.2 (placeS n.2 key)).2 else none
/-- a source, as what a way asks -/
def srcNx (f : Src) : Next Unit := fun _ p => match f p with | none => none | some s => some (s, ())
def four (n : Nat) : List UInt8 := [u8 ((n / 16777216 : Nat) : Int), u8 ((n / 65536 : Nat) : Int), u8 ((n / 256 : Nat) : Int), u8 (n : Int)]
def n4 (s : List UInt8) : Nat := (((bat s 0).toNat * 256 + (bat s 1).toNat) * 256 + (bat s 2).toNat) * 256 + (bat s 3).toNat
/-- the first node of a proof, and the rest -/
def cutP (s : List UInt8) : Option (List UInt8 × List UInt8) := if s.length < 4 then none else if s.length - 4 < n4 s then none else some ((s.drop 4).take (n4 s), (s.drop 4).drop (n4 s))
def proofNx : Next (List UInt8) := fun r p => match cutP r with | none => none | some (t, r') => if sha t = p then some (t, r') else none
def bytesS (l : List (List UInt8)) : List UInt8 := (l.map fun t => four t.length ++ t).flatten
/-- what bytes show: taken, and the value, if one is shown -/
def toldS (root key proof : List UInt8) : Option (List (List UInt8) × (Nat × List Itm)) := if 1048576 < proof.length then none else match wayS proofNx key proof root with
  | none => none
  | some (ts, n, r) => if r = [] then some (ts, n) else none
def verifyS (root key proof : List UInt8) : Option (Option (List UInt8)) := match toldS root key proof with
  | none => none
  | some (_, n) => some (shownS n key)
theorem told_parse {root key proof : List UInt8} {ts : List (List UInt8)} {n : Nat × List Itm} (h : toldS root key proof = some (ts, n)) : (∃ s, parseS s = some n) ∧ ts.length ≤ 34 := by
  unfold toldS at h
  split at h
  · cases h
  · split at h
    · cases h
    · rename_i ts' n' r' hw
      split at h
      · injection h with h; injection h with e1 e2
        subst e1; subst e2
        have := way_parse _ _ _ _ _ _ _ _ _ _ hw
        exact ⟨this.1, this.2.2⟩
      · cases h
end Go.Proofs.Yteeonfnaikndfaa.Wit
namespace Go.Proofs.Yteeonfnaikndfaa.Wit
open Go Go.RowKit Go.Proofs.Yteeonfnaikndfaa Go.Proofs.Yteeonfnaikndfaa.Lib Go.Proofs.Yteeonfnaikndfaa.Sha Go.Proofs.Yteeonfnaikndfaa.T07 Go.Proofs.Yteeonfnaikndfaa.T08 Go.Proofs.Yteeonfnaikndfaa.Itms Go.Proofs.Yteeonfnaikndfaa.WSeq Go.Proofs.Yteeonfnaikndfaa.Ord Go.Proofs.Yteeonfnaikndfaa.W08 Go.Proofs.Yteeonfnaikndfaa.Inj Go.Proofs.Yteeonfnaikndfaa.Tree
theorem u8n (n : Nat) : (u8 (n : Int)).toNat = n % 256 := by
  have := u8_toNat (n : Int) (by omega); omega
theorem n4_four (n : Nat) (h : n < 4294967296) (r : List UInt8) : n4 (four n ++ r) = n := by
  show (((u8 ((n / 16777216 : Nat) : Int)).toNat * 256 + (u8 ((n / 65536 : Nat) : Int)).toNat) * 256 + (u8 ((n / 256 : Nat) : Int)).toNat) * 256 + (u8 (n : Int)).toNat = n
  rw [u8n, u8n, u8n, u8n]; omega
theorem cut_four (t r : List UInt8) (h : t.length < 4294967296) : cutP (four t.length ++ t ++ r) = some (t, r) := by
  unfold cutP
  have hl : (four t.length ++ t ++ r).length = 4 + t.length + r.length := by simp [four]; omega
  have hd : (four t.length ++ t ++ r).drop 4 = t ++ r := by rw [List.append_assoc]; rfl
  have hn : n4 (four t.length ++ t ++ r) = t.length := by rw [List.append_assoc]; exact n4_four _ h _
  rw [hl, hd, hn, if_neg (by omega), if_neg (by omega), List.take_left, List.drop_left]
/-- The texts of a way in a source, one behind the other, are a proof of it. -/
theorem way_proof (f : Src) (hf : ∀ p s, f p = some s → sha s = p ∧ s.length < 4294967296) (key : List UInt8) : ∀ (k : Nat) (p : List UInt8) (lv : Nat) (x : Option Itm) (ts : List (List UInt8)) (n : Nat × List Itm) (z : Unit) (r : List UInt8),
    wayGo (srcNx f) key k () p lv x = some (ts, n, z) → wayGo proofNx key k (bytesS ts ++ r) p lv x = some (ts, n, r) := by
  intro k
  induction k with
  | zero => intro p lv x ts n z r h; rw [wayGo] at h; cases h
  | succ k ih =>
    intro p lv x ts n z r h
    rw [way_step] at h ⊢
    cases hp : f p with
    | none => simp only [srcNx, hp] at h; cases h
    | some s =>
      obtain ⟨e1, e2⟩ := hf p s hp
      simp only [srcNx, hp] at h
      have hpx : ∀ q, proofNx (four s.length ++ s ++ q) p = some (s, q) := fun q => by
        unfold proofNx; rw [cut_four s q e2]; dsimp only; rw [if_pos e1]
      cases h2 : nodeS s lv x with
      | none => rw [h2] at h; cases h
      | some m =>
        rw [h2] at h
        dsimp only at h
        by_cases he : endsAt m key = true
        · rw [if_pos he] at h
          injection h with h; injection h with q1 q2; injection q2 with q2 q3
          subst q1; subst q2
          have eb : bytesS [s] ++ r = four s.length ++ s ++ r := by simp [bytesS]
          rw [eb, hpx r]
          dsimp only
          rw [h2]
          dsimp only
          rw [if_pos he]
        · rw [if_neg he] at h
          cases h3 : wayGo (srcNx f) key k () ((itm m.2 (placeS m.2 key)).2.take 32) m.1 (some (itm m.2 (placeS m.2 key))) with
          | none => rw [h3] at h; cases h
          | some q =>
            obtain ⟨ts', n', z'⟩ := q
            rw [h3] at h
            dsimp only at h
            injection h with h; injection h with q1 q2; injection q2 with q2 q3
            subst q1; subst q2
            have eb : bytesS (s :: ts') ++ r = four s.length ++ s ++ (bytesS ts' ++ r) := by simp [bytesS]
            rw [eb, hpx]
            dsimp only
            rw [h2]
            dsimp only
            rw [if_neg he, ih _ _ _ _ _ _ r h3]
theorem told_way (f : Src) (hf : ∀ p s, f p = some s → sha s = p ∧ s.length < 4294967296) (root key : List UInt8) (ts : List (List UInt8)) (n : Nat × List Itm) (z : Unit) (h : wayS (srcNx f) key () root = some (ts, n, z)) (hl : (bytesS ts).length ≤ 1048576) : toldS root key (bytesS ts) = some (ts, n) := by
  have := way_proof f hf key _ _ _ _ _ _ _ [] h
  rw [List.append_nil] at this
  unfold toldS
  rw [if_neg (by omega)]
  unfold wayS
  rw [this]
  dsimp only
  rw [if_pos rfl]
theorem verify_way (f : Src) (hf : ∀ p s, f p = some s → sha s = p ∧ s.length < 4294967296) (root key : List UInt8) (ts : List (List UInt8)) (n : Nat × List Itm) (z : Unit) (h : wayS (srcNx f) key () root = some (ts, n, z)) (hl : (bytesS ts).length ≤ 1048576) : verifyS root key (bytesS ts) = some (shownS n key) := by
  unfold verifyS; rw [told_way f hf root key ts n z h hl]
/-- with bytes more behind it is none -/
theorem verify_more (f : Src) (hf : ∀ p s, f p = some s → sha s = p ∧ s.length < 4294967296) (root key : List UInt8) (ts : List (List UInt8)) (n : Nat × List Itm) (z : Unit) (r : List UInt8) (h : wayS (srcNx f) key () root = some (ts, n, z)) (hr : r ≠ []) : verifyS root key (bytesS ts ++ r) = none := by
  have := way_proof f hf key _ _ _ _ _ _ _ r h
  unfold verifyS toldS wayS
  rw [this]
  by_cases hl : 1048576 < (bytesS ts ++ r).length
  · rw [if_pos hl]
  · rw [if_neg hl]; dsimp only; rw [if_neg hr]
end Go.Proofs.Yteeonfnaikndfaa.Wit
