/- What a sorted list of pairs is: by rising key, the last one of each. -/
import Derived.Test.YtiemcfkekaklgaaLt
import Derived.Test.YtiemcfkekaklgaaPrs
set_option linter.unusedVariables false
set_option linter.unusedSimpArgs false
namespace Go.Proofs.Ytiemcfkekaklgaa.Sp
open Go.Proofs.Ytiemcfkekaklgaa.Lib Go.Proofs.Ytiemcfkekaklgaa.Prs Go.Proofs.Ytiemcfkekaklgaa.Lt
def leS (a b : List UInt8) : Bool := !ltS b a
theorem le_lt (a b : List UInt8) : leS a b = (ltS a b || a == b) := by
  unfold leS
  cases h : ltS b a with
  | true =>
    have h1 := lt_asymm _ _ h
    have h2 : (a == b) = false := beq_eq_false_iff_ne.2 (fun e => by rw [e, lt_irrefl] at h; cases h)
    rw [h1, h2]; rfl
  | false =>
    cases h1 : ltS a b with
    | true => rfl
    | false => rw [lt_total a b h1 h]; simp
/-- Pairs by strictly rising key. -/
def Ris (r : List Itm) : Prop := r.Pairwise fun x y => ltS x.1 y.1 = true
def LastAt (l : List Itm) (i : Nat) : Prop := ∀ j, i < j → j < l.length → (itm l j).1 ≠ (itm l i).1
/-- r: l's pairs by rising key, of several of a key the last one. -/
structure SortOf (l r : List Itm) : Prop where
  ris : Ris r
  sub : ∀ x, x ∈ r → ∃ i, i < l.length ∧ itm l i = x ∧ LastAt l i
  all : ∀ i, i < l.length → ∃ x, x ∈ r ∧ x.1 = (itm l i).1
theorem mem_iff {l r r' : List Itm} (h : SortOf l r) (h' : SortOf l r') (x : Itm) (hx : x ∈ r) : x ∈ r' := by
  obtain ⟨i, hi, rfl, hl⟩ := h.sub x hx
  obtain ⟨y, hy, e⟩ := h'.all i hi
  obtain ⟨j, hj, rfl, hl'⟩ := h'.sub y hy
  rcases Nat.lt_trichotomy i j with hlt | rfl | hlt
  · exact absurd e (hl j hlt hj)
  · exact hy
  · exact absurd e.symm (hl' i hlt hi)
theorem ris_eq : ∀ (r r' : List Itm), Ris r → Ris r' → (∀ x, x ∈ r ↔ x ∈ r') → r = r'
  | [], [], _, _, _ => rfl
  | [], y :: r', _, _, h => by have := (h y).2 (by simp); simp at this
  | x :: r, [], _, _, h => by have := (h x).1 (by simp); simp at this
  | x :: r, y :: r', h1, h2, h => by
    rw [Ris, List.pairwise_cons] at h1 h2
    have hxy : x = y := by
      have hx := (h x).1 (by simp)
      have hy := (h y).2 (by simp)
      rcases List.mem_cons.1 hx with e | hx
      · exact e
      · rcases List.mem_cons.1 hy with e | hy
        · exact e.symm
        · have a1 := h1.1 y hy
          have a2 := h2.1 x hx
          rw [lt_asymm _ _ a1] at a2; cases a2
    subst hxy
    rw [ris_eq r r' h1.2 h2.2 fun z => ?_]
    constructor
    · intro hz
      rcases List.mem_cons.1 ((h z).1 (by simp [hz])) with e | h3
      · subst e; have := h1.1 z hz; rw [lt_irrefl] at this; cases this
      · exact h3
    · intro hz
      rcases List.mem_cons.1 ((h z).2 (by simp [hz])) with e | h3
      · subst e; have := h2.1 z hz; rw [lt_irrefl] at this; cases this
      · exact h3
theorem spec_eq {l r r' : List Itm} (h : SortOf l r) (h' : SortOf l r') : r = r' := ris_eq r r' h.ris h'.ris fun x => ⟨mem_iff h h' x, mem_iff h' h x⟩
theorem itm_mem {l : List Itm} {i : Nat} (h : i < l.length) : itm l i ∈ l := by rw [itm_eq l i h]; exact List.getElem_mem h
/-- what is left: of no pair so far, or above the last key -/
def cand (out : List Itm) (done : List UInt8) (k : List UInt8) : Bool := out.isEmpty || ltS done k
/-- The list so far: all keys up to done. -/
structure Upto (l out : List Itm) (done : List UInt8) : Prop where
  ris : Ris out
  sub : ∀ x, x ∈ out → ∃ i, i < l.length ∧ itm l i = x ∧ LastAt l i
  all : ∀ i, i < l.length → cand out done (itm l i).1 = false → ∃ x, x ∈ out ∧ x.1 = (itm l i).1
  top : ∀ x, x ∈ out → leS x.1 done = true
theorem upto_nil (l : List Itm) : Upto l [] [] := ⟨List.Pairwise.nil, fun x h => (by simp at h), fun i _ h => (by simp [cand] at h), fun x h => (by simp at h)⟩
/-- The least so far of what is left. -/
def Least (l out : List Itm) (done : List UInt8) (i : Nat) : Option Nat → Prop
  | none => ∀ j, j < i → cand out done (itm l j).1 = false
  | some t => t < i ∧ cand out done (itm l t).1 = true ∧ (∀ j, j < i → cand out done (itm l j).1 = true → leS (itm l t).1 (itm l j).1 = true) ∧ ∀ j, t < j → j < i → (itm l j).1 ≠ (itm l t).1
theorem upto_end {l out : List Itm} {done : List UInt8} (h : Upto l out done) (hn : Least l out done l.length none) : SortOf l out := ⟨h.ris, h.sub, fun i hi => h.all i hi (hn i hi)⟩
theorem le_trans' {a b c : List UInt8} (h1 : leS a b = true) (h2 : ltS b c = true) : ltS a c = true := by
  rw [le_lt, Bool.or_eq_true, beq_iff_eq] at h1
  rcases h1 with h1 | rfl
  · exact lt_trans _ _ _ h1 h2
  · exact h2
theorem upto_step {l out : List Itm} {done : List UInt8} {t : Nat} (h : Upto l out done) (hn : Least l out done l.length (some t)) : Upto l (out ++ [itm l t]) (itm l t).1 := by
  obtain ⟨h1, h2, h3, h4⟩ := hn
  have hup : ∀ x, x ∈ out → ltS x.1 (itm l t).1 = true := fun x hx => by
    unfold cand at h2
    rw [Bool.or_eq_true] at h2
    rcases h2 with h2 | h2
    · rw [List.isEmpty_iff] at h2; subst h2; simp at hx
    · exact le_trans' (h.top x hx) h2
  refine ⟨?_, ?_, ?_, ?_⟩
  · rw [Ris, List.pairwise_append]
    exact ⟨h.ris, List.pairwise_singleton _ _, fun x hx y hy => by rw [List.mem_singleton.1 hy]; exact hup x hx⟩
  · intro x hx
    rcases List.mem_append.1 hx with hx | hx
    · exact h.sub x hx
    · rw [List.mem_singleton.1 hx]; exact ⟨t, h1, rfl, fun j hj hl => h4 j hj hl⟩
  · intro i hi hc
    have hne : (out ++ [itm l t]).isEmpty = false := by cases out <;> rfl
    unfold cand at hc
    rw [hne, Bool.false_or] at hc
    cases hq : cand out done (itm l i).1 with
    | false =>
      obtain ⟨x, hx, e⟩ := h.all i hi hq
      exact ⟨x, List.mem_append_left _ hx, e⟩
    | true =>
      have h5 := h3 i hi hq
      rw [le_lt, hc, Bool.false_or, beq_iff_eq] at h5
      exact ⟨itm l t, by simp, h5⟩
  · intro x hx
    rcases List.mem_append.1 hx with hx | hx
    · unfold leS; rw [lt_asymm _ _ (hup x hx)]; rfl
    · rw [List.mem_singleton.1 hx]; unfold leS; rw [lt_irrefl]; rfl
/-- how many are left -/
def left (l out : List Itm) (done : List UInt8) : Nat := (l.filter fun x => cand out done x.1).length
theorem filter_lt {p q : Itm → Bool} (h : ∀ x, q x = true → p x = true) : ∀ (l : List Itm) (y : Itm), y ∈ l → p y = true → q y = false → (l.filter q).length < (l.filter p).length
  | [], y, hy, _, _ => by simp at hy
  | x :: l, y, hy, hp, hq => by
    have hle : (l.filter q).length ≤ (l.filter p).length := by
      clear hy
      induction l with
      | nil => simp
      | cons z l ih =>
        rw [List.filter_cons, List.filter_cons]
        by_cases hz : q z = true
        · rw [if_pos hz, if_pos (h z hz)]; simpa using ih
        · rw [if_neg hz]
          split
          · simp only [List.length_cons]; omega
          · exact ih
    rw [List.filter_cons, List.filter_cons]
    rcases List.mem_cons.1 hy with e | hy
    · subst e
      rw [if_pos hp, if_neg (by rw [hq]; decide)]
      simp; omega
    · have := filter_lt h l y hy hp hq
      by_cases hx : q x = true
      · rw [if_pos hx, if_pos (h x hx)]; simpa using this
      · rw [if_neg hx]
        split
        · simp only [List.length_cons]; omega
        · exact this
theorem left_lt {l out : List Itm} {done : List UInt8} {t : Nat} (h : Upto l out done) (hn : Least l out done l.length (some t)) : left l (out ++ [itm l t]) (itm l t).1 < left l out done := by
  obtain ⟨h1, h2, h3, h4⟩ := hn
  refine filter_lt (fun x hx => ?_) l (itm l t) (itm_mem h1) h2 ?_
  · have hne : (out ++ [itm l t]).isEmpty = false := by cases out <;> rfl
    unfold cand at hx h2 ⊢
    rw [hne, Bool.false_or] at hx
    rw [Bool.or_eq_true] at h2 ⊢
    rcases h2 with h2 | h2
    · exact .inl h2
    · exact .inr (lt_trans _ _ _ h2 hx)
  · have hne : (out ++ [itm l t]).isEmpty = false := by cases out <;> rfl
    unfold cand
    rw [hne, lt_irrefl]; rfl
end Go.Proofs.Ytiemcfkekaklgaa.Sp
