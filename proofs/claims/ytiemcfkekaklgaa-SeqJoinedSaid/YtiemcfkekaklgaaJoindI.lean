/- What seq.Joined makes, plainly: rising keys, all pairs of both sides. -/
import Derived.Test.YtiemcfkekaklgaaJoincI
set_option linter.unusedVariables false
set_option linter.unusedSimpArgs false
namespace Go.Proofs.Ytiemcfkekaklgaa.Join
open Go.RowKit Go.Proofs.Ytiemcfkekaklgaa.Lib Go.Proofs.Ytiemcfkekaklgaa.Prs Go.Proofs.Ytiemcfkekaklgaa.Lt
def Asc (b : List Itm) : Prop := ∀ s t, s < t → t < b.length → ltS (itm b s).1 (itm b t).1 = true
structure Inv (b : List Itm) (out : List Bo) (j : Nat) (a : List Itm) : Prop where
  ris : out.Pairwise fun x y => ltS x.1 y.1 = true
  lb : ∀ o, o ∈ out → ∀ t, j ≤ t → t < b.length → ltS o.1 (itm b t).1 = true
  la : ∀ o, o ∈ out → ∀ y, y ∈ a → ltS o.1 y.1 = true
theorem inv_snoc {b : List Itm} {out : List Bo} {j j' : Nat} {a a' : List Itm} {z : Bo} (h : Inv b out j a) (hj : j ≤ j') (h1 : ∀ o, o ∈ out → ltS o.1 z.1 = true) (h2 : ∀ t, j' ≤ t → t < b.length → ltS z.1 (itm b t).1 = true) (h3 : ∀ y, y ∈ a' → ltS z.1 y.1 = true) (h4 : ∀ y, y ∈ a' → y ∈ a) : Inv b (out ++ [z]) j' a' := by
  refine ⟨?_, ?_, ?_⟩
  · rw [List.pairwise_append]
    exact ⟨h.ris, List.pairwise_singleton _ _, fun x hx y hy => by rw [List.mem_singleton.1 hy]; exact h1 x hx⟩
  · intro o ho t ht hl
    rcases List.mem_append.1 ho with ho | ho
    · exact h.lb o ho t (by omega) hl
    · rw [List.mem_singleton.1 ho]; exact h2 t ht hl
  · intro o ho y hy
    rcases List.mem_append.1 ho with ho | ho
    · exact h.la o ho y (h4 y hy)
    · rw [List.mem_singleton.1 ho]; exact h3 y hy
theorem inv_low {b : List Itm} (hb : Asc b) {x : Itm} {a : List Itm} (hxa : ∀ y, y ∈ a → ltS x.1 y.1 = true) (m : Nat) : ∀ (out : List Bo) (j : Nat), b.length - j = m → Inv b out j (x :: a) →
    Inv b (jlow b x.1 out j).1 (jlow b x.1 out j).2 (x :: a) ∧ ((jlow b x.1 out j).2 < b.length → ltS (itm b (jlow b x.1 out j).2).1 x.1 = false) := by
  induction m with
  | zero => intro out j h hi; rw [jlow, if_neg (by omega)]; exact ⟨hi, fun h' => by dsimp only at h'; omega⟩
  | succ m ih =>
    intro out j h hi
    rw [jlow, if_pos (by omega)]
    split
    · rename_i hlt
      refine ih _ _ (by omega) (inv_snoc hi (by omega) (fun o ho => hi.lb o ho j (Nat.le_refl _) (by omega)) (fun t h1 h2 => hb j t (by omega) h2) (fun y hy => ?_) (fun y hy => hy))
      rcases List.mem_cons.1 hy with rfl | hy
      · exact hlt
      · exact lt_trans _ _ _ hlt (hxa y hy)
    · rename_i hlt
      exact ⟨hi, fun _ => by simpa using hlt⟩
theorem inv_step {b : List Itm} (hb : Asc b) {x : Itm} {a : List Itm} (hxa : ∀ y, y ∈ a → ltS x.1 y.1 = true) {s : List Bo × Nat} (hi : Inv b s.1 s.2 (x :: a)) : Inv b (stepJ b s x).1 (stepJ b s x).2 a := by
  obtain ⟨h1, h2⟩ := inv_low hb hxa _ s.1 s.2 rfl hi
  unfold stepJ
  dsimp only
  split
  · rename_i hc
    exact inv_snoc h1 (by omega) (fun o ho => h1.la o ho x (by simp)) (fun t ht hl => by rw [← hc.2]; exact hb _ t (by omega) hl) hxa (fun y hy => by simp [hy])
  · rename_i hc
    refine inv_snoc h1 (Nat.le_refl _) (fun o ho => h1.la o ho x (by simp)) (fun t ht hl => ?_) hxa (fun y hy => by simp [hy])
    have hj : (jlow b x.1 s.1 s.2).2 < b.length := by omega
    have h3 := h2 hj
    have h4 : ltS x.1 (itm b (jlow b x.1 s.1 s.2).2).1 = true := by
      cases hq : ltS x.1 (itm b (jlow b x.1 s.1 s.2).2).1 with
      | true => rfl
      | false => exact absurd ⟨hj, lt_total _ _ h3 hq⟩ hc
    rcases Nat.eq_or_lt_of_le ht with e | e
    · rw [← e]; exact h4
    · exact lt_trans _ _ _ h4 (hb _ t e hl)
theorem join_ris {a : List Itm} {b : List Itm} (ha : a.Pairwise fun x y => ltS x.1 y.1 = true) (hb : Asc b) : (joinP a b).Pairwise fun x y => ltS x.1 y.1 = true := by
  have key : ∀ (a : List Itm) (s : List Bo × Nat), (a.Pairwise fun x y => ltS x.1 y.1 = true) → Inv b s.1 s.2 a → Inv b (a.foldl (stepJ b) s).1 (a.foldl (stepJ b) s).2 [] := by
    intro a
    induction a with
    | nil => intro s _ h; exact h
    | cons x a ih =>
      intro s hp h
      rw [List.pairwise_cons] at hp
      exact ih _ hp.2 (inv_step hb hp.1 h)
  have h := key a ([], 0) ha ⟨List.Pairwise.nil, fun o ho => (by simp at ho), fun o ho => (by simp at ho)⟩
  unfold joinP
  rw [List.pairwise_append]
  have hget : ∀ (z : Bo), z ∈ (b.drop (joinL a b).2).map rgt → ∃ t, (joinL a b).2 ≤ t ∧ t < b.length ∧ z.1 = (itm b t).1 := by
    intro z hz
    obtain ⟨y, hy, rfl⟩ := List.mem_map.1 hz
    obtain ⟨i, hi, rfl⟩ := List.getElem_of_mem hy
    rw [List.length_drop] at hi
    refine ⟨(joinL a b).2 + i, by omega, by omega, ?_⟩
    rw [List.getElem_drop, itm_eq b _ (by omega)]; rfl
  refine ⟨h.ris, ?_, ?_⟩
  · rw [List.pairwise_map, List.pairwise_iff_getElem]
    intro i j hi hj hij
    rw [List.length_drop] at hi hj
    have := hb ((joinL a b).2 + i) ((joinL a b).2 + j) (by omega) (by omega)
    rw [List.getElem_drop, List.getElem_drop]
    rw [itm_eq b _ (by omega), itm_eq b _ (by omega)] at this
    exact this
  · intro x hx z hz
    obtain ⟨t, h1, h2, h3⟩ := hget z hz
    rw [h3]
    exact h.lb x hx t h1 h2
def lefts (l : List Bo) : List Itm := (l.filter fun x => x.2.2.2.1).map fun x => (x.1, x.2.1)
def rights (l : List Bo) : List Itm := (l.filter fun x => x.2.2.2.2).map fun x => (x.1, x.2.2.1)
theorem lefts_app (l m : List Bo) : lefts (l ++ m) = lefts l ++ lefts m := by simp [lefts]
theorem rights_app (l m : List Bo) : rights (l ++ m) = rights l ++ rights m := by simp [rights]
theorem low_both (b : List Itm) (k : List UInt8) (m : Nat) : ∀ (out : List Bo) (j : Nat), b.length - j = m → lefts (jlow b k out j).1 = lefts out ∧ (rights out = b.take j → rights (jlow b k out j).1 = b.take (jlow b k out j).2) ∧ ((∀ z, z ∈ out → z.2.2.2.1 = true ∨ z.2.2.2.2 = true) → ∀ z, z ∈ (jlow b k out j).1 → z.2.2.2.1 = true ∨ z.2.2.2.2 = true) := by
  induction m with
  | zero => intro out j h; rw [jlow, if_neg (by omega)]; exact ⟨rfl, fun h => h, fun h => h⟩
  | succ m ih =>
    intro out j h
    rw [jlow, if_pos (by omega)]
    split
    · obtain ⟨h1, h2, h3⟩ := ih (out ++ [rgt (itm b j)]) (j + 1) (by omega)
      refine ⟨?_, fun hr => h2 ?_, fun hz => h3 ?_⟩
      · rw [h1, lefts_app]; simp [lefts, rgt]
      · rw [rights_app, hr, take_itm b j (by omega)]; simp [rights, rgt]
      · intro z hm
        rcases List.mem_append.1 hm with hm | hm
        · exact hz z hm
        · rw [List.mem_singleton.1 hm]; exact .inr rfl
    · exact ⟨rfl, fun h => h, fun h => h⟩
theorem join_both (a : List Itm) (b : List Itm) : lefts (joinP a b) = a ∧ rights (joinP a b) = b ∧ ∀ z, z ∈ joinP a b → z.2.2.2.1 = true ∨ z.2.2.2.2 = true := by
  have key : ∀ (a : List Itm) (s : List Bo × Nat), rights s.1 = b.take s.2 → (∀ z, z ∈ s.1 → z.2.2.2.1 = true ∨ z.2.2.2.2 = true) →
      lefts (a.foldl (stepJ b) s).1 = lefts s.1 ++ a ∧ rights (a.foldl (stepJ b) s).1 = b.take (a.foldl (stepJ b) s).2 ∧ ∀ z, z ∈ (a.foldl (stepJ b) s).1 → z.2.2.2.1 = true ∨ z.2.2.2.2 = true := by
    intro a
    induction a with
    | nil => intro s h1 h2; exact ⟨by simp, h1, h2⟩
    | cons x a ih =>
      intro s h1 h2
      obtain ⟨e1, e2, e3⟩ := low_both b x.1 _ s.1 s.2 rfl
      rw [List.foldl_cons]
      have hs : lefts (stepJ b s x).1 = lefts s.1 ++ [x] ∧ rights (stepJ b s x).1 = b.take (stepJ b s x).2 ∧ ∀ z, z ∈ (stepJ b s x).1 → z.2.2.2.1 = true ∨ z.2.2.2.2 = true := by
        unfold stepJ
        dsimp only
        split
        · rename_i hc
          refine ⟨by rw [lefts_app, e1]; simp [lefts], ?_, ?_⟩
          · rw [rights_app, e2 h1, take_itm b _ hc.1]
            show _ ++ [(x.1, (itm b (jlow b x.1 s.1 s.2).2).2)] = _
            rw [show (x.1, (itm b (jlow b x.1 s.1 s.2).2).2) = itm b (jlow b x.1 s.1 s.2).2 from Prod.ext hc.2.symm rfl]
          · intro z hm
            rcases List.mem_append.1 hm with hm | hm
            · exact e3 h2 z hm
            · rw [List.mem_singleton.1 hm]; exact .inl rfl
        · refine ⟨by rw [lefts_app, e1]; simp [lefts], ?_, ?_⟩
          · rw [rights_app, e2 h1]; simp [rights]
          · intro z hm
            rcases List.mem_append.1 hm with hm | hm
            · exact e3 h2 z hm
            · rw [List.mem_singleton.1 hm]; exact .inl rfl
      obtain ⟨f1, f2, f3⟩ := ih _ hs.2.1 hs.2.2
      exact ⟨by rw [f1, hs.1, List.append_assoc]; rfl, f2, f3⟩
  obtain ⟨h1, h2, h3⟩ := key a ([], 0) (by simp [rights]) (fun z hz => by simp at hz)
  have hm : ∀ (l : List Itm), lefts (l.map rgt) = [] ∧ rights (l.map rgt) = l := by
    intro l
    induction l with
    | nil => exact ⟨rfl, rfl⟩
    | cons y l ih =>
      obtain ⟨i1, i2⟩ := ih
      refine ⟨?_, ?_⟩
      · show lefts ([rgt y] ++ l.map rgt) = []
        rw [lefts_app, i1]; rfl
      · show rights ([rgt y] ++ l.map rgt) = _
        rw [rights_app, i2]; rfl
  unfold joinP
  refine ⟨?_, ?_, ?_⟩
  · rw [lefts_app, (hm _).1, List.append_nil]; exact h1
  · rw [rights_app, (hm _).2]
    show rights (a.foldl (stepJ b) ([], 0)).1 ++ _ = _
    rw [h2]; exact List.take_append_drop _ _
  · intro z hz
    rcases List.mem_append.1 hz with hz | hz
    · exact h3 z hz
    · obtain ⟨y, _, rfl⟩ := List.mem_map.1 hz; exact .inr rfl
end Go.Proofs.Ytiemcfkekaklgaa.Join
