/- seq.Joined over pairs of texts. -/
import Derived.Test.YtoidbgedpakjmaaRunS
import Derived.Test.YtoidbgedpakjmaaOrd
import Derived.Test.YtoidbgedpakjmaaMild
import Derived.Test.YtoidbgedpakjmaaBlk
set_option linter.unusedVariables false
set_option linter.unusedSimpArgs false
namespace Go.Proofs.Ytoidbgedpakjmaa.JoinS
open Go.RowKit Go.Shelf Go.Proofs.Ytoidbgedpakjmaa.Lib Go.Proofs.Ytoidbgedpakjmaa.Itms Go.Proofs.Ytoidbgedpakjmaa.T08 Go.Proofs.Ytoidbgedpakjmaa.Run Go.Proofs.Ytoidbgedpakjmaa.RunsS Go.Proofs.Ytoidbgedpakjmaa.QTail Go.Proofs.Ytoidbgedpakjmaa.WSeq Go.Proofs.Ytoidbgedpakjmaa.Ord
theorem Str_emp : (⟨#[]⟩ : ByteArray) = Str [] := by rw [Str_nil]
attribute [local go_sem] Str_emp
/-- a key, and what two have there -/
abbrev Bo := List UInt8 × List UInt8 × List UInt8 × Bool × Bool
def bts (l : List Bo) : List Value := l.flatMap fun x => [.string (Str x.1), (.string (Str ((x.1, x.2.1)).2)), (.string (Str ((x.1, x.2.2.1)).2)), .bool x.2.2.2.1, .bool x.2.2.2.2]
theorem bts_cons (x : Bo) (l : List Bo) : bts (x :: l) = .string (Str x.1) :: (.string (Str ((x.1, x.2.1)).2)) :: (.string (Str ((x.1, x.2.2.1)).2)) :: .bool x.2.2.2.1 :: .bool x.2.2.2.2 :: bts l := rfl
theorem bts_app (l m : List Bo) : bts (l ++ m) = bts l ++ bts m := by simp [bts]
theorem bts_len (l : List Bo) : (bts l).length = 5 * l.length := by
  induction l with
  | nil => rfl
  | cons x l ih => rw [bts_cons]; simp only [List.length_cons, ih]; omega
def btd (l : List Bo) (i : Nat) : Bo := l.getD i ([], [], [], false, false)
theorem btd_eq (l : List Bo) (i : Nat) (h : i < l.length) : btd l i = l[i] := by simp [btd, List.getD_eq_getElem?_getD, List.getElem?_eq_getElem h]
theorem take_btd (l : List Bo) (k : Nat) (h : k < l.length) : l.take (k + 1) = l.take k ++ [btd l k] := by
  rw [btd_eq l k h, List.take_add_one, List.getElem?_eq_getElem h]; rfl
theorem bts_get (l : List Bo) : ∀ i, i < l.length → ((bts l)[5 * i]? = some (.string (Str (btd l i).1)) ∧ (bts l)[5 * i + 1]? = some (.string (Str (((btd l i).1, (btd l i).2.1)).2)) ∧ (bts l)[5 * i + 2]? = some (.string (Str (((btd l i).1, (btd l i).2.2.1)).2)) ∧ (bts l)[5 * i + 3]? = some (.bool (btd l i).2.2.2.1) ∧ (bts l)[5 * i + 4]? = some (.bool (btd l i).2.2.2.2)) := by
  induction l with
  | nil => intro i h; simp at h
  | cons x l ih =>
    intro i h
    rw [bts_cons]
    cases i with
    | zero => exact ⟨rfl, rfl, rfl, rfl, rfl⟩
    | succ i =>
      have := ih i (by simpa using h)
      rw [show 5 * (i + 1) = 5 * i + 5 by omega]
      simpa [btd] using this
theorem rd_btd {w : World} {A : Option Addr} {l : List Bo} (h : Rd w A (bts l)) {j : Nat} (hj : j < l.length) : ∃ b o, A = some ⟨b, o, none⟩ ∧ w.cell? ⟨b, o + j * 5, none⟩ = some (.string (Str (btd l j).1)) ∧ w.cell? ⟨b, o + j * 5 + 1, none⟩ = some (.string (Str (((btd l j).1, (btd l j).2.1)).2)) ∧ w.cell? ⟨b, o + j * 5 + 2, none⟩ = some (.string (Str (((btd l j).1, (btd l j).2.2.1)).2)) ∧ w.cell? ⟨b, o + j * 5 + 3, none⟩ = some (.bool (btd l j).2.2.2.1) ∧ w.cell? ⟨b, o + j * 5 + 4, none⟩ = some (.bool (btd l j).2.2.2.2) := by
  obtain ⟨g1, g2, g3, g4, g5⟩ := bts_get l j hj
  rcases h with h | ⟨b, o, rfl, h⟩
  · rw [h] at g1; simp at g1
  · refine ⟨b, o, rfl, ?_, ?_, ?_, ?_, ?_⟩
    · rw [Nat.mul_comm j 5]; exact h _ _ g1
    · rw [Nat.mul_comm j 5, Nat.add_assoc]; exact h _ _ g2
    · rw [Nat.mul_comm j 5, Nat.add_assoc]; exact h _ _ g3
    · rw [Nat.mul_comm j 5, Nat.add_assoc]; exact h _ _ g4
    · rw [Nat.mul_comm j 5, Nat.add_assoc]; exact h _ _ g5
theorem ti_bo : TI Try.prog 76 82 5 56 := TI.of (by kernel_rfl) (by kernel_rfl) (by decide) (by decide)
/-- what Joined has made so far: the variable's block, the row that it owns -/
def OutB (W : World) (B : Nat) (out : List Bo) (v : Value) : Prop := Boxed W B 76 v ∧ W.ownsRow B 82 5 v out.length (bts out)
theorem OutB.mv {O : Nat → Prop} {W W' : World} {B : Nat} {out : List Bo} {v : Value} (h : OutB W B out v) (hm : Mv O W W') (hn : ¬ O B) (hv : ∀ k, v.ownBlock = some k → ¬ O k) : OutB W' B out v := ⟨boxed_mv h.1 hm hn, own_mv h.2 hm hv⟩
set_option maxRecDepth 100000 in
set_option maxHeartbeats 1600000 in
/-- the closure that takes a pair of the list alone -/
theorem right_any (B : Nat) (out : List Bo) (v : Value) (x : Itm) (hl : out.length ≤ 1000000000) (w : World) (h : OutB w B out v) :
    Calls Try.prog 47 #[.agg #[.string (Str x.1), (.string (Str (x).2))], .pointer (some ⟨B, 0, none⟩)] w fun e w' => (∃ u, e = .returned u) ∧ ∃ v', OutB w' B (out ++ [(x.1, [], x.2, false, true)]) v' ∧ Mv (fun k => k = B ∨ v.ownBlock = some k) w w' ∧ (v'.ownBlock = v.ownBlock ∨ ∃ k, v'.ownBlock = some k ∧ w.heap.size ≤ k) := by
  obtain ⟨hbx, hown⟩ := h
  have hBl := hbx.lt
  obtain ⟨w1, hw1⟩ : ∃ w1, w1 = w.alloc (Obj.cells #[.string (Str x.1), (.string (Str (x).2))] 63) := ⟨_, rfl⟩
  have hz1 : w1.heap.size = w.heap.size + 1 := by rw [hw1]; simp
  have hm1 : Mv (fun _ => False) w w1 := by rw [hw1]; exact Mv.alloc _ _
  have hbx1 := boxed_mv hbx hm1 (fun h => h)
  have hown1 := own_mv hown hm1 (fun _ _ h => h)
  have c0 := hbx1.cell
  have f0 := hbx1.frozen
  have hx1 : w1.cell? ⟨w.heap.size, 0, none⟩ = some (.string (Str x.1)) := by rw [hw1, World.cell?_alloc_at _ _ _ _ rfl]; rfl
  have hx2 : w1.cell? ⟨w.heap.size, 1, none⟩ = some (.string (Str (x).2)) := by rw [hw1, World.cell?_alloc_at _ _ _ _ rfl]; rfl
  obtain ⟨w2, hw2⟩ : ∃ w2, w2 = w1.alloc (Obj.cells #[.string (Str x.1), .string (Str []), (.string (Str (x).2)), .bool false, .bool true] 82) := ⟨_, rfl⟩
  have hB2 : Below B w1 w2 := by rw [hw2]; exact (Below.refl B w1).alloc (by omega) _
  have hm2 : Mv (fun _ => False) w1 w2 := by rw [hw2]; exact Mv.alloc _ _
  have hbx2 := boxed_mv hbx1 hm2 (fun h => h)
  have hz2 : w2.heap.size = w.heap.size + 2 := by rw [hw2]; simp [hz1]
  have hr2 : Rd w2 (some ⟨w.heap.size + 1, 0, none⟩) [.string (Str x.1), .string (Str []), (.string (Str (x).2)), .bool false, .bool true] := by
    refine .inr ⟨_, _, rfl, fun j y hj => ?_⟩
    rw [hw2, ← hz1, World.cell?_alloc_at _ _ _ _ rfl, Nat.zero_add, ← hj]
    simp
  have HR2 := hid hr2
  have HZ2 := hid hz2
  have HM := hid (hm1.trans hm2 (O := fun _ => False) (fun _ h => h) (fun _ _ h => h))
  have HBE := hid (Below.trans ((Below.refl B w).alloc (Nat.le_of_lt hBl) (Obj.cells #[.string (Str x.1), (.string (Str (x).2))] 63)) (hw1 ▸ hB2))
  have HB2 := hid hbx2
  have hown2 := own_mv hown1 hm2 (fun _ _ h => h)
  have HO2 := hid hown2
  clear hm1 hbx hown hB2 hm2 hbx2 hown2 hr2 hz2 hbx1 hown1 hz1
  subst hw1
  rw [hw2] at HO2 HR2 HZ2 HBE
  go_enter Try.func47, Try.ntmps47
  go_wp2_with (at_builtin; (refine wpList_appS (w0 := w) ti_bo (.tmp 3) (.tmp 9) (by rfl) (by rfl) B (some ⟨w.heap.size + 1, 0, none⟩) 1 1 [.string (Str x.1), .string (Str []), (.string (Str (x).2)), .bool false, .bool true] (by rfl) (by rfl) HO2.out (by rfl) HR2.out (by intro h; cases h) (by intro a h; injection h with h; subst h; rfl) (by simp [Value.oneCell']) HBE.out (by have := HZ2.out; omega) (by omega) ?_; intro v7 w7 ho7 hg7 hv7 hB7 hsz7; obtain ⟨A2, c2, rfl⟩ := own_succ ho7; rw [HZ2.out] at hv7; rw [← hw2] at hg7; have hbx7 := HB2.out.kept hg7 (HB2.out.not_row (by decide) (hw2 ▸ HO2.out)); have d0 := hbx7.cell; have d1 := hbx7.frozen))
  go_wp2
  go_end0
  have hne : (Value.slice A2 (out.length + 1) c2).ownBlock ≠ some B := fun e => Boxed.not_row hbx7 (by decide) ho7 e.symm
  refine ⟨⟨_, rfl⟩, .slice A2 (out.length + 1) c2, ⟨hbx7.set _, ?_⟩, ?_, ?_⟩
  · rw [bts_app, List.length_append]
    exact own_mv ho7 (Mv.setCell (O := fun k => k = B) w7 ⟨B, 0, none⟩ _ rfl) (fun k hk e => hne (e ▸ hk))
  · refine ((HM.out.trans (Mv.grown (O := fun k => k = B ∨ v.ownBlock = some k) hg7 (fun k hk _ => .inr hk)) (O := fun k => k = B ∨ v.ownBlock = some k) (fun _ h => h.elim) (fun _ _ h => h)).trans (Mv.setCell (O := fun k => k = B) w7 ⟨B, 0, none⟩ _ rfl) (fun _ h => h) (fun _ _ h => .inl h))
  · rcases hv7 with h | h
    · exact .inl h
    · exact .inr ⟨_, h, by omega⟩
end Go.Proofs.Ytoidbgedpakjmaa.JoinS
