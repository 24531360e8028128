/- The walks of layer 8: a run over a tree of any height. -/
import Derived.Test.YteeonfnaikndfaaW08m
import Derived.Test.YteeonfnaikndfaaMixed
set_option linter.unusedVariables false
set_option linter.unusedSimpArgs false
namespace Go.Proofs.Yteeonfnaikndfaa.W08
open Go Go.RowKit Go.Shelf Go.Proofs.Yteeonfnaikndfaa.Lib Go.Proofs.Yteeonfnaikndfaa.Sha Go.Proofs.Yteeonfnaikndfaa.T08 Go.Proofs.Yteeonfnaikndfaa.QTail Go.Proofs.Yteeonfnaikndfaa.Itms Go.Proofs.Yteeonfnaikndfaa.WSeq Go.Proofs.Yteeonfnaikndfaa.Mp Go.Proofs.Yteeonfnaikndfaa.Ord Go.Proofs.Yteeonfnaikndfaa.Tree Go.Proofs.Yteeonfnaikndfaa.Run Go.Proofs.Yteeonfnaikndfaa.Inj
attribute [local go_sem] Oper.semAt_some
attribute [local go_sem] Str_size Str_toList Str_extract
theorem HeapT.mv {W W1 : World} {O : Nat → Prop} {hb mb n : Nat} {f} (h : HeapT W hb mb n f) (hm : Mv O W W1) (h1 : ¬ O hb) (h2 : ¬ O mb) : HeapT W1 hb mb n f := by
  refine ⟨(hm.block hb (Array.getElem?_eq_some_iff.1 h.1).1 h1).trans h.1, ?_⟩
  have hlt := h.2.lt
  obtain ⟨D, ⟨es, clock, g1, F, hs, hD⟩, h3⟩ := h.2
  exact ⟨D, ⟨es, clock, (hm.block mb hlt h2).trans g1, F, hs, hD⟩, h3⟩
theorem rdt_mv {O : Nat → Prop} {W W' : World} {A : Option Addr} {xs : List Value} (h : Rd W A xs) (hm : Mv O W W') (hn : ∀ b o, A = some ⟨b, o, none⟩ → ¬ O b) : Rd W' A xs := by
  rcases h with h | ⟨b, o, rfl, h⟩
  · exact .inl h
  · exact .inr ⟨b, o, rfl, fun j x hj => hm.cell (h j x hj) (hn b o rfl)⟩
theorem own_shape {W : World} {base n : Nat} {e : TypeId} {size : Nat} {v : Value} {xs : List Value} (h : W.ownsRow base e size v n xs) : ∃ A c, v = .slice A n c ∧ n ≤ c ∧ Rd W A xs ∧ (A = none → c = 0) ∧ ∀ a, A = some a → a.spot = none ∧ base ≤ a.block ∧ a.block < W.heap.size := by
  obtain ⟨A, c, rfl, hc, hr, _, hs⟩ := Rd.own' h
  refine ⟨A, c, rfl, hc, hr, ?_, fun a ha => ?_⟩
  · rintro rfl
    rcases h.2 with ⟨e, _⟩ | ⟨g, cap, cur, e, _⟩
    · injection e
    · injection e with e _ _; cases e
  · subst ha
    exact ⟨hs a rfl, own_block_base h a.block rfl, own_lt h a.block rfl⟩
/-- how a walk below a node ends -/
def WalkOut (J Jx : Nat → (Nat → Prop) → World → Prop) (off n : Nat) (ok : Bool) (O : Nat → Prop) (w : World) (e : Ending) (w' : World) : Prop :=
  ∃ O', Mv O w w' ∧ (∀ k, O' k → O k ∨ w.heap.size ≤ k) ∧ ((e = .returned (.bool ok) ∧ J (off + n) O' w') ∨ (e = .returned (.bool false) ∧ ∃ i, off ≤ i ∧ i < off + n ∧ Jx (i + 1) O' w'))
end Go.Proofs.Yteeonfnaikndfaa.W08
