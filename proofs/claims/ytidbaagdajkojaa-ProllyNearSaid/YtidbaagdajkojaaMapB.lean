/- A set of texts: a map from texts to Booleans. -/
import Derived.Test.YtidbaagdajkojaaMap
set_option linter.unusedVariables false
set_option linter.unusedSimpArgs false
namespace Go.Proofs.Ytidbaagdajkojaa.Mp
open Go.RowKit Go.Maps Go.MapKept Go.WideShapes Go.ChangeMaps Go.Proofs.Ytidbaagdajkojaa.Lib Go.Proofs.Ytidbaagdajkojaa.Bld
def MapB (W : World) (mb n : Nat) (f : List UInt8 → Bool) : Prop :=
  ∃ D : DataW Unit, W.ownsMap Try.prog 9 (plainElem Try.prog 4) mb n D ∧ ∀ k, k.length ≤ maxLen → D.atKey (.string k) (.lit (.bool false)) = .lit (.bool (f k))
def putB (f : List UInt8 → Bool) (k : List UInt8) (v : Bool) : List UInt8 → Bool := fun x => if x = k then v else f x
theorem elB (v : Bool) : plainElem (H := Unit) Try.prog 4 (.bool v) = some (.lit (.bool v), []) := plainElem_bool Try.underlying4 v
theorem bool_inv {P : Program} {e : TypeId} (he : P.underlying e = some .bool) {v : Value} {z : DataW Unit × List MemPlace} (h : plainElem P e v = some z) : ∃ b : Bool, v = .bool b ∧ z = (.lit (.bool b), []) := by
  unfold plainElem at h
  rw [he] at h
  cases v <;> simp at h
  exact ⟨_, rfl, h.symm⟩
theorem MapB.made (w : World) : MapB (w.alloc (.map #[] 0)) w.heap.size 0 (fun _ => false) :=
  ⟨.map [], World.ownsMap_made _ _ _ _, fun k _ => rfl⟩
theorem MapB.lt {w : World} {mb n : Nat} {f} (h : MapB w mb n f) : mb < w.heap.size := by
  obtain ⟨D, h1, _⟩ := h
  exact h1.lt
theorem MapB.below {w w' : World} {mb n : Nat} {f} (h : MapB w mb n f) (hb : Below w.heap.size w w') : MapB w' mb n f := by
  have hlt := h.lt
  obtain ⟨D, ⟨es, clock, g1, F, hs, hD⟩, h2⟩ := h
  exact ⟨D, ⟨es, clock, (hb.block mb hlt).trans g1, F, hs, hD⟩, h2⟩
theorem MapB.look {w : World} {mb n : Nat} {f : List UInt8 → Bool} (h : MapB w mb n f) (k : List UInt8) (hk : k.length ≤ maxLen) :
    (Instr.lookup 39 (.map (some mb)) (.string (Str k)) false).run Try.prog w = .ok (.bool (f k)) w := by
  obtain ⟨D, h1, h2⟩ := h
  have h4 := h2 k hk
  obtain ⟨v, ps, hrun, hv⟩ := h1.lookup K9 Try.underlying39 (Try.zeroValue4 w) (elB false) (key9 k hk)
  rw [h4] at hv
  obtain ⟨b, rfl, e⟩ := bool_inv Try.underlying4 hv
  have e2 : b = f k := by
    simp only [Prod.mk.injEq, DataW.lit.injEq, Lit.bool.injEq] at e
    exact e.1.symm
  rw [hrun, e2]
theorem MapB.put {w : World} {mb n : Nat} {f : List UInt8 → Bool} (h : MapB w mb n f) (hn : n < maxLen) (k : List UInt8) (v : Bool) (hk : k.length ≤ maxLen) :
    ∃ w', (Instr.mapUpdate 39 (.map (some mb)) (.string (Str k)) (.bool v)).run Try.prog w = .ok () w' ∧ MapB w' mb (n + 1) (putB f k v) ∧ w.grownBy w' (some mb) := by
  obtain ⟨D, h1, h2⟩ := h
  obtain ⟨w', hrun, ho, ht⟩ := h1.store K9 Try.underlying39 hn (key9 k hk) (elB v)
  refine ⟨w', hrun, ⟨_, ho, fun x hx => ?_⟩, ht.grown⟩
  have h4 := h2 x hx
  unfold putB
  by_cases e : x = k
  · subst e
    rw [if_pos rfl]
    exact Maps.atKey_put_same h1.isMap (by trivial) _ _
  · rw [if_neg e]
    have hne : (Lit.string x) ≠ Lit.string k := by intro h; injection h with h; exact e h
    rw [Maps.atKey_put_other hne]; exact h4
end Go.Proofs.Ytidbaagdajkojaa.Mp
