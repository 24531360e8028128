/- A map from texts to texts, by a function of the plain. A set of texts: a map from texts to Booleans. -/
import Derived.Test.YtoidbgedpakjmaaBlk
import Derived.Test.YtoidbgedpakjmaaBld
import Derived.Maps.OwnSet
import Derived.Maps.Views
import Derived.Maps.StringElems
import Derived.StringKeys
set_option linter.unusedVariables false
set_option linter.unusedSimpArgs false
namespace Go.Proofs.Ytoidbgedpakjmaa.Mp
open Go.RowKit Go.Maps Go.MapKept Go.WideShapes Go.ChangeMaps Go.Proofs.Ytoidbgedpakjmaa.Lib Go.Proofs.Ytoidbgedpakjmaa.Bld
def MapT (W : World) (mb n : Nat) (f : List UInt8 → Option (List UInt8)) : Prop :=
  ∃ D : DataW Unit, W.ownsMap Try.prog 9 (plainElem Try.prog 9) mb n D ∧ ∀ k, k.length ≤ maxLen → Maps.has D (.string k) = (f k).isSome ∧ D.atKey (.string k) (.lit (.string [])) = .lit (.string ((f k).getD []))
def putF (f : List UInt8 → Option (List UInt8)) (k v : List UInt8) : List UInt8 → Option (List UInt8) := fun x => if x = k then some v else f x
theorem K9 : Keyed Try.prog 9 := Maps.string_keyed Try.underlying9
theorem key9 (k : List UInt8) (h : k.length ≤ maxLen) : keyOf Try.prog 9 (.string (Str k)) = some (.string k) := by
  have := Go.WideMaps.keyOf_string_mk (P := Try.prog) Try.underlying9 (s := Str k) (by rw [Str_size]; exact h)
  rw [this, Str_data]
theorem el9 (v : List UInt8) (h : v.length ≤ maxLen) : plainElem (H := Unit) Try.prog 9 (.string (Str v)) = some (.lit (.string v), []) := by
  have := plainElem_string (H := Unit) (P := Try.prog) Try.underlying9 (s := Str v) (by rw [Str_size]; exact h)
  rw [this, Str_data]
theorem MapT.made (w : World) : MapT (w.alloc (.map #[] 0)) w.heap.size 0 (fun _ => none) :=
  ⟨.map [], World.ownsMap_made _ _ _ _, fun k _ => ⟨rfl, rfl⟩⟩
theorem MapT.kept {w w' : World} {mb n : Nat} {f} {row : Option Nat} (h : MapT w mb n f) (hg : w.grownBy w' row) (hne : some mb ≠ row) : MapT w' mb n f := by
  obtain ⟨D, h1, h2⟩ := h
  exact ⟨D, h1.kept hg hne, h2⟩
theorem MapT.lt {w : World} {mb n : Nat} {f} (h : MapT w mb n f) : mb < w.heap.size := by
  obtain ⟨D, h1, _⟩ := h
  exact h1.lt
theorem MapT.below {w w' : World} {mb n : Nat} {f} (h : MapT w mb n f) (hb : Below w.heap.size w w') : MapT w' mb n f := by
  have hlt := h.lt
  obtain ⟨D, ⟨es, clock, g1, F, hs, hD⟩, h2⟩ := h
  exact ⟨D, ⟨es, clock, (hb.block mb hlt).trans g1, F, hs, hD⟩, h2⟩
theorem MapT.look {w : World} {mb n : Nat} {f : List UInt8 → Option (List UInt8)} (h : MapT w mb n f) (k : List UInt8) (hk : k.length ≤ maxLen) :
    (Instr.lookup 64 (.map (some mb)) (.string (Str k)) true).run Try.prog w = .ok (.tuple #[.string (Str ((f k).getD [])), .bool (f k).isSome]) w := by
  obtain ⟨D, h1, h2⟩ := h
  obtain ⟨h3, h4⟩ := h2 k hk
  have hz : (zeroValue 9).run Try.prog w = .ok (.string (Str [])) w := by rw [Str_nil]; exact Try.zeroValue9 w
  obtain ⟨v, ps, hrun, hv⟩ := h1.look_ok K9 Try.underlying64 hz (el9 [] (by decide)) (key9 k hk)
  rw [h4] at hv
  obtain ⟨s, rfl, e, hs⟩ := Go.plainElem_string_inv Try.underlying9 hv
  have e2 : s = Str ((f k).getD []) := by
    simp only [Prod.mk.injEq, DataW.lit.injEq, Lit.string.injEq] at e
    rw [Str_of s, e.1]
  rw [hrun, h3, e2]
theorem MapT.put {w : World} {mb n : Nat} {f : List UInt8 → Option (List UInt8)} (h : MapT w mb n f) (hn : n < maxLen) (k v : List UInt8) (hk : k.length ≤ maxLen) (hv : v.length ≤ maxLen) :
    ∃ w', (Instr.mapUpdate 64 (.map (some mb)) (.string (Str k)) (.string (Str v))).run Try.prog w = .ok () w' ∧ MapT w' mb (n + 1) (putF f k v) ∧ w.grownBy w' (some mb) := by
  obtain ⟨D, h1, h2⟩ := h
  obtain ⟨w', hrun, ho, ht⟩ := h1.store K9 Try.underlying64 hn (key9 k hk) (el9 v hv)
  refine ⟨w', hrun, ⟨_, ho, fun x hx => ?_⟩, ht.grown⟩
  obtain ⟨h3, h4⟩ := h2 x hx
  unfold putF
  by_cases e : x = k
  · subst e
    rw [if_pos rfl]
    exact ⟨Maps.has_put_same h1.isMap (by trivial) _, Maps.atKey_put_same h1.isMap (by trivial) _ _⟩
  · rw [if_neg e]
    have hne : (Lit.string x) ≠ Lit.string k := by intro h; injection h with h; exact e h
    exact ⟨by rw [Maps.has_put_other hne]; exact h3, by rw [Maps.atKey_put_other hne]; exact h4⟩
end Go.Proofs.Ytoidbgedpakjmaa.Mp
namespace Go.Proofs.Ytoidbgedpakjmaa.Mp
open Go.RowKit Go.Maps Go.MapKept Go.WideShapes Go.ChangeMaps Go.Proofs.Ytoidbgedpakjmaa.Lib Go.Proofs.Ytoidbgedpakjmaa.Bld
def MapB (W : World) (mb n : Nat) (f : List UInt8 → Bool) : Prop :=
  ∃ D : DataW Unit, W.ownsMap Try.prog 9 (plainElem Try.prog 4) mb n D ∧ ∀ k, k.length ≤ maxLen → D.atKey (.string k) (.lit (.bool false)) = .lit (.bool (f k))
def putB (f : List UInt8 → Bool) (k : List UInt8) (v : Bool) : List UInt8 → Bool := fun x => if x = k then v else f x
theorem elB (v : Bool) : plainElem (H := Unit) Try.prog 4 (.bool v) = some (.lit (.bool v), []) := plainElem_bool Try.underlying4 v
theorem bool_inv {P : Program} {e : TypeId} (he : P.underlying e = some .bool) {v : Value} {z : DataW Unit × List MemPlace} (h : plainElem P e v = some z) : ∃ b : Bool, v = .bool b ∧ z = (.lit (.bool b), []) := by
  unfold plainElem at h
  rw [he] at h
  cases v <;> simp at h
  exact ⟨_, rfl, h.symm⟩
theorem MapB.made (w : World) : MapB (w.alloc (.map #[] 0)) w.heap.size 0 (fun _ => false) :=
  ⟨.map [], World.ownsMap_made _ _ _ _, fun k _ => rfl⟩
theorem MapB.lt {w : World} {mb n : Nat} {f} (h : MapB w mb n f) : mb < w.heap.size := by
  obtain ⟨D, h1, _⟩ := h
  exact h1.lt
theorem MapB.below {w w' : World} {mb n : Nat} {f} (h : MapB w mb n f) (hb : Below w.heap.size w w') : MapB w' mb n f := by
  have hlt := h.lt
  obtain ⟨D, ⟨es, clock, g1, F, hs, hD⟩, h2⟩ := h
  exact ⟨D, ⟨es, clock, (hb.block mb hlt).trans g1, F, hs, hD⟩, h2⟩
theorem MapB.look {w : World} {mb n : Nat} {f : List UInt8 → Bool} (h : MapB w mb n f) (k : List UInt8) (hk : k.length ≤ maxLen) :
    (Instr.lookup 74 (.map (some mb)) (.string (Str k)) false).run Try.prog w = .ok (.bool (f k)) w := by
  obtain ⟨D, h1, h2⟩ := h
  have h4 := h2 k hk
  obtain ⟨v, ps, hrun, hv⟩ := h1.lookup K9 Try.underlying74 (Try.zeroValue4 w) (elB false) (key9 k hk)
  rw [h4] at hv
  obtain ⟨b, rfl, e⟩ := bool_inv Try.underlying4 hv
  have e2 : b = f k := by
    simp only [Prod.mk.injEq, DataW.lit.injEq, Lit.bool.injEq] at e
    exact e.1.symm
  rw [hrun, e2]
theorem MapB.put {w : World} {mb n : Nat} {f : List UInt8 → Bool} (h : MapB w mb n f) (hn : n < maxLen) (k : List UInt8) (v : Bool) (hk : k.length ≤ maxLen) :
    ∃ w', (Instr.mapUpdate 74 (.map (some mb)) (.string (Str k)) (.bool v)).run Try.prog w = .ok () w' ∧ MapB w' mb (n + 1) (putB f k v) ∧ w.grownBy w' (some mb) := by
  obtain ⟨D, h1, h2⟩ := h
  obtain ⟨w', hrun, ho, ht⟩ := h1.store K9 Try.underlying74 hn (key9 k hk) (elB v)
  refine ⟨w', hrun, ⟨_, ho, fun x hx => ?_⟩, ht.grown⟩
  have h4 := h2 x hx
  unfold putB
  by_cases e : x = k
  · subst e
    rw [if_pos rfl]
    exact Maps.atKey_put_same h1.isMap (by trivial) _ _
  · rw [if_neg e]
    have hne : (Lit.string x) ≠ Lit.string k := by intro h; injection h with h; exact e h
    rw [Maps.atKey_put_other hne]; exact h4
end Go.Proofs.Ytoidbgedpakjmaa.Mp
