/- A map from texts to texts, by a function of the plain. -/
import Derived.Test.YteeonfnaikndfaaBlk
import Derived.Test.YteeonfnaikndfaaBld
import Derived.Maps.OwnSet
import Derived.Maps.Views
import Derived.Maps.StringElems
import Derived.StringKeys
set_option linter.unusedVariables false
set_option linter.unusedSimpArgs false
namespace Go.Proofs.Yteeonfnaikndfaa.Mp
open Go.RowKit Go.Maps Go.MapKept Go.WideShapes Go.ChangeMaps Go.Proofs.Yteeonfnaikndfaa.Lib Go.Proofs.Yteeonfnaikndfaa.Bld
def MapT (W : World) (mb n : Nat) (f : List UInt8 → Option (List UInt8)) : Prop :=
  ∃ D : DataW Unit, W.ownsMap Try.prog 9 (plainElem Try.prog 9) mb n D ∧ ∀ k, k.length ≤ maxLen → Maps.has D (.string k) = (f k).isSome ∧ D.atKey (.string k) (.lit (.string [])) = .lit (.string ((f k).getD []))
def putF (f : List UInt8 → Option (List UInt8)) (k v : List UInt8) : List UInt8 → Option (List UInt8) := fun x => if x = k then some v else f x
theorem K9 : Keyed Try.prog 9 := Maps.string_keyed Try.underlying9
theorem key9 (k : List UInt8) (h : k.length ≤ maxLen) : keyOf Try.prog 9 (.string (Str k)) = some (.string k) := by
  have := Go.WideMaps.keyOf_string_mk (P := Try.prog) Try.underlying9 (s := Str k) (by rw [Str_size]; exact h)
  rw [this, Str_data]
theorem el9 (v : List UInt8) (h : v.length ≤ maxLen) : plainElem (H := Unit) Try.prog 9 (.string (Str v)) = some (.lit (.string v), []) := by
  have := plainElem_string (H := Unit) (P := Try.prog) Try.underlying9 (s := Str v) (by rw [Str_size]; exact h)
  rw [this, Str_data]
theorem MapT.made (w : World) : MapT (w.alloc (.map #[] 0)) w.heap.size 0 (fun _ => none) :=
  ⟨.map [], World.ownsMap_made _ _ _ _, fun k _ => ⟨rfl, rfl⟩⟩
theorem MapT.kept {w w' : World} {mb n : Nat} {f} {row : Option Nat} (h : MapT w mb n f) (hg : w.grownBy w' row) (hne : some mb ≠ row) : MapT w' mb n f := by
  obtain ⟨D, h1, h2⟩ := h
  exact ⟨D, h1.kept hg hne, h2⟩
theorem MapT.lt {w : World} {mb n : Nat} {f} (h : MapT w mb n f) : mb < w.heap.size := by
  obtain ⟨D, h1, _⟩ := h
  exact h1.lt
theorem MapT.below {w w' : World} {mb n : Nat} {f} (h : MapT w mb n f) (hb : Below w.heap.size w w') : MapT w' mb n f := by
  have hlt := h.lt
  obtain ⟨D, ⟨es, clock, g1, F, hs, hD⟩, h2⟩ := h
  exact ⟨D, ⟨es, clock, (hb.block mb hlt).trans g1, F, hs, hD⟩, h2⟩
theorem MapT.look {w : World} {mb n : Nat} {f : List UInt8 → Option (List UInt8)} (h : MapT w mb n f) (k : List UInt8) (hk : k.length ≤ maxLen) :
    (Instr.lookup 107 (.map (some mb)) (.string (Str k)) true).run Try.prog w = .ok (.tuple #[.string (Str ((f k).getD [])), .bool (f k).isSome]) w := by
  obtain ⟨D, h1, h2⟩ := h
  obtain ⟨h3, h4⟩ := h2 k hk
  have hz : (zeroValue 9).run Try.prog w = .ok (.string (Str [])) w := by rw [Str_nil]; exact Try.zeroValue9 w
  obtain ⟨v, ps, hrun, hv⟩ := h1.look_ok K9 Try.underlying107 hz (el9 [] (by decide)) (key9 k hk)
  rw [h4] at hv
  obtain ⟨s, rfl, e, hs⟩ := Go.plainElem_string_inv Try.underlying9 hv
  have e2 : s = Str ((f k).getD []) := by
    simp only [Prod.mk.injEq, DataW.lit.injEq, Lit.string.injEq] at e
    rw [Str_of s, e.1]
  rw [hrun, h3, e2]
theorem MapT.put {w : World} {mb n : Nat} {f : List UInt8 → Option (List UInt8)} (h : MapT w mb n f) (hn : n < maxLen) (k v : List UInt8) (hk : k.length ≤ maxLen) (hv : v.length ≤ maxLen) :
    ∃ w', (Instr.mapUpdate 107 (.map (some mb)) (.string (Str k)) (.string (Str v))).run Try.prog w = .ok () w' ∧ MapT w' mb (n + 1) (putF f k v) ∧ w.grownBy w' (some mb) := by
  obtain ⟨D, h1, h2⟩ := h
  obtain ⟨w', hrun, ho, ht⟩ := h1.store K9 Try.underlying107 hn (key9 k hk) (el9 v hv)
  refine ⟨w', hrun, ⟨_, ho, fun x hx => ?_⟩, ht.grown⟩
  obtain ⟨h3, h4⟩ := h2 x hx
  unfold putF
  by_cases e : x = k
  · subst e
    rw [if_pos rfl]
    exact ⟨Maps.has_put_same h1.isMap (by trivial) _, Maps.atKey_put_same h1.isMap (by trivial) _ _⟩
  · rw [if_neg e]
    have hne : (Lit.string x) ≠ Lit.string k := by intro h; injection h with h; exact e h
    exact ⟨by rw [Maps.has_put_other hne]; exact h3, by rw [Maps.atKey_put_other hne]; exact h4⟩
end Go.Proofs.Yteeonfnaikndfaa.Mp
