/- How rows of pairs of texts read. -/
import Derived.Test.YtidbaagdajkojaaOpen
import Derived.Test.YtidbaagdajkojaaItm
import Derived.Test.YtidbaagdajkojaaProg
import Derived.KernelRfl
set_option linter.unusedVariables false
set_option linter.unusedSimpArgs false
namespace Go.Proofs.Ytidbaagdajkojaa.Open
open Go.RowKit Go.Proofs.Ytidbaagdajkojaa.Lib Go.Proofs.Ytidbaagdajkojaa.Itms Go.Proofs.Ytidbaagdajkojaa.T08 Go.ChangeShapes Go.WideShapes
def RItem (w : World) (cs : List Value) (x : List UInt8 × List UInt8) : Prop := RStr w ((cs.drop 0).take 1) x.1 ∧ RStr w ((cs.drop 1).take 1) x.2 ∧ cs.length = 2
theorem opens_item : Opens Try.prog 38 RItem := by
  intro H enc w base spare held fuel cs y hy hw
  obtain ⟨x, h1, h2, h3⟩ := opens_struct2 Try.underlying38 (opens_str Try.underlying9) (opens_str Try.underlying9) enc w base spare held fuel cs y hy hw
  have c1 : Try.prog.cellsOf 9 = 1 := by kernel_rfl
  have c2 : Try.prog.cellsOf 38 = 2 := by kernel_rfl
  rw [c1] at h1 h2
  rw [c2] at h3
  exact ⟨x, h1, h2, h3⟩
theorem item_cells {w : World} {cs : List Value} {x : List UInt8 × List UInt8} (h : RItem w cs x) : cs = [.string (Str x.1), .string (Str x.2)] := by
  obtain ⟨⟨h1, _⟩, ⟨h2, _⟩, h3⟩ := h
  match cs, h3 with
  | [a, c], _ =>
    simp at h1 h2
    rw [h1, h2]
theorem rd_items {w : World} {A : Option Addr} {xs : List (List UInt8 × List UInt8)} (h : SliceRd w A 2 RItem xs) : Rd w A (its xs) :=
  h.flat (α := List UInt8 × List UInt8) (fun x => [.string (Str x.1), .string (Str x.2)]) (fun _ => rfl) (fun cs x hx => item_cells hx) (by decide)
theorem items_short {w : World} {A : Option Addr} {xs : List (List UInt8 × List UInt8)} (h : SliceRd w A 2 RItem xs) (k : Nat) (hk : k < xs.length) : (itm xs k).1.length ≤ 140737488355328 ∧ (itm xs k).2.length ≤ 140737488355328 := by
  rw [itm_eq xs k hk]
  rcases h with rfl | ⟨b, o, rfl, h⟩
  · simp at hk
  · obtain ⟨cs, _, ⟨⟨_, h1⟩, ⟨_, h2⟩, _⟩, _⟩ := h k _ (List.getElem?_eq_getElem hk)
    omega
end Go.Proofs.Ytidbaagdajkojaa.Open
