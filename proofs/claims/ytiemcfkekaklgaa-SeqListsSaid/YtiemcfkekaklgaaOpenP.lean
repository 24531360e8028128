/- How rows of pairs of a text and a number read. -/
import Derived.Test.YtiemcfkekaklgaaOpen
import Derived.Test.YtiemcfkekaklgaaPrs
import Derived.Test.YtiemcfkekaklgaaProg
import Derived.KernelRfl
set_option linter.unusedVariables false
set_option linter.unusedSimpArgs false
namespace Go.Proofs.Ytiemcfkekaklgaa.Open
open Go.RowKit Go.Proofs.Ytiemcfkekaklgaa.Lib Go.Proofs.Ytiemcfkekaklgaa.Prs Go.ChangeShapes Go.WideShapes
def RP (w : World) (cs : List Value) (x : List UInt8 × Int) : Prop := RStr w ((cs.drop 0).take 1) x.1 ∧ RInt .i64 w ((cs.drop 1).take 1) x.2 ∧ cs.length = 2
theorem opens_p : Opens Try.prog 52 RP := by
  intro H enc w base spare held fuel cs y hy hw
  obtain ⟨x, h1, h2, h3⟩ := opens_struct2 Try.underlying52 (opens_str Try.underlying9) (opens_int (k := .i64) Try.underlying3) enc w base spare held fuel cs y hy hw
  have c1 : Try.prog.cellsOf 9 = 1 := by kernel_rfl
  have c2 : Try.prog.cellsOf 52 = 2 := by kernel_rfl
  have c3 : Try.prog.cellsOf 3 = 1 := by kernel_rfl
  rw [c1] at h1
  dsimp only at h2
  rw [c3] at h2
  rw [c2] at h3
  exact ⟨x, h1, h2, h3⟩
theorem p_cells {w : World} {cs : List Value} {x : List UInt8 × Int} (h : RP w cs x) : cs = [.string (Str x.1), .int .i64 x.2] := by
  obtain ⟨⟨h1, _⟩, ⟨h2, _⟩, h3⟩ := h
  match cs, h3 with
  | [a, c], _ =>
    simp at h1 h2
    rw [h1, h2]
theorem rd_ps {w : World} {A : Option Addr} {xs : List (List UInt8 × Int)} (h : SliceRd w A 2 RP xs) : Rd w A (its xs) :=
  h.flat (α := List UInt8 × Int) (fun x => [.string (Str x.1), .int .i64 x.2]) (fun _ => rfl) (fun cs x hx => p_cells hx) (by decide)
end Go.Proofs.Ytiemcfkekaklgaa.Open
