/- How rows of pairs of texts read. How an array of two texts reads. -/
import Derived.Test.YtoidbgedpakjmaaOpen
import Derived.Test.YtoidbgedpakjmaaOrd
import Derived.Test.YtoidbgedpakjmaaProg
import Derived.KernelRfl
import Derived.OpenShut
set_option linter.unusedVariables false
set_option linter.unusedSimpArgs false
namespace Go.Proofs.Ytoidbgedpakjmaa.Open
open Go.RowKit Go.Proofs.Ytoidbgedpakjmaa.Lib Go.Proofs.Ytoidbgedpakjmaa.Itms Go.Proofs.Ytoidbgedpakjmaa.T08 Go.ChangeShapes Go.WideShapes
def RItem (w : World) (cs : List Value) (x : List UInt8 × List UInt8) : Prop := RStr w ((cs.drop 0).take 1) x.1 ∧ RStr w ((cs.drop 1).take 1) x.2 ∧ cs.length = 2
theorem opens_item : Opens Try.prog 51 RItem := by
  intro H enc w base spare held fuel cs y hy hw
  obtain ⟨x, h1, h2, h3⟩ := opens_struct2 Try.underlying51 (opens_str Try.underlying9) (opens_str Try.underlying9) enc w base spare held fuel cs y hy hw
  have c1 : Try.prog.cellsOf 9 = 1 := by kernel_rfl
  have c2 : Try.prog.cellsOf 51 = 2 := by kernel_rfl
  rw [c1] at h1 h2
  rw [c2] at h3
  exact ⟨x, h1, h2, h3⟩
theorem item_cells {w : World} {cs : List Value} {x : List UInt8 × List UInt8} (h : RItem w cs x) : cs = [.string (Str x.1), .string (Str x.2)] := by
  obtain ⟨⟨h1, _⟩, ⟨h2, _⟩, h3⟩ := h
  match cs, h3 with
  | [a, c], _ =>
    simp at h1 h2
    rw [h1, h2]
theorem rd_items {w : World} {A : Option Addr} {xs : List (List UInt8 × List UInt8)} (h : SliceRd w A 2 RItem xs) : Rd w A (its xs) :=
  h.flat (α := List UInt8 × List UInt8) (fun x => [.string (Str x.1), .string (Str x.2)]) (fun _ => rfl) (fun cs x hx => item_cells hx) (by decide)
theorem items_short {w : World} {A : Option Addr} {xs : List (List UInt8 × List UInt8)} (h : SliceRd w A 2 RItem xs) (k : Nat) (hk : k < xs.length) : (itm xs k).1.length ≤ 140737488355328 ∧ (itm xs k).2.length ≤ 140737488355328 := by
  rw [itm_eq xs k hk]
  rcases h with rfl | ⟨b, o, rfl, h⟩
  · simp at hk
  · obtain ⟨cs, _, ⟨⟨_, h1⟩, ⟨_, h2⟩, _⟩, _⟩ := h k _ (List.getElem?_eq_getElem hk)
    omega
end Go.Proofs.Ytoidbgedpakjmaa.Open
namespace Go.Proofs.Ytoidbgedpakjmaa.Open
open Go.RowKit Go.Proofs.Ytoidbgedpakjmaa.Lib Go.Proofs.Ytoidbgedpakjmaa.Itms Go.Proofs.Ytoidbgedpakjmaa.T08 Go.ChangeShapes Go.WideShapes
theorem okWide_array {P : Program} {w : World} {r : Reach} {base : Nat} {t e : TypeId} {n : Nat} {v : Value} (ht : P.underlying t = some (.array n e)) (h : Value.okWide P w r base t v) : ∃ cs, v = .agg cs ∧ cs.size = P.cellsOf t := by
  simp only [Value.okWide, ht] at h
  obtain ⟨cs, h1, h2, _⟩ := h
  exact ⟨cs, h1, h2⟩
theorem opens_arr2 {P : Program} {t e : TypeId} (ht : P.underlying t = some (.array 2 e)) (he : P.underlying e = some .string) (hc : P.cellsOf e = 1) (hc2 : P.cellsOf t = 2) : Opens P t (fun w cs (x : List UInt8 × List UInt8) => RStr w ((cs.drop 0).take 1) x.1 ∧ RStr w ((cs.drop 1).take 1) x.2 ∧ cs.length = 2) := by
  intro H enc w base spare held fuel cs y hy hw
  obtain ⟨xs, n, rfl, rfl, hl, hxs, hf⟩ := DataW.trod_array ht hy
  have e0 := hf 0 (by decide)
  have e1 := hf 1 (by decide)
  obtain ⟨y0, y1, rfl⟩ : ∃ y0 y1, xs = [y0, y1] := by
    match xs, hxs with
    | [a, b], _ => exact ⟨a, b, rfl⟩
  rw [hc] at e0 e1
  simp only [DataW.weights, ht] at hw
  simp [DataW.weightsAll] at hw
  obtain ⟨x0, r0⟩ := opens_str he enc w base spare held n _ y0 e0 (fun n hn => hw n (.inl hn))
  obtain ⟨x1, r1⟩ := opens_str he enc w base spare held n _ y1 e1 (fun n hn => hw n (.inr hn))
  exact ⟨(x0, x1), by simpa using r0, by simpa using r1, by rw [hl, hc2]⟩
theorem keys_cells {w : World} {cs : List Value} {x : List UInt8 × List UInt8} (h : RStr w ((cs.drop 0).take 1) x.1 ∧ RStr w ((cs.drop 1).take 1) x.2 ∧ cs.length = 2) : cs = [.string (Str x.1), .string (Str x.2)] := by
  obtain ⟨⟨h1, _⟩, ⟨h2, _⟩, h3⟩ := h
  match cs, h3 with
  | [a, c], _ =>
    simp at h1 h2
    rw [h1, h2]
end Go.Proofs.Ytoidbgedpakjmaa.Open
