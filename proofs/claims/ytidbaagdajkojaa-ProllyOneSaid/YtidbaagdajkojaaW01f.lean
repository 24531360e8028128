/- The walks of layer 1: the document's fingerprint. -/
import Derived.Test.YtidbaagdajkojaaW01e
set_option linter.unusedVariables false
set_option linter.unusedSimpArgs false
namespace Go.Proofs.Ytidbaagdajkojaa.W01
open Go.RowKit Go.Proofs.Ytidbaagdajkojaa.Lib Go.Proofs.Ytidbaagdajkojaa.Sha
theorem print_ref_any (s : List UInt8) (w : World) (hs : s.length ≤ 140737488351232) :
    Calls Try.prog 29 #[.string (Str s)] w fun e w' => e = .returned (.string (Str (sha s))) ∧ Below w.heap.size w w' := by
  go_enter Try.func29, Try.ntmps29
  go_wp2_with fail
  refine (H_any _).mono ?_; rintro e w1 ⟨A1, rfl, hb1, hr1⟩
  go_wp2_with fail
  refine (K_any _).mono ?_; rintro e w2 ⟨A2, rfl, hb2, hr2⟩
  go_wp2_with fail
  refine (by_any s A1 A2 8 64 _ hs (hr1.below hb2) hr2).mono ?_; rintro e w3 ⟨rfl, hb3⟩
  go_wp2
  go_ret
  exact ⟨rfl, below_tr (below_tr hb1 hb2) hb3⟩
end Go.Proofs.Ytidbaagdajkojaa.W01
