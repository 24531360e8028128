/- The walks of layer 1: the document's fingerprint. -/
import Derived.Test.YtidbaagdajkojaaW01b
import Derived.Test.YtidbaagdajkojaaBlk
import Derived.Test.YtidbaagdajkojaaQTail
set_option linter.unusedVariables false
set_option linter.unusedSimpArgs false
namespace Go.Proofs.Ytidbaagdajkojaa.W01
open Go.RowKit Go.Proofs.Ytidbaagdajkojaa.Lib Go.Proofs.Ytidbaagdajkojaa.Sha
def stL (s : St) : List W32 := [s.a, s.b, s.c, s.d, s.e, s.f, s.g, s.h]
theorem stL_at (s : St) (j : Nat) (h : j < 8) : (us (stL s))[j]? = some (.int .u32 (V (nth s j))) := by
  rcases j with _ | _ | _ | _ | _ | _ | _ | _ | j
  all_goals first | (exfalso; omega) | rfl
theorem kL_at (j : Nat) (h : j < 64) : (us kList)[j]? = some (.int .u32 (V (kAt j))) := us_at _ _ h
theorem H_any (w : World) : Calls Try.prog 54 #[] w fun e w' => ∃ A, e = .returned (.slice A 8 8) ∧ Below w.heap.size w w' ∧ Rd w' A (us (stL st0)) := by
  go_enter Try.func54, Try.ntmps54
  go_wp2
  go_ret
  refine ⟨_, rfl, below_al (below_rf w) _, .inr ⟨_, _, rfl, fun j x hx => ?_⟩⟩
  rw [World.cell?_alloc_at _ _ _ _ rfl, Nat.zero_add, ← hx]
  simp only [us, stL, st0, List.map_cons, List.map_nil, V_def]
  simp
set_option maxHeartbeats 3200000 in
theorem K_any (w : World) : Calls Try.prog 55 #[] w fun e w' => ∃ A, e = .returned (.slice A 64 64) ∧ Below w.heap.size w w' ∧ Rd w' A (us kList) := by
  go_enter Try.func55, Try.ntmps55
  go_wp2
  go_ret
  refine ⟨_, rfl, below_al (below_rf w) _, .inr ⟨_, _, rfl, fun j x hx => ?_⟩⟩
  rw [World.cell?_alloc_at _ _ _ _ rfl, Nat.zero_add, ← hx]
  simp only [us, kList, List.map_cons, List.map_nil, V_def]
  simp
end Go.Proofs.Ytidbaagdajkojaa.W01
