/- The walks of layer 8: items and nodes as bytes. -/
import Derived.Test.YtidbaagdajkojaaBld
import Derived.Test.YtidbaagdajkojaaMild
import Derived.Test.YtidbaagdajkojaaW07
import Derived.Test.YtidbaagdajkojaaT08
set_option linter.unusedVariables false
set_option linter.unusedSimpArgs false
namespace Go.Proofs.Ytidbaagdajkojaa.W08
open Go.RowKit Go.Proofs.Ytidbaagdajkojaa.Lib Go.Proofs.Ytidbaagdajkojaa.Sha Go.Proofs.Ytidbaagdajkojaa.T07 Go.Proofs.Ytidbaagdajkojaa.T08 Go.Proofs.Ytidbaagdajkojaa.QTail Go.Proofs.Ytidbaagdajkojaa.Bld
attribute [local go_sem] Str_mk Str_size Str_toList Str_extract Str_append Str_get bt_nn bt_lt List.length_append take_rest sha_len two_len
set_option maxRecDepth 100000 in
theorem two_any (n : Nat) (w : World) (hn : n ≤ 1000000000) :
    Calls Try.prog 71 #[.int .i64 (n : Int)] w fun e w' => e = .returned (.string (Str (two n))) ∧ Below w.heap.size w w' := by
  go_enter Try.func71, Try.ntmps71
  go_wp2_with (rw [conv2 _ 91 5 9 5 Try.underlying91 Try.underlying5 Try.underlying9])
  go_ret
  refine ⟨?_, below_al (below_rf w) _⟩
  have e1 : Go.Proofs.Ytidbaagdajkojaa.Lib.u8 ((n : Int) / 256 % 256) = Go.Proofs.Ytidbaagdajkojaa.Lib.u8 ((n / 256 : Nat) : Int) := by rw [u8_mod _ (by omega)]; rfl
  have e2 : Go.Proofs.Ytidbaagdajkojaa.Lib.u8 ((n : Int) % 256) = Go.Proofs.Ytidbaagdajkojaa.Lib.u8 (n : Int) := u8_mod _ (by omega)
  unfold Go.Proofs.Ytidbaagdajkojaa.T08.two
  rw [← e1, ← e2]
  rfl
def itv (x : Itm) : Value := .agg #[.string (Str x.1), .string (Str x.2)]
set_option maxHeartbeats 1600000 in
set_option maxRecDepth 100000 in
theorem form_any (x : Itm) (w : World) (h1 : x.1.length ≤ 1000000000) (h2 : x.2.length ≤ 1000000000) :
    Calls Try.prog 47 #[.agg #[.string (Str x.1), .string (Str x.2)]] w fun e w' => e = .returned (.string (Str (form x))) ∧ Below w.heap.size w w' := by
  go_enter Try.func47, Try.ntmps47
  obtain ⟨w1, hw1⟩ : ∃ w1, w1 = w.alloc (Obj.cells #[Value.string (Str x.1), Value.string (Str x.2)] 42) := ⟨_, rfl⟩
  have hsz : w1.heap.size = w.heap.size + 1 := by rw [hw1]; exact Array.size_push _
  have hl1 : ∀ W, Below w1.heap.size w1 W → W.cell? ⟨w.heap.size, 0, none⟩ = some (.string (Str x.1)) := fun W h => by
    rw [h.cell (p := ⟨w.heap.size, 0, none⟩) (by rw [hsz]; exact Nat.lt_succ_self _), hw1]
    exact World.cell?_alloc_at _ _ _ _ rfl
  have hl2 : ∀ W, Below w1.heap.size w1 W → W.cell? ⟨w.heap.size, 1, none⟩ = some (.string (Str x.2)) := fun W h => by
    rw [h.cell (p := ⟨w.heap.size, 1, none⟩) (by rw [hsz]; exact Nat.lt_succ_self _), hw1]
    exact World.cell?_alloc_at _ _ _ _ rfl
  have hm1 : ∀ W, Below w1.heap.size w1 W → Calls Try.prog 71 #[.int .i64 (x.1.length : Int)] W fun e w' => e = .returned (.string (Str (two x.1.length))) ∧ Below w1.heap.size w1 w' := fun W hW => (two_any _ W h1).mono fun e w' h => ⟨h.1, hW.trans (h.2.mono hW.size)⟩
  have hm2 : ∀ W, Below w1.heap.size w1 W → Calls Try.prog 71 #[.int .i64 (x.2.length : Int)] W fun e w' => e = .returned (.string (Str (two x.2.length))) ∧ Below w1.heap.size w1 w' := fun W hW => (two_any _ W h2).mono fun e w' h => ⟨h.1, hW.trans (h.2.mono hW.size)⟩
  have hbl : Below w.heap.size w w1 := by rw [hw1]; exact below_al (below_rf w) _
  have HSZ := hid hsz
  clear hsz
  go_wp2
  rw [← hw1]
  have HW1 := hid hw1
  clear hw1
  refine wp_region_mild w1.heap.size (by kernel_rfl) (by kernel_rfl) ?_
  repeat (
    refine wpQuiet_step (fun K hK => ?_)
    first
      | (refine mild_skip (by rfl) (hK _ ?_)
         clear hK K)
      | (refine mild_read (by rfl) ?_
         apply Exists.intro
         refine ⟨fun W hW => ?_, hK _ ?_⟩
         (go_simp; first | rfl | (rw [if_neg (by omega)]))
         clear hK K)
      | (refine mild_call (by rfl) ?_
         apply Exists.intro
         apply Exists.intro
         refine ⟨fun W hW => ?_, ?_⟩
         (go_simp; exact ⟨rfl, rfl⟩)
         apply Exists.intro
         refine ⟨fun W hW => ?_, hK _ ?_⟩
         (first | with_reducible exact (hm1 W hW) | with_reducible exact (hm2 W hW))
         clear hK K)
    go_simp)
  refine wpQuiet_nil ?_
  intro W hW
  go_wp2
  go_ret
  refine ⟨?_, hbl.trans (hW.mono (by rw [HSZ.out]; omega))⟩
  simp [form]
end Go.Proofs.Ytidbaagdajkojaa.W08
