/- The walks of layer 8: fields. -/
import Derived.Test.YtidbaagdajkojaaT08p
import Derived.Test.YtidbaagdajkojaaW08b
set_option linter.unusedVariables false
set_option linter.unusedSimpArgs false
namespace Go.Proofs.Ytidbaagdajkojaa.W08
open Go.RowKit Go.Proofs.Ytidbaagdajkojaa.Lib Go.Proofs.Ytidbaagdajkojaa.Sha Go.Proofs.Ytidbaagdajkojaa.T08 Go.Proofs.Ytidbaagdajkojaa.QTail Go.Proofs.Ytidbaagdajkojaa.Itms
theorem n2_walk (s : List UInt8) : bits .or .i64 (wrap64 (wrap64 (bt s 0) * 256)) (wrap64 (bt s 1)) = ((n2 s : Nat) : Int) := by
  have a0 := bt_nn s 0; have a1 := bt_nn s 1
  have b0 := bt_lt s 0; have b1 := bt_lt s 1
  have w0 : wrap64 (wrap64 (bt s 0) * 256) = bt s 0 * 256 := by unfold wrap64; omega
  have w1 : wrap64 (bt s 1) = bt s 1 := by unfold wrap64; omega
  rw [w0, w1, bits_join .i64 62 (by decide) (fun n h0 h1 => by rw [IntKind.wrap_i64]; omega) 8 _ _ (by omega) (by omega) (by omega) a1 (by omega) (by omega)]
  rw [bt_bat, bt_bat]; unfold n2; omega
attribute [local go_sem] Str_size Str_toList Str_extract Str_append Str_get bt_nn bt_lt List.length_append take_rest n2_walk
def FieldOut (s : List UInt8) (e : Ending) : Prop :=
  (fieldS s = none ∧ e = .returned (.tuple #[.string (Str []), .string (Str []), .bool false])) ∨ ∃ a b, fieldS s = some (a, b) ∧ e = .returned (.tuple #[.string (Str a), .string (Str b), .bool true])
set_option maxRecDepth 100000 in
set_option maxHeartbeats 1600000 in
theorem field_any (s : List UInt8) (w : World) (hs : s.length ≤ 1000000000) :
    Calls Try.prog 59 #[.string (Str s)] w fun e w' => FieldOut s e ∧ Below w.heap.size w w' := by
  go_enter Try.func59, Try.ntmps59
  by_cases h2 : s.length < 2
  · have hf : fieldS s = none := by unfold fieldS; rw [if_pos h2]
    have HF := hid hf
    clear hf
    go_wp2
    go_ret3
    exact ⟨.inl ⟨HF.out, by rw [Str_nil]; rfl⟩, below_rf w⟩
  · obtain ⟨n, hn⟩ : ∃ n, n = n2 s := ⟨_, rfl⟩
    have hn1 : n < 65536 := by
      rw [hn]; unfold n2
      have := (bat s 0).toNat_lt; have := (bat s 1).toNat_lt; omega
    have hw2 : bits .or .i64 (wrap64 (wrap64 (bt s 0) * 256)) (wrap64 (bt s 1)) = (n : Int) := by rw [hn]; exact n2_walk s
    by_cases h3 : s.length - 2 < n
    · have hf : fieldS s = none := by unfold fieldS; rw [if_neg h2, ← hn, if_pos h3]
      have HF := hid hf
      have HN := hid hn
      clear hf hn
      go_wp2
      go_quiet (fail)
      go_wp2
      go_ret3
      exact ⟨.inl ⟨HF.out, by rw [Str_nil]; rfl⟩, below_drewN (below_rf w) _⟩
    · have hf : fieldS s = some ((s.drop 2).take n, (s.drop 2).drop n) := by unfold fieldS; rw [if_neg h2, ← hn, if_neg h3]
      have HF := hid hf
      have HN := hid hn
      clear hf hn
      go_wp2
      go_quiet (fail)
      go_wp2
      go_quiet (fail)
      go_wp2
      go_ret3
      refine ⟨.inr ⟨_, _, HF.out, ?_⟩, below_drewN (below_drewN (below_rf w) _) _⟩
      simp [List.drop_drop, Nat.add_comm]
      rw [List.take_of_length_le (by simp; omega)]
end Go.Proofs.Ytidbaagdajkojaa.W08
