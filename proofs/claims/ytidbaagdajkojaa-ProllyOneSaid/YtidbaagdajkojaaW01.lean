/- The walks of layer 1: turns, the rounds' numbers. -/
import Derived.Test.YtidbaagdajkojaaProg
import Derived.Test.YtidbaagdajkojaaSha
import Derived.Outline
import Derived.StillTailTactics
set_option linter.unusedVariables false
set_option linter.unusedSimpArgs false
namespace Go.Proofs.Ytidbaagdajkojaa.W01
open Go.RowKit Go.Proofs.Ytidbaagdajkojaa.Lib Go.Proofs.Ytidbaagdajkojaa.Sha
theorem badd (a b : W32) : (V a + V b) % 4294967296 = V (a + b) := by
  simp only [V_def]; rw [BitVec.toNat_add]; omega
theorem bshrN (a : W32) (n : Nat) : V a / 2 ^ n = V (a >>> n) := by
  simp only [V_def]; rw [BitVec.toNat_ushiftRight, Nat.shiftRight_eq_div_pow]; simp
theorem bshlN (a : W32) (n : Nat) : V a * 2 ^ n % 4294967296 = V (a <<< n) := by
  simp only [V_def]; rw [BitVec.toNat_shiftLeft, Nat.shiftLeft_eq]; simp
attribute [local go_sem] Str_mk Str_size Str_toList Str_extract Str_append Str_get bt_nn bt_lt V_nn V_lt bx ba bo badd
theorem rr_walk (x : W32) (n : Nat) (h1 : 1 ≤ n) (h2 : n ≤ 31) : bits .or .u32 (V x * 2 ^ (32 - n) % 4294967296) (V x / 2 ^ n) = V (rr x n) := by
  rw [bshlN, bshrN, bo, BitVec.or_comm]; rfl
theorem or_comm32 (a b : Int) : bits .or .u32 a b = bits .or .u32 b a := by unfold bits; simp only [BitVec.or_comm]
theorem and31 (n : Nat) (h1 : 1 ≤ n) (h2 : n ≤ 31) : bits .and .u64 (IntKind.u64.wrap (-(n : Int))) 31 = ((32 - n : Nat) : Int) := by
  have e : IntKind.u64.wrap (-(n : Int)) = ((18446744073709551616 - n : Nat) : Int) := by rw [IntKind.wrap_u64]; omega
  rw [e, show (31 : Int) = ((31 : Nat) : Int) from rfl, bits_and_u64_nat _ _ (by omega) (by omega)]
  have : (18446744073709551616 - n) &&& 31 = (18446744073709551616 - n) % 32 := Nat.and_two_pow_sub_one_eq_mod _ 5
  rw [this]; omega
set_option maxHeartbeats 800000 in
theorem rot_any (x : W32) (n : Nat) (w : World) (h1 : 1 ≤ n) (h2 : n ≤ 31) :
    Calls Try.prog 83 #[.int .u32 (V x), .int .i64 (-(n : Int))] w fun e w' => e = .returned (.int .u32 (V (rr x n))) ∧ w = w' := by
  have ha := and31 n h1 h2
  obtain ⟨m, hm⟩ : ∃ m, m = 32 - n := ⟨_, rfl⟩
  rw [← hm] at ha
  have hs : IntKind.u64.wrap (32 - (m : Int)) = (n : Int) := by rw [IntKind.wrap_u64]; omega
  have hmin : min m 32 = m := by omega
  have hmin2 : min n 32 = n := by omega
  have HR := hid (rr_walk x n h1 h2)
  rw [← hm] at HR
  clear hm
  go_enter Try.func83, Try.ntmps83
  go_wp2
  go_ret
  exact ⟨congrArg (fun x => Ending.returned (.int .u32 x)) (by first | exact HR.out | (simpa using HR.out)), rfl⟩
set_option maxHeartbeats 800000 in
theorem right_any (x : W32) (n : Nat) (w : World) (h1 : 1 ≤ n) (h2 : n ≤ 31) :
    Calls Try.prog 72 #[.int .u32 (V x), .int .i64 (n : Int)] w fun e w' => e = .returned (.int .u32 (V (rr x n))) ∧ w = w' := by
  go_enter Try.func72, Try.ntmps72
  go_wp2_with fail
  with_reducible refine (rot_any x n _ h1 h2).mono ?_
  rintro e w1 ⟨rfl, rfl⟩
  go_wp2_with fail
  go_ret
  exact ⟨rfl, rfl⟩
set_option maxHeartbeats 800000 in
theorem turn_any (x : W32) (n : Nat) (w : World) (h1 : 1 ≤ n) (h2 : n ≤ 31) :
    Calls Try.prog 80 #[.int .u32 (V x), .int .i64 (n : Int)] w fun e w' => e = .returned (.int .u32 (V (rr x n))) ∧ ∃ k, w' = w.drewN k := by
  have HR := hid (rr_walk x n h1 h2)
  have hmin : min (32 - n) 32 = 32 - n := by omega
  have hmin2 : min n 32 = n := by omega
  have hs : (32 - (n : Int)).toNat = 32 - n := by omega
  go_enter Try.func80, Try.ntmps80
  go_wp2
  go_quiet (fail)
  go_wp2
  go_ret
  exact ⟨congrArg (fun x => Ending.returned (.int .u32 x)) (by rw [← HR.out]; exact or_comm32 _ _), _, rfl⟩
end Go.Proofs.Ytidbaagdajkojaa.W01
