/- The check sum of four bytes: bit by bit and four bits at a time; a byte that is another one turns it. -/
import Derived.Test.YtffgkiccobhbjaaLib
set_option linter.unusedVariables false
set_option linter.unusedSimpArgs false
namespace Go.Proofs.Ytffgkiccobhbjaa.Crc
open Go.RowKit Go.Proofs.Ytffgkiccobhbjaa.Lib
def poly : BitVec 32 := 0xEDB88320#32
def cstep (v : BitVec 32) : BitVec 32 := (v >>> 1) ^^^ (poly &&& -(v &&& 1#32))
def csteps : Nat → BitVec 32 → BitVec 32
  | 0, v => v
  | n + 1, v => csteps n (cstep v)
theorem csteps_add (m n : Nat) (v : BitVec 32) : csteps (m + n) v = csteps n (csteps m v) := by
  induction m generalizing v with
  | zero => simp [csteps]
  | succ m ih => rw [show m + 1 + n = (m + n) + 1 by omega]; exact ih _
theorem csteps_succ (n : Nat) (v : BitVec 32) : csteps (n + 1) v = cstep (csteps n v) := csteps_add n 1 v
def byte32 (b : UInt8) : BitVec 32 := BitVec.ofNat 32 b.toNat
def cbyte (v : BitVec 32) (b : UInt8) : BitVec 32 := csteps 8 (v ^^^ byte32 b)
def crc (l : List UInt8) : BitVec 32 := ~~~ (l.foldl cbyte 0xFFFFFFFF#32)

theorem bx_byte (v : BitVec 32) (b : UInt8) : bits .xor .u32 (V v) ((b.toNat : Int) % 4294967296) = V (v ^^^ byte32 b) := by
  have h : ((b.toNat : Int) % 4294967296) = V (byte32 b) := by unfold byte32; have := b.toNat_lt; rw [V_def, BitVec.toNat_ofNat, Nat.mod_eq_of_lt (by omega)]; omega
  rw [h, bx]
theorem ba15 (v : BitVec 32) : bits .and .u32 (V v) 15 = V (v &&& 15#32) := by rw [show (15 : Int) = V 15#32 from by rw [V_def]; rfl, ba]
theorem ba15_lt (v : BitVec 32) : V (v &&& 15#32) < 16 := by
  rw [V_def, BitVec.toNat_and]; have : v.toNat &&& (15#32).toNat ≤ 15 := Nat.and_le_right; omega
theorem ofNat_V (v : BitVec 32) : BitVec.ofNat 32 (V v).toNat = v := by rw [V_def]; simp
theorem bmax (v : BitVec 32) : bits .xor .u32 IntKind.u32.max (V v) = V (~~~ v) := by
  rw [show IntKind.u32.max = V (BitVec.allOnes 32) from by rw [V_def]; rfl, bx, BitVec.allOnes_xor]
theorem nib_walk (v : BitVec 32) : bits .xor .u32 (V v / 2) (bits .and .u32 3988292384 (-bits .and .u32 (V v) 1 % 4294967296)) = V (cstep v) := by
  rw [show (1 : Int) = V 1#32 from by rw [V_def]; rfl, show (3988292384 : Int) = V poly from by rw [V_def]; rfl, ba, bneg, bshr1, ba, bx]; rfl

theorem neg_bit (v : BitVec 32) : -(v &&& 1#32) = if v.getLsbD 0 then BitVec.allOnes 32 else 0#32 := by
  have h : v &&& 1#32 = if v.getLsbD 0 then 1#32 else 0#32 := by
    apply BitVec.eq_of_getLsbD_eq
    intro i hi
    rw [BitVec.getLsbD_and]
    cases i with
    | zero => cases v.getLsbD 0 <;> simp
    | succ i => cases v.getLsbD 0 <;> simp
  rw [h]; cases v.getLsbD 0 <;> decide
theorem cstep_if (v : BitVec 32) : cstep v = if v.getLsbD 0 then (v >>> 1) ^^^ poly else v >>> 1 := by
  unfold cstep; rw [neg_bit]; cases v.getLsbD 0
  · simp
  · rw [if_pos rfl, if_pos rfl, BitVec.and_allOnes]
theorem cstep_xor (a b : BitVec 32) : cstep (a ^^^ b) = cstep a ^^^ cstep b := by
  simp only [cstep_if, BitVec.getLsbD_xor, BitVec.ushiftRight_xor_distrib]
  cases a.getLsbD 0 <;> cases b.getLsbD 0 <;> simp <;> (apply BitVec.eq_of_getLsbD_eq; intro i hi; simp only [BitVec.getLsbD_xor]; cases (a >>> 1).getLsbD i <;> cases (b >>> 1).getLsbD i <;> cases poly.getLsbD i <;> rfl)
theorem csteps_xor (n : Nat) (a b : BitVec 32) : csteps n (a ^^^ b) = csteps n a ^^^ csteps n b := by
  induction n generalizing a b with
  | zero => rfl
  | succ n ih => simp only [csteps, cstep_xor, ih]
theorem csteps_low (n : Nat) (v : BitVec 32) (h : ∀ i, i < n → v.getLsbD i = false) : csteps n v = v >>> n := by
  induction n generalizing v with
  | zero => simp [csteps]
  | succ n ih =>
    have h0 : v.getLsbD 0 = false := h 0 (by omega)
    rw [csteps, cstep_if, h0, if_neg (by simp), ih _ (fun i hi => by rw [BitVec.getLsbD_ushiftRight]; exact h _ (by omega))]
    rw [← BitVec.shiftRight_add, Nat.add_comm]
/-- four steps at once -/
theorem csteps4 (v : BitVec 32) : csteps 4 v = (v >>> 4) ^^^ csteps 4 (v &&& 15#32) := by
  have h : v = (v &&& ~~~ 15#32) ^^^ (v &&& 15#32) := by
    apply BitVec.eq_of_getLsbD_eq
    intro i hi
    rw [BitVec.getLsbD_xor, BitVec.getLsbD_and, BitVec.getLsbD_and, BitVec.getLsbD_not]
    cases v.getLsbD i <;> cases (15#32).getLsbD i <;> simp [hi]
  have h4 : csteps 4 (v &&& ~~~ 15#32) = v >>> 4 := by
    rw [csteps_low]
    · apply BitVec.eq_of_getLsbD_eq
      intro i hi
      rw [BitVec.getLsbD_ushiftRight, BitVec.getLsbD_ushiftRight, BitVec.getLsbD_and, BitVec.getLsbD_not]
      by_cases h28 : i < 28
      · have h15 : ∀ j : Fin 28, (15#32).getLsbD (4 + j.val) = false := by decide
        rw [h15 ⟨i, h28⟩]; simp; omega
      · rw [BitVec.getLsbD_of_ge v (4 + i) (by omega)]; simp
    · intro i hi
      rw [BitVec.getLsbD_and, BitVec.getLsbD_not]
      have : (15#32).getLsbD i = true := by
        have : i = 0 ∨ i = 1 ∨ i = 2 ∨ i = 3 := by omega
        rcases this with rfl | rfl | rfl | rfl <;> rfl
      simp [this]
  conv => lhs; rw [h]
  rw [csteps_xor, h4]
theorem cbyte_walk (v : BitVec 32) (b : UInt8) : ((v ^^^ byte32 b) >>> 4 ^^^ csteps 4 ((v ^^^ byte32 b) &&& 15#32)) >>> 4 ^^^ csteps 4 (((v ^^^ byte32 b) >>> 4 ^^^ csteps 4 ((v ^^^ byte32 b) &&& 15#32)) &&& 15#32) = cbyte v b := by
  rw [← csteps4, ← csteps4]; exact (csteps_add 4 4 _).symm
theorem bx_bt (v : BitVec 32) (l : List UInt8) (j : Nat) : bits .xor .u32 (V v) (bt l j % 4294967296) = V (v ^^^ byte32 (bat l j)) := bx_byte v _
theorem fold_take {β : Type} (f : β → UInt8 → β) (z : β) (l : List UInt8) (k : Nat) (h : k < l.length) : (l.take (k + 1)).foldl f z = f ((l.take k).foldl f z) (bat l k) := by
  unfold bat
  rw [List.take_succ_eq_append_getElem h, List.foldl_append, List.getD_eq_getElem?_getD, List.getElem?_eq_getElem h]; rfl
theorem V_if (c : Prop) [Decidable c] (a b : BitVec 32) : (if c then V a else V b) = V (if c then a else b) := by split <;> rfl
def bit0 (v : BitVec 32) : Bool := v.getLsbD 0
theorem cstep_bit (v : BitVec 32) : cstep v = if bit0 v then (v >>> 1) ^^^ poly else v >>> 1 := cstep_if v
theorem V_two (v : BitVec 32) : (V v).tmod 2 = if bit0 v then 1 else 0 := by
  unfold bit0
  have h : v.getLsbD 0 = decide (v.toNat % 2 = 1) := by rw [← BitVec.testBit_toNat, Nat.testBit_zero]
  rw [V_def, Int.tmod_eq_emod_of_nonneg (by omega), h]
  by_cases e : v.toNat % 2 = 1
  · rw [if_pos (by simpa using e)]; omega
  · rw [if_neg (by simpa using e)]; omega
theorem V_half (v : BitVec 32) : (V v).tdiv 2 = V (v >>> 1) := by rw [Int.tdiv_eq_ediv_of_nonneg (V_nn v), bshr1]
theorem bx_poly (v : BitVec 32) : bits .xor .u32 (V v) 3988292384 = V (v ^^^ poly) := by
  rw [show (3988292384 : Int) = V poly from by rw [V_def]; rfl, bx]
theorem bx_ones (v : BitVec 32) : bits .xor .u32 (V v) 4294967295 = V (~~~ v) := by
  rw [show (4294967295 : Int) = V (BitVec.allOnes 32) from by rw [V_def]; rfl, bx, BitVec.xor_allOnes]
theorem fold_snoc {β : Type} (f : β → UInt8 → β) (z : β) (s : ByteArray) (k : Nat) (h : k < s.size) : (s.data.toList.take (k + 1)).foldl f z = f ((s.data.toList.take k).foldl f z) s[k] := by
  rw [List.take_succ_eq_append_getElem (by simpa using h), List.foldl_append]; rfl

theorem cstep_zero (x : BitVec 32) (h : cstep x = 0#32) : x = 0#32 := by
  rw [cstep_if] at h
  cases hb : x.getLsbD 0 with
  | true =>
    rw [hb, if_pos rfl] at h
    have h1 : ((x >>> 1) ^^^ poly).getLsbD 31 = (0#32).getLsbD 31 := by rw [h]
    rw [BitVec.getLsbD_xor, BitVec.getLsbD_ushiftRight, BitVec.getLsbD_of_ge x 32 (by omega)] at h1
    exact absurd h1 (by decide)
  | false =>
    rw [hb, if_neg (by simp)] at h
    apply BitVec.eq_of_getLsbD_eq
    intro i hi
    cases i with
    | zero => rw [hb]; simp
    | succ i =>
      have h1 : (x >>> 1).getLsbD i = (0#32).getLsbD i := by rw [h]
      rw [BitVec.getLsbD_ushiftRight] at h1
      rw [show i + 1 = 1 + i by omega, h1]; simp
theorem xor_zero {a b : BitVec 32} (h : a ^^^ b = 0#32) : a = b := by
  have h2 : a ^^^ b ^^^ b = b := by rw [h]; simp
  rwa [BitVec.xor_assoc, BitVec.xor_self, BitVec.xor_zero] at h2
theorem cstep_inj {a b : BitVec 32} (h : cstep a = cstep b) : a = b := by
  apply xor_zero
  apply cstep_zero
  rw [cstep_xor, h, BitVec.xor_self]
theorem csteps_inj (n : Nat) {a b : BitVec 32} (h : csteps n a = csteps n b) : a = b := by
  induction n generalizing a b with
  | zero => exact h
  | succ n ih => exact cstep_inj (ih h)
theorem byte32_inj {a b : UInt8} (h : byte32 a = byte32 b) : a = b := by
  unfold byte32 at h
  have h1 := congrArg BitVec.toNat h
  rw [BitVec.toNat_ofNat, BitVec.toNat_ofNat] at h1
  have := a.toNat_lt
  have := b.toNat_lt
  apply UInt8.toNat_inj.1
  omega
theorem xor_left {v a b : BitVec 32} (h : v ^^^ a = v ^^^ b) : a = b := by
  have : v ^^^ (v ^^^ a) = v ^^^ (v ^^^ b) := by rw [h]
  rwa [← BitVec.xor_assoc, ← BitVec.xor_assoc, BitVec.xor_self, BitVec.zero_xor, BitVec.zero_xor] at this
theorem xor_right {v a b : BitVec 32} (h : a ^^^ v = b ^^^ v) : a = b := xor_left (v := v) (by rw [BitVec.xor_comm v a, BitVec.xor_comm v b, h])
theorem cbyte_inj_v {v v' : BitVec 32} (b : UInt8) (h : cbyte v b = cbyte v' b) : v = v' := xor_right (csteps_inj 8 h)
theorem cbyte_inj_b {v : BitVec 32} {b b' : UInt8} (h : cbyte v b = cbyte v b') : b = b' := byte32_inj (xor_left (csteps_inj 8 h))
theorem fold_inj (l : List UInt8) {v v' : BitVec 32} (h : l.foldl cbyte v = l.foldl cbyte v') : v = v' := by
  induction l generalizing v v' with
  | nil => exact h
  | cons b l ih => exact cbyte_inj_v b (ih h)
/-- One byte that is another one turns the sum. -/
theorem crc_turned (a c : List UInt8) {b b' : UInt8} (h : crc (a ++ b :: c) = crc (a ++ b' :: c)) : b = b' := by
  unfold crc at h
  have h := BitVec.not_inj.1 h
  rw [List.foldl_append, List.foldl_append, List.foldl_cons, List.foldl_cons] at h
  exact cbyte_inj_b (fold_inj c h)
theorem crc_set (l : List UInt8) (i : Nat) (hi : i < l.length) (b : UInt8) (h : crc (l.set i b) = crc l) : b = l[i] := by
  have h1 : l = l.take i ++ l[i] :: l.drop (i + 1) := by simp
  have h2 : l.set i b = l.take i ++ b :: l.drop (i + 1) := by rw [List.set_eq_take_append_cons_drop, if_pos hi]
  rw [h2] at h
  conv at h => rhs; rw [h1]
  exact crc_turned _ _ h
end Go.Proofs.Ytffgkiccobhbjaa.Crc
