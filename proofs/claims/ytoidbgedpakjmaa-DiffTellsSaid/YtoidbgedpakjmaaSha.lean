/- Layer 1, plain: the fingerprint. -/
import Derived.Test.YtoidbgedpakjmaaLib
set_option linter.unusedVariables false
set_option linter.unusedSimpArgs false
namespace Go.Proofs.Ytoidbgedpakjmaa.Sha
open Go.RowKit Go.Proofs.Ytoidbgedpakjmaa.Lib
abbrev W32 := BitVec 32
def rr (x : W32) (n : Nat) : W32 := x >>> n ||| x <<< (32 - n)
def kList : List W32 := [0x428a2f98#32, 0x71374491#32, 0xb5c0fbcf#32, 0xe9b5dba5#32, 0x3956c25b#32, 0x59f111f1#32, 0x923f82a4#32, 0xab1c5ed5#32,
  0xd807aa98#32, 0x12835b01#32, 0x243185be#32, 0x550c7dc3#32, 0x72be5d74#32, 0x80deb1fe#32, 0x9bdc06a7#32, 0xc19bf174#32,
  0xe49b69c1#32, 0xefbe4786#32, 0x0fc19dc6#32, 0x240ca1cc#32, 0x2de92c6f#32, 0x4a7484aa#32, 0x5cb0a9dc#32, 0x76f988da#32,
  0x983e5152#32, 0xa831c66d#32, 0xb00327c8#32, 0xbf597fc7#32, 0xc6e00bf3#32, 0xd5a79147#32, 0x06ca6351#32, 0x14292967#32,
  0x27b70a85#32, 0x2e1b2138#32, 0x4d2c6dfc#32, 0x53380d13#32, 0x650a7354#32, 0x766a0abb#32, 0x81c2c92e#32, 0x92722c85#32,
  0xa2bfe8a1#32, 0xa81a664b#32, 0xc24b8b70#32, 0xc76c51a3#32, 0xd192e819#32, 0xd6990624#32, 0xf40e3585#32, 0x106aa070#32,
  0x19a4c116#32, 0x1e376c08#32, 0x2748774c#32, 0x34b0bcb5#32, 0x391c0cb3#32, 0x4ed8aa4a#32, 0x5b9cca4f#32, 0x682e6ff3#32,
  0x748f82ee#32, 0x78a5636f#32, 0x84c87814#32, 0x8cc70208#32, 0x90befffa#32, 0xa4506ceb#32, 0xbef9a3f7#32, 0xc67178f2#32]
def kAt (t : Nat) : W32 := kList.getD t 0#32
structure St where
  (a b c d e f g h : W32)
def st0 : St := ⟨0x6a09e667#32, 0xbb67ae85#32, 0x3c6ef372#32, 0xa54ff53a#32, 0x510e527f#32, 0x9b05688c#32, 0x1f83d9ab#32, 0x5be0cd19#32⟩
/-- four bytes from i on -/
def word (l : List UInt8) (i : Nat) : W32 := BitVec.ofNat 32 ((bat l i).toNat * 16777216 + (bat l (i + 1)).toNat * 65536 + (bat l (i + 2)).toNat * 256 + (bat l (i + 3)).toNat)
def sg0 (x : W32) : W32 := rr x 7 ^^^ rr x 18 ^^^ x >>> 3
def sg1 (x : W32) : W32 := rr x 17 ^^^ rr x 19 ^^^ x >>> 10
def schF (l : List UInt8) : Nat → Nat → W32
  | 0, _ => 0#32
  | f + 1, t => if t < 16 then word l (4 * t) else schF l f (t - 16) + sg0 (schF l f (t - 15)) + schF l f (t - 7) + sg1 (schF l f (t - 2))
theorem schF_s (l : List UInt8) (f t : Nat) : schF l (f + 1) t = if t < 16 then word l (4 * t) else schF l f (t - 16) + sg0 (schF l f (t - 15)) + schF l f (t - 7) + sg1 (schF l f (t - 2)) := rfl
theorem schF_more (l : List UInt8) : ∀ (f t : Nat), t < f → schF l (f + 1) t = schF l f t
  | 0, t, h => by omega
  | f + 1, t, h => by
    rw [schF_s l (f + 1) t, schF_s l f t]
    by_cases h16 : t < 16
    · rw [if_pos h16, if_pos h16]
    · rw [if_neg h16, if_neg h16, schF_more l f (t - 16) (by omega), schF_more l f (t - 15) (by omega), schF_more l f (t - 7) (by omega), schF_more l f (t - 2) (by omega)]
theorem schF_enough (l : List UInt8) (f t : Nat) (h : t < f) : schF l f t = schF l (t + 1) t := by
  induction f with
  | zero => omega
  | succ f ih =>
    by_cases e : f = t
    · rw [e]
    · rw [schF_more l f t (by omega)]; exact ih (by omega)
def sch (l : List UInt8) (t : Nat) : W32 := schF l (t + 1) t
theorem sch_lo (l : List UInt8) (t : Nat) (h : t < 16) : sch l t = word l (4 * t) := by rw [sch, schF, if_pos h]
theorem sch_hi (l : List UInt8) (t : Nat) (h : 16 ≤ t) : sch l t = sch l (t - 16) + sg0 (sch l (t - 15)) + sch l (t - 7) + sg1 (sch l (t - 2)) := by
  rw [sch, schF, if_neg (by omega), schF_enough l t (t - 16) (by omega), schF_enough l t (t - 15) (by omega), schF_enough l t (t - 7) (by omega), schF_enough l t (t - 2) (by omega)]; rfl
def one (s : St) (k w : W32) : W32 := s.h + (rr s.e 6 ^^^ rr s.e 11 ^^^ rr s.e 25) + ((s.e &&& s.f) ^^^ (~~~ s.e &&& s.g)) + k + w
def two (s : St) : W32 := (rr s.a 2 ^^^ rr s.a 13 ^^^ rr s.a 22) + ((s.a &&& s.b) ^^^ (s.a &&& s.c) ^^^ (s.b &&& s.c))
def stStep (s : St) (k w : W32) : St := ⟨one s k w + two s, s.a, s.b, s.c, s.d + one s k w, s.e, s.f, s.g⟩
def rnd (l : List UInt8) (s : St) : Nat → St
  | 0 => s
  | t + 1 => stStep (rnd l s t) (kAt t) (sch l t)
def stAdd (s v : St) : St := ⟨s.a + v.a, s.b + v.b, s.c + v.c, s.d + v.d, s.e + v.e, s.f + v.f, s.g + v.g, s.h + v.h⟩
def shaBlock (s : St) (l : List UInt8) : St := stAdd s (rnd l s 64)
def shaFoldN : Nat → St → List UInt8 → St
  | 0, s, _ => s
  | k + 1, s, l => if l.length < 64 then s else shaFoldN k (shaBlock s (l.take 64)) (l.drop 64)
def shaFold (s : St) (l : List UInt8) : St := shaFoldN (l.length + 1) s l
theorem shaFoldN_enough : ∀ (k m : Nat) (s : St) (l : List UInt8), l.length < k → l.length < m → shaFoldN k s l = shaFoldN m s l
  | 0, _, _, _, h, _ => by omega
  | _ + 1, 0, _, _, _, h => by omega
  | k + 1, m + 1, s, l, h1, h2 => by
    rw [shaFoldN, shaFoldN]
    by_cases h : l.length < 64
    · rw [if_pos h, if_pos h]
    · rw [if_neg h, if_neg h]; exact shaFoldN_enough k m _ _ (by simp; omega) (by simp; omega)
theorem shaFold_short (s : St) (l : List UInt8) (h : l.length < 64) : shaFold s l = s := by rw [shaFold, shaFoldN, if_pos h]
theorem shaFold_next (s : St) (l : List UInt8) (h : 64 ≤ l.length) : shaFold s l = shaFold (shaBlock s (l.take 64)) (l.drop 64) := by
  rw [shaFold, shaFoldN, if_neg (by omega)]; exact shaFoldN_enough _ _ _ _ (by simp; omega) (by simp)
theorem shaFold_app (s : St) (l m : List UInt8) (h : l.length % 64 = 0) : shaFold s (l ++ m) = shaFold (shaFold s l) m := by
  generalize hk : l.length = k
  induction k using Nat.strongRecOn generalizing s l with
  | _ k ih =>
    by_cases h64 : l.length < 64
    · obtain rfl : l = [] := List.eq_nil_of_length_eq_zero (by omega)
      rw [shaFold_short s [] (by simp)]; rfl
    · rw [shaFold_next s (l ++ m) (by simp; omega), shaFold_next s l (by omega), List.take_append_of_le_length (by omega), List.drop_append_of_le_length (by omega)]
      exact ih _ (by simp; omega) _ (l.drop 64) (by simp; omega) rfl
theorem shaFold_snoc (s : St) (l m : List UInt8) (h : l.length % 64 = 0) (hm : m.length = 64) : shaFold s (l ++ m) = shaBlock (shaFold s l) m := by
  rw [shaFold_app s l m h, shaFold_next _ m (by omega), List.take_of_length_le (by omega), List.drop_of_length_le (by omega), shaFold_short _ [] (by simp)]
def be (n : Nat) (k : Nat) : List UInt8 := (List.range k).map fun i => u8 (((n / 2 ^ (8 * (k - 1 - i)) : Nat) : Int))
theorem be_succ (n j : Nat) (h : j < 8) : (be n 8).take (8 - j) = (be n 8).take (7 - j) ++ [u8 (((n / 2 ^ (8 * j) : Nat) : Int))] := by
  have hl : (be n 8).length = 8 := by simp [be]
  rw [show 8 - j = 7 - j + 1 by omega, List.take_succ_eq_append_getElem (by omega)]
  congr 2
  simp only [be, List.getElem_map, List.getElem_range]
  rw [show 8 - 1 - (7 - j) = j by omega]
theorem be_len (n : Nat) : (be n 8).length = 8 := by simp [be]
def padTail (l : List UInt8) (n : Nat) : List UInt8 := l ++ ([128] ++ List.replicate ((119 - l.length) % 64) 0) ++ be (8 * n) 8
def w32b (x : W32) : List UInt8 := [u8 (V x / 16777216), u8 (V x / 65536), u8 (V x / 256), u8 (V x)]
def stBytes (s : St) : List UInt8 := w32b s.a ++ w32b s.b ++ w32b s.c ++ w32b s.d ++ w32b s.e ++ w32b s.f ++ w32b s.g ++ w32b s.h
/-- whole blocks, then what is left -/
def shaRest (l : List UInt8) : List UInt8 := l.drop (l.length / 64 * 64)
def sha (l : List UInt8) : List UInt8 := stBytes (shaFold (shaFold st0 l) (padTail (shaRest l) l.length))
theorem sha_len (l : List UInt8) : (sha l).length = 32 := rfl
theorem V_list (a : W32) : V a = V a := rfl
end Go.Proofs.Ytoidbgedpakjmaa.Sha
