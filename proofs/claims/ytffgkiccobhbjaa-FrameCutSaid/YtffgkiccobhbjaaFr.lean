/- Layer 5, plain: frames and what a text begins with. -/
import Derived.Test.YtffgkiccobhbjaaCrc
set_option linter.unusedVariables false
set_option linter.unusedSimpArgs false
namespace Go.Proofs.Ytffgkiccobhbjaa.Fr
open Go.RowKit Go.Proofs.Ytffgkiccobhbjaa.Lib Go.Proofs.Ytffgkiccobhbjaa.Crc
def frFour (n : Int) : List UInt8 := [u8 (n / 16777216), u8 (n / 65536), u8 (n / 256), u8 n]
theorem four_len (n : Int) : (frFour n).length = 4 := rfl
def frN4 (s : List UInt8) : Int := bt s 0 * 16777216 + bt s 1 * 65536 + bt s 2 * 256 + bt s 3
theorem n4_nn (s : List UInt8) : 0 ≤ frN4 s := by
  unfold frN4; have := bt_nn s 0; have := bt_nn s 1; have := bt_nn s 2; have := bt_nn s 3; omega
theorem n4_lt (s : List UInt8) : frN4 s < 4294967296 := by
  unfold frN4; have := bt_lt s 0; have := bt_lt s 1; have := bt_lt s 2; have := bt_lt s 3; omega
theorem u8_div (n : Int) (h0 : 0 ≤ n) (m : Int) (hm : 0 < m) : ((u8 (n / m)).toNat : Int) = n / m % 256 := u8_toNat _ (Int.ediv_nonneg h0 (by omega))
theorem n4_four (n : Int) (h0 : 0 ≤ n) (h1 : n < 4294967296) (r : List UInt8) : frN4 (frFour n ++ r) = n := by
  have e0 : bt (frFour n ++ r) 0 = n / 16777216 % 256 := u8_div n h0 16777216 (by decide)
  have e1 : bt (frFour n ++ r) 1 = n / 65536 % 256 := u8_div n h0 65536 (by decide)
  have e2 : bt (frFour n ++ r) 2 = n / 256 % 256 := u8_div n h0 256 (by decide)
  have e3 : bt (frFour n ++ r) 3 = n % 256 := u8_toNat n h0
  unfold frN4; rw [e0, e1, e2, e3]; omega
theorem four_inj {a b : Int} (a0 : 0 ≤ a) (a1 : a < 4294967296) (b0 : 0 ≤ b) (b1 : b < 4294967296) (h : frFour a = frFour b) : a = b := by
  rw [← n4_four a a0 a1 [], h, n4_four b b0 b1]
theorem n4_eq (s : List UInt8) (r : List UInt8) (h : s.length = 4) : frFour (frN4 (s ++ r)) = s := by
  obtain ⟨a, b, c, d, rfl⟩ : ∃ a b c d, s = [a, b, c, d] := by
    match s, h with
    | [a, b, c, d], _ => exact ⟨a, b, c, d, rfl⟩
  have ha := a.toNat_lt; have hb := b.toNat_lt; have hc := c.toNat_lt; have hd := d.toNat_lt
  have hn : frN4 ([a, b, c, d] ++ r) = (a.toNat : Int) * 16777216 + b.toNat * 65536 + c.toNat * 256 + d.toNat := rfl
  have key : ∀ (x : UInt8) (n : Int), 0 ≤ n → n % 256 = x.toNat → u8 n = x := fun x n h0 h => by
    apply UInt8.toNat_inj.1; have := u8_toNat n h0; omega
  unfold frFour
  rw [hn, key a _ (by omega) (by omega), key b _ (by omega) (by omega), key c _ (by omega) (by omega), key d _ (by omega) (by omega)]
def frAhead (p : List UInt8) : List UInt8 := frFour p.length ++ frFour (V (crc (frFour p.length))) ++ frFour (V (crc p))
theorem ahead_len (p : List UInt8) : (frAhead p).length = 12 := by simp [frAhead, four_len]
def frWrap (p : List UInt8) : List UInt8 := frAhead p ++ p
theorem wrap_len (p : List UInt8) : (frWrap p).length = 12 + p.length := by simp [frWrap, ahead_len]
def frNext (s : List UInt8) : Option (List UInt8) :=
  if s.length < 12 then none else
  if 1048577 < frN4 s ∨ (s.length : Int) - 12 < frN4 s then none else
  if frAhead ((s.drop 12).take (frN4 s).toNat) = s.take 12 then some ((s.drop 12).take (frN4 s).toNat) else none
theorem next_len {s p : List UInt8} (h : frNext s = some p) : 12 + p.length ≤ s.length := by
  unfold frNext at h
  split at h
  · simp at h
  · split at h
    · simp at h
    · split at h
      · injection h with h; subst h; simp; omega
      · simp at h
def frScanN : Nat → List UInt8 → List (List UInt8) × Nat
  | 0, _ => ([], 0)
  | k + 1, s => match frNext s with
    | none => ([], 0)
    | some p => (p :: (frScanN k (s.drop (12 + p.length))).1, 12 + p.length + (frScanN k (s.drop (12 + p.length))).2)
theorem scanN_more (k : Nat) (s : List UInt8) (h : s.length < k) : frScanN (k + 1) s = frScanN k s := by
  induction k generalizing s with
  | zero => omega
  | succ k ih =>
    rw [frScanN, frScanN]
    cases hn : frNext s with
    | none => rfl
    | some p =>
      have := next_len hn
      simp only [ih (s.drop (12 + p.length)) (by simp; omega)]
theorem scanN_enough (k : Nat) (s : List UInt8) (h : s.length < k) : frScanN k s = frScanN (s.length + 1) s := by
  induction k with
  | zero => omega
  | succ k ih =>
    by_cases e : k = s.length
    · rw [e]
    · rw [scanN_more k s (by omega)]; exact ih (by omega)
def frScan (s : List UInt8) : List (List UInt8) × Nat := frScanN (s.length + 1) s
theorem scan_none {s : List UInt8} (h : frNext s = none) : frScan s = ([], 0) := by rw [frScan, frScanN, h]
theorem scan_some {s p : List UInt8} (h : frNext s = some p) : frScan s = (p :: (frScan (s.drop (12 + p.length))).1, 12 + p.length + (frScan (s.drop (12 + p.length))).2) := by
  have := next_len h
  have e : frScanN s.length (s.drop (12 + p.length)) = frScan (s.drop (12 + p.length)) := scanN_enough _ _ (by simp; omega)
  rw [frScan, frScanN, h]; simp only [e]
theorem next_wrap (p r : List UInt8) (h : p.length ≤ 1048577) : frNext (frWrap p ++ r) = some p := by
  have hl : (frWrap p ++ r).length = 12 + p.length + r.length := by simp [wrap_len]
  have hn : frN4 (frWrap p ++ r) = p.length := by unfold frWrap frAhead; rw [List.append_assoc, List.append_assoc, List.append_assoc]; exact n4_four _ (by omega) (by omega) _
  have hd : ((frWrap p ++ r).drop 12).take p.length = p := by
    unfold frWrap; rw [List.append_assoc, List.drop_append_of_le_length (by rw [ahead_len]; omega), List.drop_of_length_le (by rw [ahead_len]; omega)]; simp
  have ht : (frWrap p ++ r).take 12 = frAhead p := by
    unfold frWrap; rw [List.append_assoc, List.take_append_of_le_length (by rw [ahead_len]; omega), List.take_of_length_le (by rw [ahead_len]; omega)]
  unfold frNext
  rw [if_neg (by omega), if_neg (by rw [hn]; omega), hn, Int.toNat_natCast, hd, ht, if_pos rfl]
theorem next_short {s : List UInt8} (h : s.length < 12) : frNext s = none := by unfold frNext; rw [if_pos h]
/-- What is frNext says what stands there. -/
theorem next_eq {s p : List UInt8} (h : frNext s = some p) : p.length ≤ 1048577 ∧ s = frWrap p ++ s.drop (12 + p.length) := by
  have hl := next_len h
  unfold frNext at h
  split at h
  · simp at h
  · split at h
    · simp at h
    · rename_i h1 h2
      split at h
      · rename_i h3
        injection h with h
        have hpl : p.length = (frN4 s).toNat := by rw [← h]; simp; omega
        refine ⟨by omega, ?_⟩
        rw [h] at h3
        unfold frWrap
        rw [h3]
        have e1 : s = s.take 12 ++ s.drop 12 := (List.take_append_drop 12 s).symm
        have e2 : s.drop 12 = p ++ s.drop (12 + p.length) := by
          conv => lhs; rw [← List.take_append_drop (frN4 s).toNat (s.drop 12)]
          rw [h, List.drop_drop, hpl]
        conv => lhs; rw [e1, e2]
        rw [List.append_assoc]
      · simp at h
theorem next_more {s p : List UInt8} (r : List UInt8) (h : frNext s = some p) : frNext (s ++ r) = some p := by
  obtain ⟨h1, h2⟩ := next_eq h
  rw [h2, List.append_assoc]; exact next_wrap p _ h1
theorem wrap_drop (p r : List UInt8) : (frWrap p ++ r).drop (12 + p.length) = r := by
  rw [List.drop_append_of_le_length (by rw [wrap_len]; omega), List.drop_of_length_le (by rw [wrap_len]; omega)]; rfl
theorem scan_wrap (p r : List UInt8) (h : p.length ≤ 1048577) : frScan (frWrap p ++ r) = (p :: (frScan r).1, 12 + p.length + (frScan r).2) := by
  rw [scan_some (next_wrap p r h), wrap_drop]
theorem scan_le (s : List UInt8) : (frScan s).2 ≤ s.length := by
  generalize hk : s.length = k
  induction k using Nat.strongRecOn generalizing s with
  | _ k ih =>
    cases hn : frNext s with
    | none => rw [scan_none hn]; exact Nat.zero_le _
    | some p =>
      have := next_len hn
      rw [scan_some hn]
      have := ih (s.drop (12 + p.length)).length (by simp; omega) _ rfl
      simp at this ⊢; omega
theorem scan_count (s : List UInt8) : (frScan s).1.length ≤ s.length := by
  generalize hk : s.length = k
  induction k using Nat.strongRecOn generalizing s with
  | _ k ih =>
    cases hn : frNext s with
    | none => rw [scan_none hn]; exact Nat.zero_le _
    | some p =>
      have := next_len hn
      rw [scan_some hn]
      have := ih (s.drop (12 + p.length)).length (by simp; omega) _ rfl
      simp at this ⊢; omega
/-- What both tell. -/
theorem scan_join (a b : List UInt8) (h : (frScan a).2 = a.length) : frScan (a ++ b) = ((frScan a).1 ++ (frScan b).1, a.length + (frScan b).2) := by
  generalize hk : a.length = k
  induction k using Nat.strongRecOn generalizing a with
  | _ k ih =>
    cases hn : frNext a with
    | none =>
      rw [scan_none hn] at h ⊢
      obtain rfl : a = [] := List.eq_nil_of_length_eq_zero h.symm
      subst hk; simp
    | some p =>
      have hl := next_len hn
      rw [scan_some hn] at h ⊢
      have hd : (a ++ b).drop (12 + p.length) = a.drop (12 + p.length) ++ b := List.drop_append_of_le_length hl
      have h2 : (frScan (a.drop (12 + p.length))).2 = (a.drop (12 + p.length)).length := by simp at h ⊢; omega
      rw [scan_some (next_more b hn), hd, ih _ (by simp; omega) _ h2 rfl]
      simp; omega
/-- all frames of a list -/
def frWraps (l : List (List UInt8)) : List UInt8 := (l.map frWrap).flatten
def frUpto (l : List (List UInt8)) (k : Nat) : Nat := (frWraps (l.take k)).length
theorem wraps_cons (p : List UInt8) (l : List (List UInt8)) : frWraps (p :: l) = frWrap p ++ frWraps l := by simp [frWraps]
theorem wraps_snoc (l : List (List UInt8)) (p : List UInt8) : frWraps (l ++ [p]) = frWraps l ++ frWrap p := by simp [frWraps]
theorem upto_zero (l : List (List UInt8)) : frUpto l 0 = 0 := by simp [frUpto, frWraps]
theorem upto_succ (p : List UInt8) (l : List (List UInt8)) (k : Nat) : frUpto (p :: l) (k + 1) = 12 + p.length + frUpto l k := by
  simp [frUpto, wraps_cons, wrap_len]
def tot (l : List (List UInt8)) : Nat := (l.map List.length).sum
theorem tot_snoc (l : List (List UInt8)) (p : List UInt8) : tot (l ++ [p]) = tot l + p.length := by simp [tot]
theorem wraps_len (l : List (List UInt8)) : (frWraps l).length = 12 * l.length + tot l := by
  induction l with
  | nil => simp [frWraps, tot]
  | cons p l ih => rw [wraps_cons, List.length_append, ih, wrap_len]; simp [tot]; omega
theorem mem_tot (l : List (List UInt8)) (p : List UInt8) (h : p ∈ l) : p.length ≤ tot l := by
  induction l with
  | nil => simp at h
  | cons q l ih =>
    have e : tot (q :: l) = q.length + tot l := by simp [tot]
    rcases List.mem_cons.1 h with rfl | h
    · omega
    · have := ih h; omega
def ends (l : List (List UInt8)) (k : Nat) : List Nat := (List.range (k + 1)).map (frUpto l)
theorem ends_len (l : List (List UInt8)) (k : Nat) : (ends l k).length = k + 1 := by simp [ends]
theorem ends_zero (l : List (List UInt8)) : ends l 0 = [0] := by simp [ends, List.range_succ, upto_zero]
theorem ends_succ (l : List (List UInt8)) (k : Nat) : ends l (k + 1) = ends l k ++ [frUpto l (k + 1)] := by simp [ends, List.range_succ]
theorem ends_get (l : List (List UInt8)) (k j : Nat) (h : j ≤ k) : nat (ends l k) j = frUpto l j := by
  unfold nat ends
  rw [List.getD_eq_getElem?_getD, List.getElem?_map, List.getElem?_range (by omega)]; rfl
/-- A frame that is cut is none. -/
theorem next_cut (p r : List UInt8) (h : p.length ≤ 1048577) (c : Nat) (hc : c < 12 + p.length) : frNext ((frWrap p ++ r).take c) = none := by
  cases hn : frNext ((frWrap p ++ r).take c) with
  | none => rfl
  | some q =>
    have h1 := next_more ((frWrap p ++ r).drop c) hn
    rw [List.take_append_drop, next_wrap p r h] at h1
    injection h1 with h1
    have := next_len hn
    subst h1
    simp [wrap_len] at this
    omega
theorem scan_cut (l : List (List UInt8)) (hl : ∀ p ∈ l, p.length ≤ 1048577) (c k : Nat) (hk : k ≤ l.length) (h1 : frUpto l k ≤ c) (h2 : k < l.length → c < frUpto l (k + 1)) (hc : c ≤ (frWraps l).length) :
    frScan ((frWraps l).take c) = (l.take k, frUpto l k) := by
  induction k generalizing l c with
  | zero =>
    rw [upto_zero]
    cases l with
    | nil => simp [frWraps]; exact scan_none (next_short (by simp))
    | cons p l =>
      have h2 := h2 (by simp)
      rw [upto_succ, upto_zero] at h2
      rw [wraps_cons]
      exact scan_none (next_cut p _ (hl p (by simp)) c (by omega))
  | succ k ih =>
    cases l with
    | nil => simp at hk
    | cons p l =>
      rw [upto_succ] at h1 ⊢
      have h2' : k < l.length → 12 + p.length + frUpto l (k + 1) > c := fun h => by have := h2 (by simp; omega); rwa [upto_succ] at this
      rw [wraps_cons] at hc ⊢
      have e : (frWrap p ++ frWraps l).take c = frWrap p ++ (frWraps l).take (c - (12 + p.length)) := by
        rw [List.take_append, wrap_len, List.take_of_length_le (by rw [wrap_len]; omega)]
      rw [e, scan_wrap p _ (hl p (by simp)), ih l (fun q hq => hl q (by simp [hq])) (c - (12 + p.length)) (by simp at hk; omega) (by omega) (fun h => by have := h2' h; omega) (by simp [wrap_len] at hc; omega)]
      simp
theorem set_ne {l : List UInt8} {i : Nat} (hi : i < l.length) {b : UInt8} (h : l.set i b = l) : b = l[i] := by
  have : (l.set i b)[i]'(by simpa using hi) = l[i] := by congr 1
  simpa using this
theorem crc_V {a b : List UInt8} (h : frFour (V (crc a)) = frFour (V (crc b))) : crc a = crc b := V_inj (four_inj (V_nn _) (V_lt _) (V_nn _) (V_lt _) h)
theorem app4 {a b c d : List UInt8} (h : a ++ b = c ++ d) (hl : a.length = c.length) : a = c ∧ b = d := List.append_inj h hl
/-- A frame one byte of which is another one is none, whatever stands behind it. -/
theorem next_turned (p r : List UInt8) (h : p.length ≤ 1048577) (i : Nat) (hi : i < (frWrap p).length) (b : UInt8) (hb : b ≠ (frWrap p)[i]) : frNext ((frWrap p).set i b ++ r) = none := by
  cases hn : frNext ((frWrap p).set i b ++ r) with
  | none => rfl
  | some q =>
    exfalso
    obtain ⟨hq, he⟩ := next_eq hn
    generalize ((frWrap p).set i b ++ r).drop (12 + q.length) = r' at he
    have hA : ∀ n, (frFour n).length = 4 := four_len
    have hset : ∀ (l m : List UInt8) (j : Nat), (l ++ m).set j b = if j < l.length then l.set j b ++ m else l ++ m.set (j - l.length) b := fun l m j => List.set_append
    simp only [frWrap, frAhead, List.append_assoc] at he hb hi
    rw [hset, hA] at he
    by_cases h4 : i < 4
    · rw [if_pos h4] at he
      simp only [List.append_assoc] at he
      obtain ⟨e1, he⟩ := app4 he (by simp [hA])
      obtain ⟨e2, he⟩ := app4 he (by simp [hA])
      have := crc_V e2
      rw [← e1] at this
      refine hb ?_
      rw [List.getElem_append_left (by rw [hA]; omega)]
      exact crc_set _ i (by rw [hA]; omega) b this.symm
    · rw [if_neg h4] at he
      obtain ⟨e1, he⟩ := app4 (by simpa only [List.append_assoc] using he) (by simp [hA])
      have hlen : (p.length : Int) = q.length := four_inj (by omega) (by omega) (by omega) (by omega) e1
      rw [hset, hA] at he
      rw [List.getElem_append_right (by rw [hA]; omega)] at hb
      by_cases h8 : i - 4 < 4
      · rw [if_pos h8] at he
        obtain ⟨e2, he⟩ := app4 (by simpa only [List.append_assoc] using he) (by simp [hA])
        rw [← hlen] at e2
        refine hb ?_
        rw [List.getElem_append_left (by rw [hA]; simp [hA]; omega)]
        have := set_ne (i := i - 4) (by rw [hA]; omega) e2
        simpa [hA] using this
      · rw [if_neg h8] at he
        obtain ⟨e2, he⟩ := app4 (by simpa only [List.append_assoc] using he) (by simp [hA])
        rw [hset, hA] at he
        rw [List.getElem_append_right (by simp [hA]; omega)] at hb
        by_cases h12 : i - 4 - 4 < 4
        · rw [if_pos h12] at he
          obtain ⟨e3, he⟩ := app4 (by simpa only [List.append_assoc] using he) (by simp [hA])
          obtain ⟨e4, _⟩ := app4 he (by omega)
          rw [← e4] at e3
          refine hb ?_
          rw [List.getElem_append_left (by simp [hA]; omega)]
          have := set_ne (i := i - 4 - 4) (by rw [hA]; omega) e3
          simpa [hA] using this
        · rw [if_neg h12] at he
          obtain ⟨e3, he⟩ := app4 (by simpa only [List.append_assoc] using he) (by simp [hA])
          obtain ⟨e4, _⟩ := app4 (by simpa only [List.append_assoc] using he) (by simp; omega)
          have := crc_V e3
          rw [← e4] at this
          refine hb ?_
          rw [List.getElem_append_right (by simp [hA]; omega)]
          have := crc_set p (i - 4 - 4 - 4) (by simp [hA] at hi; omega) b this.symm
          simpa [hA] using this
end Go.Proofs.Ytffgkiccobhbjaa.Fr
