/- Layer 8 in plain words: items, nodes, levels, the tree of a list of pairs. -/
import Derived.Test.YtidbaagdajkojaaT07
set_option linter.unusedVariables false
set_option linter.unusedSimpArgs false
namespace Go.Proofs.Ytidbaagdajkojaa.T08
open Go.Proofs.Ytidbaagdajkojaa.Lib Go.Proofs.Ytidbaagdajkojaa.Sha Go.Proofs.Ytidbaagdajkojaa.T07
abbrev Itm := List UInt8 × List UInt8
def two (n : Nat) : List UInt8 := [u8 ((n / 256 : Nat) : Int), u8 (n : Int)]
def form (x : Itm) : List UInt8 := two x.1.length ++ x.1 ++ two x.2.length ++ x.2
theorem two_len (n : Nat) : (two n).length = 2 := rfl
theorem form_len (x : Itm) : (form x).length = x.1.length + x.2.length + 4 := by simp [form, two_len]; omega
def nodeHead (level n : Nat) : List UInt8 := [80, u8 (level : Int), u8 (n : Int)]
def nodeB (level : Nat) (l : List Itm) : List UInt8 := nodeHead level l.length ++ (l.map form).flatten
def toldGo (v : List UInt8) : Nat → Nat
  | 0 => 0
  | k + 1 => toldGo v k * 256 + (bat v (32 + k)).toNat
def told (v : List UInt8) : Nat := toldGo v 8
theorem toldGo_lt (v : List UInt8) : ∀ k, toldGo v k < 256 ^ k
  | 0 => by simp [toldGo]
  | k + 1 => by
    have := toldGo_lt v k
    have h2 := (bat v (32 + k)).toNat_lt
    rw [toldGo, Nat.pow_succ]; omega
theorem told_lt (v : List UInt8) : told v < 18446744073709551616 := toldGo_lt v 8
def countS (level : Nat) (l : List Itm) : Nat := if level = 0 then l.length else (l.map fun x => told x.2).sum % 18446744073709551616
def lastKey (l : List Itm) : List UInt8 := (l.getD (l.length - 1) ([], [])).1
def upS (level : Nat) (l : List Itm) : Itm := (lastKey l, sha (nodeB level l) ++ be (countS level l) 8)
def levelGo (level : Nat) : List Nat → List Itm → List Itm × List (List UInt8)
  | [], _ => ([], [])
  | n :: ns, l => (upS level (l.take n) :: (levelGo level ns (l.drop n)).1, nodeB level (l.take n) :: (levelGo level ns (l.drop n)).2)
def levelS (level : Nat) (l : List Itm) : List Itm × List (List UInt8) := levelGo level (cutS (l.map form)) l
theorem levelGo_len (level : Nat) : ∀ (ns : List Nat) (l : List Itm), (levelGo level ns l).1.length = ns.length ∧ (levelGo level ns l).2.length = ns.length
  | [], _ => ⟨rfl, rfl⟩
  | n :: ns, l => by
    have := levelGo_len level ns (l.drop n)
    simp only [levelGo, List.length_cons]; omega
theorem level_len (level : Nat) (l : List Itm) : (levelS level l).1.length = (cutS (l.map form)).length := (levelGo_len level _ _).1
theorem level_len2 (level : Nat) (l : List Itm) : (levelS level l).2.length = (cutS (l.map form)).length := (levelGo_len level _ _).2
theorem cut_pos (l : List (List UInt8)) (h : 0 < l.length) : 0 < (cutS l).length := by rw [cut_cons l h]; simp
theorem cut_lt (l : List (List UInt8)) (h : 2 ≤ l.length) : (cutS l).length < l.length := by
  rw [cut_cons l (by omega)]
  have h1 := part_two l h
  have h2 := (part_le l).1
  have := cut_len (l.drop (partS l))
  simp only [List.length_drop] at this
  simp only [List.length_cons]
  omega
theorem level_nil (level : Nat) : levelS level [] = ([], []) := rfl
theorem level_cons (level : Nat) (r : List Itm) (h : 0 < r.length) : levelS level r = (upS level (r.take (partS (r.map form))) :: (levelS level (r.drop (partS (r.map form)))).1, nodeB level (r.take (partS (r.map form))) :: (levelS level (r.drop (partS (r.map form)))).2) := by
  unfold levelS
  rw [cut_cons (r.map form) (by simpa using h), levelGo, List.map_drop]
/-- levels, one above the other, till one item is left -/
def riseGo : Nat → Nat → List Itm → List UInt8 × List (List UInt8)
  | 0, _, _ => ([], [])
  | f + 1, level, l => if l.length = 1 then ((l.getD 0 ([], [])).2.take 32, []) else
      ((riseGo f (level + 1) (levelS level l).1).1, (levelS level l).2 ++ (riseGo f (level + 1) (levelS level l).1).2)
def riseS (level : Nat) (l : List Itm) : List UInt8 × List (List UInt8) := riseGo l.length level l
theorem riseGo_enough : ∀ (f : Nat) (level : Nat) (l : List Itm), 0 < l.length → l.length ≤ f → riseGo f level l = riseGo l.length level l
  | 0, level, l, h, h1 => by omega
  | f + 1, level, l, h, h1 => by
    obtain ⟨n, hn⟩ : ∃ n, l.length = n + 1 := ⟨l.length - 1, by omega⟩
    by_cases h2 : l.length = 1
    · rw [hn, riseGo, if_pos h2, riseGo, if_pos h2]
    · have h3 := cut_lt (l.map form) (by simp; omega)
      have h4 := cut_pos (l.map form) (by simp; omega)
      have h5 := level_len level l
      rw [List.length_map] at h3
      rw [hn, riseGo, if_neg h2, riseGo, if_neg h2, riseGo_enough f _ _ (by omega) (by omega), riseGo_enough n _ _ (by omega) (by omega)]
theorem rise_one (level : Nat) (l : List Itm) (h : l.length = 1) : riseS level l = ((l.getD 0 ([], [])).2.take 32, []) := by
  rw [riseS, h, riseGo, if_pos h]
theorem rise_more (level : Nat) (l : List Itm) (h : 2 ≤ l.length) : riseS level l = ((riseS (level + 1) (levelS level l).1).1, (levelS level l).2 ++ (riseS (level + 1) (levelS level l).1).2) := by
  obtain ⟨n, hn⟩ : ∃ n, l.length = n + 1 := ⟨l.length - 1, by omega⟩
  have h3 := cut_lt (l.map form) (by simp; omega)
  have h4 := cut_pos (l.map form) (by simp; omega)
  have h5 := level_len level l
  rw [List.length_map] at h3
  rw [riseS, hn, riseGo, if_neg (by omega), riseGo_enough n _ _ (by omega) (by omega)]
  rfl
end Go.Proofs.Ytidbaagdajkojaa.T08
