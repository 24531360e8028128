/- Layer 8 in plain words: what bytes are read as a node. -/
import Derived.Test.YteeonfnaikndfaaWSeq
import Derived.Test.YteeonfnaikndfaaT08
set_option linter.unusedVariables false
set_option linter.unusedSimpArgs false
namespace Go.Proofs.Yteeonfnaikndfaa.T08
open Go.Proofs.Yteeonfnaikndfaa.Lib Go.Proofs.Yteeonfnaikndfaa.Sha Go.Proofs.Yteeonfnaikndfaa.T07 Go.Proofs.Yteeonfnaikndfaa.WSeq
def n2 (s : List UInt8) : Nat := (bat s 0).toNat * 256 + (bat s 1).toNat
def fieldS (s : List UInt8) : Option (List UInt8 × List UInt8) :=
  if s.length < 2 then none else if s.length - 2 < n2 s then none else some ((s.drop 2).take (n2 s), (s.drop 2).drop (n2 s))
theorem field_rest {s a b : List UInt8} (h : fieldS s = some (a, b)) : b.length + 2 ≤ s.length ∧ a.length ≤ s.length := by
  unfold fieldS at h
  split at h
  · cases h
  · split at h
    · cases h
    · injection h with h; injection h with h1 h2
      subst h1; subst h2
      simp only [List.length_drop, List.length_take]; omega
def okVal (level : Nat) (v : List UInt8) : Bool := decide (level = 0) || (decide (v.length = 40) && decide (1 ≤ told v) && decide (told v ≤ 1099511627776))
def parseGo (level : Nat) : Nat → List UInt8 → Option (List Itm × List UInt8)
  | 0, r => some ([], r)
  | n + 1, r => match fieldS r with
    | none => none
    | some (k, r1) => match fieldS r1 with
      | none => none
      | some (v, r2) => if okVal level v = true then (match parseGo level n r2 with | none => none | some (l, r3) => some ((k, v) :: l, r3)) else none
end Go.Proofs.Yteeonfnaikndfaa.T08
