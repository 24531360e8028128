/-
  No cell of these rows narrows 'for every input' (looked for: loops, veiled, ifaces, maps, wideKeys, modest, calm, conditions, laid).
  DERIVED. THE GIVEN ROWS OF THIS SEAT. 3 by the template 'for every input the law returns true; each argument reads behind the call as it read before'; 0 by the template 'total and deterministic' (their statements: YtoidbgedpakjmaaTotals.lean).
  GIVEN WITH THE SEED: the statements are not yours to turn. If you find one false, say at which input.
  Laid BY PROGRAM, IN A SANDBOX (cutbox-rows.mjs): the forced cells as the released guide's own fill.sh prints them over the translation 4cbdb39b11582c47… (all of the seat's roots in one cut). By AI agents, Wed Nov 11 2026. No macro, syntax, notation, axiom, sorry.
-/
import Derived.Test.YtoidbgedpakjmaaChecked
import GoSem.Claim
import GoSem.ClaimJoined
import GoSem.ClaimMapViews
import Derived.JoinedTies
import Derived.KernelRfl
namespace Go.Proofs.Ytoidbgedpakjmaa
/- THE CELL 'sum', in the pinned program and in every row, IS THE sha256 OF THE DUMP (.gsa) THAT YtoidbgedpakjmaaProg.lean LOADS. Nothing in Lean hashes anything: it is a label: what it is worth is what the hold of that sum in a sandbox is worth. -/
noncomputable def Try.pinned : Pinned := { name := "ytoidbgedpakjmaa", sum := "4cbdb39b11582c47078b7b7f07a9d79a052443cdfd7c554369b7f029ed25a862", checked := Try.checked }
namespace Rows
def none {H : Type} : Left H := { results := [], args := [] }

/-- 'pleachlaw10.DiffTurned': WHATEVER THE INPUT: true; the input reads as it did. -/
def diffTurnedSpec : ChangeSpec := { name := "diffTurned", fn := fun _ => fun
  | [d1, d2] => { results := [.lit (.bool true)], args := [d1, d2] }
  | _ => none }
def diffTurnedRow : OpenClaim := { program := "ytoidbgedpakjmaa", sum := "4cbdb39b11582c47078b7b7f07a9d79a052443cdfd7c554369b7f029ed25a862", func := "pleach/pleachlaw10.DiffTurned", spec := "diffTurned", inPlace := ["internal/abi.NoEscape", "internal/bytealg.MakeNoZero"], unfollowed := true, recurses := true, apart := false }
def DiffTurnedSaid : Prop := diffTurnedRow.holds Try.pinned (OpenSpec.ofChange diffTurnedSpec)

/-- ITS FALSE NEIGHBOUR: 'it returns false'. Refute it at one input. -/
def diffTurnedWrong : ChangeSpec := { name := "diffTurned", fn := fun _ => fun
  | [d1, d2] => { results := [.lit (.bool false)], args := [d1, d2] }
  | _ => none }
def DiffTurnedWrongFalsely : Prop := diffTurnedRow.holds Try.pinned (OpenSpec.ofChange diffTurnedWrong)

/-- 'pleachlaw10.DiffLost': WHATEVER THE INPUT: true; the input reads as it did. -/
def diffLostSpec : ChangeSpec := { name := "diffLost", fn := fun _ => fun
  | [d1, d2, d3] => { results := [.lit (.bool true)], args := [d1, d2, d3] }
  | _ => none }
def diffLostRow : OpenClaim := { program := "ytoidbgedpakjmaa", sum := "4cbdb39b11582c47078b7b7f07a9d79a052443cdfd7c554369b7f029ed25a862", func := "pleach/pleachlaw10.DiffLost", spec := "diffLost", inPlace := ["internal/abi.NoEscape", "internal/bytealg.MakeNoZero"], unfollowed := true, recurses := true, apart := false }
def DiffLostSaid : Prop := diffLostRow.holds Try.pinned (OpenSpec.ofChange diffLostSpec)

/-- ITS FALSE NEIGHBOUR: 'it returns false'. Refute it at one input. -/
def diffLostWrong : ChangeSpec := { name := "diffLost", fn := fun _ => fun
  | [d1, d2, d3] => { results := [.lit (.bool false)], args := [d1, d2, d3] }
  | _ => none }
def DiffLostWrongFalsely : Prop := diffLostRow.holds Try.pinned (OpenSpec.ofChange diffLostWrong)

/-- 'pleachlaw10.DiffTells': WHATEVER THE INPUT: true; the input reads as it did. -/
def diffTellsSpec : ChangeSpec := { name := "diffTells", fn := fun _ => fun
  | [d1, d2] => { results := [.lit (.bool true)], args := [d1, d2] }
  | _ => none }
def diffTellsRow : OpenClaim := { program := "ytoidbgedpakjmaa", sum := "4cbdb39b11582c47078b7b7f07a9d79a052443cdfd7c554369b7f029ed25a862", func := "pleach/pleachlaw10.DiffTells", spec := "diffTells", inPlace := ["internal/abi.NoEscape", "internal/bytealg.MakeNoZero"], unfollowed := true, recurses := true, apart := false }
def DiffTellsSaid : Prop := diffTellsRow.holds Try.pinned (OpenSpec.ofChange diffTellsSpec)

/-- ITS FALSE NEIGHBOUR: 'it returns false'. Refute it at one input. -/
def diffTellsWrong : ChangeSpec := { name := "diffTells", fn := fun _ => fun
  | [d1, d2] => { results := [.lit (.bool false)], args := [d1, d2] }
  | _ => none }
def DiffTellsWrongFalsely : Prop := diffTellsRow.holds Try.pinned (OpenSpec.ofChange diffTellsWrong)

/- THE SECOND FORM. 'bulk': how many values and letters a reading holds, each counted each time it is reached (what is shared counts as often as it is met; a slice's spare places count too). A statement '..UptoSaid' is the law's where the arguments, and the package variables that the reading takes, are together of bulk at most 1048576: NARROWER than '..Said'. Prove '..Said' where nothing that the law and all that it calls make is longer than what came in: it says more and counts as full. Else prove '..UptoSaid'. A law counts once. -/
mutual
def uptoBulk {H : Type} : DataW H → Nat
  | .lit (.string bytes) => bytes.length + 1
  | .lit _ => 1
  | .nil => 1
  | .ptr d => uptoBulk d + 1
  | .slice elems spare => uptoBulkAll elems + uptoBulkAll spare + 1
  | .agg parts => uptoBulkAll parts + 1
  | .iface _ d => uptoBulk d + 1
  | .map entries => uptoBulkEntries entries + 1
  | .held _ => 1
def uptoBulkAll {H : Type} : List (DataW H) → Nat
  | [] => 0
  | d :: r => uptoBulk d + uptoBulkAll r
def uptoBulkEntries {H : Type} : List (Lit × DataW H) → Nat
  | [] => 0
  | x :: r => uptoBulkEntry x + uptoBulkEntries r
def uptoBulkEntry {H : Type} : Lit × DataW H → Nat
  | (.string bytes, d) => bytes.length + uptoBulk d + 1
  | (_, d) => uptoBulk d + 1
 end
def uptoSmall : (H : Type) → List (DataW H) → Bool := fun _ ds => decide (uptoBulkAll ds ≤ 1048576)
def OpenSpec.upto (s : _root_.Go.ChangeSpec) : _root_.Go.OpenSpec := { _root_.Go.OpenSpec.ofChange s with cond := some uptoSmall }

/-- 'pleachlaw10.DiffTurned', WHERE WHAT IT READS IS OF BULK AT MOST 1048576: true; the input reads as it did. -/
def diffTurnedUptoRow : OpenClaim := { program := "ytoidbgedpakjmaa", sum := "4cbdb39b11582c47078b7b7f07a9d79a052443cdfd7c554369b7f029ed25a862", func := "pleach/pleachlaw10.DiffTurned", spec := "diffTurned", inPlace := ["internal/abi.NoEscape", "internal/bytealg.MakeNoZero"], unfollowed := true, recurses := true, apart := false, narrowed := true }
def DiffTurnedUptoSaid : Prop := diffTurnedUptoRow.holds Try.pinned (OpenSpec.upto diffTurnedSpec)

/-- 'pleachlaw10.DiffLost', WHERE WHAT IT READS IS OF BULK AT MOST 1048576: true; the input reads as it did. -/
def diffLostUptoRow : OpenClaim := { program := "ytoidbgedpakjmaa", sum := "4cbdb39b11582c47078b7b7f07a9d79a052443cdfd7c554369b7f029ed25a862", func := "pleach/pleachlaw10.DiffLost", spec := "diffLost", inPlace := ["internal/abi.NoEscape", "internal/bytealg.MakeNoZero"], unfollowed := true, recurses := true, apart := false, narrowed := true }
def DiffLostUptoSaid : Prop := diffLostUptoRow.holds Try.pinned (OpenSpec.upto diffLostSpec)

/-- 'pleachlaw10.DiffTells', WHERE WHAT IT READS IS OF BULK AT MOST 1048576: true; the input reads as it did. -/
def diffTellsUptoRow : OpenClaim := { program := "ytoidbgedpakjmaa", sum := "4cbdb39b11582c47078b7b7f07a9d79a052443cdfd7c554369b7f029ed25a862", func := "pleach/pleachlaw10.DiffTells", spec := "diffTells", inPlace := ["internal/abi.NoEscape", "internal/bytealg.MakeNoZero"], unfollowed := true, recurses := true, apart := false, narrowed := true }
def DiffTellsUptoSaid : Prop := diffTellsUptoRow.holds Try.pinned (OpenSpec.upto diffTellsSpec)

end Rows
end Go.Proofs.Ytoidbgedpakjmaa
