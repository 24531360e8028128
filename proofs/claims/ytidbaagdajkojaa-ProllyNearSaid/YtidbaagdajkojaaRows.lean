/-
  No cell of these rows narrows 'for every input' (looked for: loops, veiled, ifaces, maps, wideKeys, modest, calm, conditions, laid).
  DERIVED. THE GIVEN ROWS OF THIS SEAT. 4 by the template 'for every input the law returns true; each argument reads behind the call as it read before'; 0 by the template 'total and deterministic' (their statements: YtidbaagdajkojaaTotals.lean).
  GIVEN WITH THE SEED: the statements are not yours to turn. If you find one false, say at which input.
  Laid BY PROGRAM, IN A SANDBOX (cutbox-rows.mjs): the forced cells as the released guide's own fill.sh prints them over the translation 91bbe682449c0283… (all of the seat's roots in one cut). By AI agents, Wed Nov 11 2026. No macro, syntax, notation, axiom, sorry.
-/
import Derived.Test.YtidbaagdajkojaaChecked
import GoSem.Claim
import GoSem.ClaimJoined
import GoSem.ClaimMapViews
import Derived.JoinedTies
import Derived.KernelRfl
namespace Go.Proofs.Ytidbaagdajkojaa
/- THE CELL 'sum', in the pinned program and in every row, IS THE sha256 OF THE DUMP (.gsa) THAT YtidbaagdajkojaaProg.lean LOADS. Nothing in Lean hashes anything: it is a label: what it is worth is what the hold of that sum in a sandbox is worth. -/
noncomputable def Try.pinned : Pinned := { name := "ytidbaagdajkojaa", sum := "91bbe682449c0283b26e01b0a1ed2dec17e39ae7c2318e2fe463e6102626f9ad", checked := Try.checked }
namespace Rows
def none {H : Type} : Left H := { results := [], args := [] }

/-- 'pleachlaw08.ProllyBuilds': WHATEVER THE INPUT: true; the input reads as it did. -/
def prollyBuildsSpec : ChangeSpec := { name := "prollyBuilds", fn := fun _ => fun
  | [d] => { results := [.lit (.bool true)], args := [d] }
  | _ => none }
def prollyBuildsRow : OpenClaim := { program := "ytidbaagdajkojaa", sum := "91bbe682449c0283b26e01b0a1ed2dec17e39ae7c2318e2fe463e6102626f9ad", func := "pleach/pleachlaw08.ProllyBuilds", spec := "prollyBuilds", inPlace := ["internal/abi.NoEscape", "internal/bytealg.MakeNoZero", "internal/bytealg.abigen_runtime_cmpstring"], unfollowed := true, recurses := true, apart := false }
def ProllyBuildsSaid : Prop := prollyBuildsRow.holds Try.pinned (OpenSpec.ofChange prollyBuildsSpec)

/-- ITS FALSE NEIGHBOUR: 'it returns false'. Refute it at one input. -/
def prollyBuildsWrong : ChangeSpec := { name := "prollyBuilds", fn := fun _ => fun
  | [d] => { results := [.lit (.bool false)], args := [d] }
  | _ => none }
def ProllyBuildsWrongFalsely : Prop := prollyBuildsRow.holds Try.pinned (OpenSpec.ofChange prollyBuildsWrong)

/-- 'pleachlaw08.ProllyOne': WHATEVER THE INPUT: true; the input reads as it did. -/
def prollyOneSpec : ChangeSpec := { name := "prollyOne", fn := fun _ => fun
  | [d1, d2] => { results := [.lit (.bool true)], args := [d1, d2] }
  | _ => none }
def prollyOneRow : OpenClaim := { program := "ytidbaagdajkojaa", sum := "91bbe682449c0283b26e01b0a1ed2dec17e39ae7c2318e2fe463e6102626f9ad", func := "pleach/pleachlaw08.ProllyOne", spec := "prollyOne", inPlace := ["internal/abi.NoEscape", "internal/bytealg.MakeNoZero", "internal/bytealg.abigen_runtime_cmpstring"], unfollowed := true, recurses := true, apart := false }
def ProllyOneSaid : Prop := prollyOneRow.holds Try.pinned (OpenSpec.ofChange prollyOneSpec)

/-- ITS FALSE NEIGHBOUR: 'it returns false'. Refute it at one input. -/
def prollyOneWrong : ChangeSpec := { name := "prollyOne", fn := fun _ => fun
  | [d1, d2] => { results := [.lit (.bool false)], args := [d1, d2] }
  | _ => none }
def ProllyOneWrongFalsely : Prop := prollyOneRow.holds Try.pinned (OpenSpec.ofChange prollyOneWrong)

/-- 'pleachlaw08.ProllyNear': WHATEVER THE INPUT: true; the input reads as it did. -/
def prollyNearSpec : ChangeSpec := { name := "prollyNear", fn := fun _ => fun
  | [d1, d2] => { results := [.lit (.bool true)], args := [d1, d2] }
  | _ => none }
def prollyNearRow : OpenClaim := { program := "ytidbaagdajkojaa", sum := "91bbe682449c0283b26e01b0a1ed2dec17e39ae7c2318e2fe463e6102626f9ad", func := "pleach/pleachlaw08.ProllyNear", spec := "prollyNear", inPlace := ["internal/abi.NoEscape", "internal/bytealg.MakeNoZero", "internal/bytealg.abigen_runtime_cmpstring"], unfollowed := true, recurses := true, apart := false }
def ProllyNearSaid : Prop := prollyNearRow.holds Try.pinned (OpenSpec.ofChange prollyNearSpec)

/-- ITS FALSE NEIGHBOUR: 'it returns false'. Refute it at one input. -/
def prollyNearWrong : ChangeSpec := { name := "prollyNear", fn := fun _ => fun
  | [d1, d2] => { results := [.lit (.bool false)], args := [d1, d2] }
  | _ => none }
def ProllyNearWrongFalsely : Prop := prollyNearRow.holds Try.pinned (OpenSpec.ofChange prollyNearWrong)

/-- 'pleachlaw08.ProllyRanges': WHATEVER THE INPUT: true; the input reads as it did. -/
def prollyRangesSpec : ChangeSpec := { name := "prollyRanges", fn := fun _ => fun
  | [d1, d2] => { results := [.lit (.bool true)], args := [d1, d2] }
  | _ => none }
def prollyRangesRow : OpenClaim := { program := "ytidbaagdajkojaa", sum := "91bbe682449c0283b26e01b0a1ed2dec17e39ae7c2318e2fe463e6102626f9ad", func := "pleach/pleachlaw08.ProllyRanges", spec := "prollyRanges", inPlace := ["internal/abi.NoEscape", "internal/bytealg.MakeNoZero", "internal/bytealg.abigen_runtime_cmpstring"], unfollowed := true, recurses := true, apart := false }
def ProllyRangesSaid : Prop := prollyRangesRow.holds Try.pinned (OpenSpec.ofChange prollyRangesSpec)

/-- ITS FALSE NEIGHBOUR: 'it returns false'. Refute it at one input. -/
def prollyRangesWrong : ChangeSpec := { name := "prollyRanges", fn := fun _ => fun
  | [d1, d2] => { results := [.lit (.bool false)], args := [d1, d2] }
  | _ => none }
def ProllyRangesWrongFalsely : Prop := prollyRangesRow.holds Try.pinned (OpenSpec.ofChange prollyRangesWrong)

/- THE SECOND FORM. 'bulk': how many values and letters a reading holds, each counted each time it is reached (what is shared counts as often as it is met; a slice's spare places count too). A statement '..UptoSaid' is the law's where the arguments, and the package variables that the reading takes, are together of bulk at most 1048576: NARROWER than '..Said'. Prove '..Said' where nothing that the law and all that it calls make is longer than what came in: it says more and counts as full. Else prove '..UptoSaid'. A law counts once. -/
mutual
def uptoBulk {H : Type} : DataW H → Nat
  | .lit (.string bytes) => bytes.length + 1
  | .lit _ => 1
  | .nil => 1
  | .ptr d => uptoBulk d + 1
  | .slice elems spare => uptoBulkAll elems + uptoBulkAll spare + 1
  | .agg parts => uptoBulkAll parts + 1
  | .iface _ d => uptoBulk d + 1
  | .map entries => uptoBulkEntries entries + 1
  | .held _ => 1
def uptoBulkAll {H : Type} : List (DataW H) → Nat
  | [] => 0
  | d :: r => uptoBulk d + uptoBulkAll r
def uptoBulkEntries {H : Type} : List (Lit × DataW H) → Nat
  | [] => 0
  | x :: r => uptoBulkEntry x + uptoBulkEntries r
def uptoBulkEntry {H : Type} : Lit × DataW H → Nat
  | (.string bytes, d) => bytes.length + uptoBulk d + 1
  | (_, d) => uptoBulk d + 1
 end
def uptoSmall : (H : Type) → List (DataW H) → Bool := fun _ ds => decide (uptoBulkAll ds ≤ 1048576)
def OpenSpec.upto (s : _root_.Go.ChangeSpec) : _root_.Go.OpenSpec := { _root_.Go.OpenSpec.ofChange s with cond := some uptoSmall }

/-- 'pleachlaw08.ProllyBuilds', WHERE WHAT IT READS IS OF BULK AT MOST 1048576: true; the input reads as it did. -/
def prollyBuildsUptoRow : OpenClaim := { program := "ytidbaagdajkojaa", sum := "91bbe682449c0283b26e01b0a1ed2dec17e39ae7c2318e2fe463e6102626f9ad", func := "pleach/pleachlaw08.ProllyBuilds", spec := "prollyBuilds", inPlace := ["internal/abi.NoEscape", "internal/bytealg.MakeNoZero", "internal/bytealg.abigen_runtime_cmpstring"], unfollowed := true, recurses := true, apart := false, narrowed := true }
def ProllyBuildsUptoSaid : Prop := prollyBuildsUptoRow.holds Try.pinned (OpenSpec.upto prollyBuildsSpec)

/-- 'pleachlaw08.ProllyOne', WHERE WHAT IT READS IS OF BULK AT MOST 1048576: true; the input reads as it did. -/
def prollyOneUptoRow : OpenClaim := { program := "ytidbaagdajkojaa", sum := "91bbe682449c0283b26e01b0a1ed2dec17e39ae7c2318e2fe463e6102626f9ad", func := "pleach/pleachlaw08.ProllyOne", spec := "prollyOne", inPlace := ["internal/abi.NoEscape", "internal/bytealg.MakeNoZero", "internal/bytealg.abigen_runtime_cmpstring"], unfollowed := true, recurses := true, apart := false, narrowed := true }
def ProllyOneUptoSaid : Prop := prollyOneUptoRow.holds Try.pinned (OpenSpec.upto prollyOneSpec)

/-- 'pleachlaw08.ProllyNear', WHERE WHAT IT READS IS OF BULK AT MOST 1048576: true; the input reads as it did. -/
def prollyNearUptoRow : OpenClaim := { program := "ytidbaagdajkojaa", sum := "91bbe682449c0283b26e01b0a1ed2dec17e39ae7c2318e2fe463e6102626f9ad", func := "pleach/pleachlaw08.ProllyNear", spec := "prollyNear", inPlace := ["internal/abi.NoEscape", "internal/bytealg.MakeNoZero", "internal/bytealg.abigen_runtime_cmpstring"], unfollowed := true, recurses := true, apart := false, narrowed := true }
def ProllyNearUptoSaid : Prop := prollyNearUptoRow.holds Try.pinned (OpenSpec.upto prollyNearSpec)

/-- 'pleachlaw08.ProllyRanges', WHERE WHAT IT READS IS OF BULK AT MOST 1048576: true; the input reads as it did. -/
def prollyRangesUptoRow : OpenClaim := { program := "ytidbaagdajkojaa", sum := "91bbe682449c0283b26e01b0a1ed2dec17e39ae7c2318e2fe463e6102626f9ad", func := "pleach/pleachlaw08.ProllyRanges", spec := "prollyRanges", inPlace := ["internal/abi.NoEscape", "internal/bytealg.MakeNoZero", "internal/bytealg.abigen_runtime_cmpstring"], unfollowed := true, recurses := true, apart := false, narrowed := true }
def ProllyRangesUptoSaid : Prop := prollyRangesUptoRow.holds Try.pinned (OpenSpec.upto prollyRangesSpec)

end Rows
end Go.Proofs.Ytidbaagdajkojaa
