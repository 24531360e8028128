/-
  No cell of these rows narrows 'for every input' (looked for: loops, veiled, ifaces, maps, wideKeys, modest, calm, conditions, laid).
  DERIVED. THE GIVEN ROWS OF THIS SEAT. 9 by the template 'for every input the law returns true; each argument reads behind the call as it read before'; 0 by the template 'total and deterministic' (their statements: YteeonfnaikndfaaTotals.lean).
  GIVEN WITH THE SEED: the statements are not yours to turn. If you find one false, say at which input.
  Laid BY PROGRAM, IN A SANDBOX (cutbox-rows.mjs): the forced cells as the released guide's own fill.sh prints them over the translation 78dff42b064f3a54… (all of the seat's roots in one cut). By AI agents, Wed Nov 11 2026. No macro, syntax, notation, axiom, sorry.
-/
import Derived.Test.YteeonfnaikndfaaChecked
import GoSem.Claim
import GoSem.ClaimJoined
import GoSem.ClaimMapViews
import Derived.JoinedTies
import Derived.KernelRfl
namespace Go.Proofs.Yteeonfnaikndfaa
/- THE CELL 'sum', in the pinned program and in every row, IS THE sha256 OF THE DUMP (.gsa) THAT YteeonfnaikndfaaProg.lean LOADS. Nothing in Lean hashes anything: it is a label: what it is worth is what the hold of that sum in a sandbox is worth. -/
noncomputable def Try.pinned : Pinned := { name := "yteeonfnaikndfaa", sum := "78dff42b064f3a54af4526fbe8e3dbd37e14a61ce903ef8554e4ac844cb69a69", checked := Try.checked }
namespace Rows
def none {H : Type} : Left H := { results := [], args := [] }

/-- 'pleachlaw11.WitnessProves': WHATEVER THE INPUT: true; the input reads as it did. -/
def witnessProvesSpec : ChangeSpec := { name := "witnessProves", fn := fun _ => fun
  | [d1, d2] => { results := [.lit (.bool true)], args := [d1, d2] }
  | _ => none }
def witnessProvesRow : OpenClaim := { program := "yteeonfnaikndfaa", sum := "78dff42b064f3a54af4526fbe8e3dbd37e14a61ce903ef8554e4ac844cb69a69", func := "pleach/pleachlaw11.WitnessProves", spec := "witnessProves", inPlace := ["internal/abi.NoEscape", "internal/bytealg.MakeNoZero", "internal/bytealg.abigen_runtime_cmpstring"], unfollowed := true, recurses := true, apart := false }
def WitnessProvesSaid : Prop := witnessProvesRow.holds Try.pinned (OpenSpec.ofChange witnessProvesSpec)

/-- ITS FALSE NEIGHBOUR: 'it returns false'. Refute it at one input. -/
def witnessProvesWrong : ChangeSpec := { name := "witnessProves", fn := fun _ => fun
  | [d1, d2] => { results := [.lit (.bool false)], args := [d1, d2] }
  | _ => none }
def WitnessProvesWrongFalsely : Prop := witnessProvesRow.holds Try.pinned (OpenSpec.ofChange witnessProvesWrong)

/-- 'pleachlaw11.WitnessVerifies': WHATEVER THE INPUT: true; the input reads as it did. -/
def witnessVerifiesSpec : ChangeSpec := { name := "witnessVerifies", fn := fun _ => fun
  | [d1, d2, d3] => { results := [.lit (.bool true)], args := [d1, d2, d3] }
  | _ => none }
def witnessVerifiesRow : OpenClaim := { program := "yteeonfnaikndfaa", sum := "78dff42b064f3a54af4526fbe8e3dbd37e14a61ce903ef8554e4ac844cb69a69", func := "pleach/pleachlaw11.WitnessVerifies", spec := "witnessVerifies", inPlace := ["internal/abi.NoEscape", "internal/bytealg.MakeNoZero", "internal/bytealg.abigen_runtime_cmpstring"], unfollowed := true, recurses := true, apart := false }
def WitnessVerifiesSaid : Prop := witnessVerifiesRow.holds Try.pinned (OpenSpec.ofChange witnessVerifiesSpec)

/-- ITS FALSE NEIGHBOUR: 'it returns false'. Refute it at one input. -/
def witnessVerifiesWrong : ChangeSpec := { name := "witnessVerifies", fn := fun _ => fun
  | [d1, d2, d3] => { results := [.lit (.bool false)], args := [d1, d2, d3] }
  | _ => none }
def WitnessVerifiesWrongFalsely : Prop := witnessVerifiesRow.holds Try.pinned (OpenSpec.ofChange witnessVerifiesWrong)

/-- 'pleachlaw11.WitnessLong': WHATEVER THE INPUT: true; the input reads as it did. -/
def witnessLongSpec : ChangeSpec := { name := "witnessLong", fn := fun _ => fun
  | [d1, d2] => { results := [.lit (.bool true)], args := [d1, d2] }
  | _ => none }
def witnessLongRow : OpenClaim := { program := "yteeonfnaikndfaa", sum := "78dff42b064f3a54af4526fbe8e3dbd37e14a61ce903ef8554e4ac844cb69a69", func := "pleach/pleachlaw11.WitnessLong", spec := "witnessLong", inPlace := ["internal/abi.NoEscape", "internal/bytealg.MakeNoZero", "internal/bytealg.abigen_runtime_cmpstring"], unfollowed := true, recurses := true, apart := false }
def WitnessLongSaid : Prop := witnessLongRow.holds Try.pinned (OpenSpec.ofChange witnessLongSpec)

/-- ITS FALSE NEIGHBOUR: 'it returns false'. Refute it at one input. -/
def witnessLongWrong : ChangeSpec := { name := "witnessLong", fn := fun _ => fun
  | [d1, d2] => { results := [.lit (.bool false)], args := [d1, d2] }
  | _ => none }
def WitnessLongWrongFalsely : Prop := witnessLongRow.holds Try.pinned (OpenSpec.ofChange witnessLongWrong)

/-- 'pleachlaw11.WitnessAbsent': WHATEVER THE INPUT: true; the input reads as it did. -/
def witnessAbsentSpec : ChangeSpec := { name := "witnessAbsent", fn := fun _ => fun
  | [d1, d2] => { results := [.lit (.bool true)], args := [d1, d2] }
  | _ => none }
def witnessAbsentRow : OpenClaim := { program := "yteeonfnaikndfaa", sum := "78dff42b064f3a54af4526fbe8e3dbd37e14a61ce903ef8554e4ac844cb69a69", func := "pleach/pleachlaw11.WitnessAbsent", spec := "witnessAbsent", inPlace := ["internal/abi.NoEscape", "internal/bytealg.MakeNoZero", "internal/bytealg.abigen_runtime_cmpstring"], unfollowed := true, recurses := true, apart := false }
def WitnessAbsentSaid : Prop := witnessAbsentRow.holds Try.pinned (OpenSpec.ofChange witnessAbsentSpec)

/-- ITS FALSE NEIGHBOUR: 'it returns false'. Refute it at one input. -/
def witnessAbsentWrong : ChangeSpec := { name := "witnessAbsent", fn := fun _ => fun
  | [d1, d2] => { results := [.lit (.bool false)], args := [d1, d2] }
  | _ => none }
def WitnessAbsentWrongFalsely : Prop := witnessAbsentRow.holds Try.pinned (OpenSpec.ofChange witnessAbsentWrong)

/-- 'pleachlaw11.WitnessOther': WHATEVER THE INPUT: true; the input reads as it did. -/
def witnessOtherSpec : ChangeSpec := { name := "witnessOther", fn := fun _ => fun
  | [d1, d2, d3] => { results := [.lit (.bool true)], args := [d1, d2, d3] }
  | _ => none }
def witnessOtherRow : OpenClaim := { program := "yteeonfnaikndfaa", sum := "78dff42b064f3a54af4526fbe8e3dbd37e14a61ce903ef8554e4ac844cb69a69", func := "pleach/pleachlaw11.WitnessOther", spec := "witnessOther", inPlace := ["internal/abi.NoEscape", "internal/bytealg.MakeNoZero", "internal/bytealg.abigen_runtime_cmpstring"], unfollowed := true, recurses := true, apart := false }
def WitnessOtherSaid : Prop := witnessOtherRow.holds Try.pinned (OpenSpec.ofChange witnessOtherSpec)

/-- ITS FALSE NEIGHBOUR: 'it returns false'. Refute it at one input. -/
def witnessOtherWrong : ChangeSpec := { name := "witnessOther", fn := fun _ => fun
  | [d1, d2, d3] => { results := [.lit (.bool false)], args := [d1, d2, d3] }
  | _ => none }
def WitnessOtherWrongFalsely : Prop := witnessOtherRow.holds Try.pinned (OpenSpec.ofChange witnessOtherWrong)

/-- 'pleachlaw11.WitnessSound': WHATEVER THE INPUT: true; the input reads as it did. -/
def witnessSoundSpec : ChangeSpec := { name := "witnessSound", fn := fun _ => fun
  | [d1, d2, d3] => { results := [.lit (.bool true)], args := [d1, d2, d3] }
  | _ => none }
def witnessSoundRow : OpenClaim := { program := "yteeonfnaikndfaa", sum := "78dff42b064f3a54af4526fbe8e3dbd37e14a61ce903ef8554e4ac844cb69a69", func := "pleach/pleachlaw11.WitnessSound", spec := "witnessSound", inPlace := ["internal/abi.NoEscape", "internal/bytealg.MakeNoZero", "internal/bytealg.abigen_runtime_cmpstring"], unfollowed := true, recurses := true, apart := false }
def WitnessSoundSaid : Prop := witnessSoundRow.holds Try.pinned (OpenSpec.ofChange witnessSoundSpec)

/-- ITS FALSE NEIGHBOUR: 'it returns false'. Refute it at one input. -/
def witnessSoundWrong : ChangeSpec := { name := "witnessSound", fn := fun _ => fun
  | [d1, d2, d3] => { results := [.lit (.bool false)], args := [d1, d2, d3] }
  | _ => none }
def WitnessSoundWrongFalsely : Prop := witnessSoundRow.holds Try.pinned (OpenSpec.ofChange witnessSoundWrong)

/-- 'pleachlaw10.DiffTurned': WHATEVER THE INPUT: true; the input reads as it did. -/
def diffTurnedSpec : ChangeSpec := { name := "diffTurned", fn := fun _ => fun
  | [d1, d2] => { results := [.lit (.bool true)], args := [d1, d2] }
  | _ => none }
def diffTurnedRow : OpenClaim := { program := "yteeonfnaikndfaa", sum := "78dff42b064f3a54af4526fbe8e3dbd37e14a61ce903ef8554e4ac844cb69a69", func := "pleach/pleachlaw10.DiffTurned", spec := "diffTurned", inPlace := ["internal/abi.NoEscape", "internal/bytealg.MakeNoZero"], unfollowed := true, recurses := true, apart := false }
def DiffTurnedSaid : Prop := diffTurnedRow.holds Try.pinned (OpenSpec.ofChange diffTurnedSpec)

/-- ITS FALSE NEIGHBOUR: 'it returns false'. Refute it at one input. -/
def diffTurnedWrong : ChangeSpec := { name := "diffTurned", fn := fun _ => fun
  | [d1, d2] => { results := [.lit (.bool false)], args := [d1, d2] }
  | _ => none }
def DiffTurnedWrongFalsely : Prop := diffTurnedRow.holds Try.pinned (OpenSpec.ofChange diffTurnedWrong)

/-- 'pleachlaw10.DiffLost': WHATEVER THE INPUT: true; the input reads as it did. -/
def diffLostSpec : ChangeSpec := { name := "diffLost", fn := fun _ => fun
  | [d1, d2, d3] => { results := [.lit (.bool true)], args := [d1, d2, d3] }
  | _ => none }
def diffLostRow : OpenClaim := { program := "yteeonfnaikndfaa", sum := "78dff42b064f3a54af4526fbe8e3dbd37e14a61ce903ef8554e4ac844cb69a69", func := "pleach/pleachlaw10.DiffLost", spec := "diffLost", inPlace := ["internal/abi.NoEscape", "internal/bytealg.MakeNoZero"], unfollowed := true, recurses := true, apart := false }
def DiffLostSaid : Prop := diffLostRow.holds Try.pinned (OpenSpec.ofChange diffLostSpec)

/-- ITS FALSE NEIGHBOUR: 'it returns false'. Refute it at one input. -/
def diffLostWrong : ChangeSpec := { name := "diffLost", fn := fun _ => fun
  | [d1, d2, d3] => { results := [.lit (.bool false)], args := [d1, d2, d3] }
  | _ => none }
def DiffLostWrongFalsely : Prop := diffLostRow.holds Try.pinned (OpenSpec.ofChange diffLostWrong)

/-- 'pleachlaw10.DiffTells': WHATEVER THE INPUT: true; the input reads as it did. -/
def diffTellsSpec : ChangeSpec := { name := "diffTells", fn := fun _ => fun
  | [d1, d2] => { results := [.lit (.bool true)], args := [d1, d2] }
  | _ => none }
def diffTellsRow : OpenClaim := { program := "yteeonfnaikndfaa", sum := "78dff42b064f3a54af4526fbe8e3dbd37e14a61ce903ef8554e4ac844cb69a69", func := "pleach/pleachlaw10.DiffTells", spec := "diffTells", inPlace := ["internal/abi.NoEscape", "internal/bytealg.MakeNoZero"], unfollowed := true, recurses := true, apart := false }
def DiffTellsSaid : Prop := diffTellsRow.holds Try.pinned (OpenSpec.ofChange diffTellsSpec)

/-- ITS FALSE NEIGHBOUR: 'it returns false'. Refute it at one input. -/
def diffTellsWrong : ChangeSpec := { name := "diffTells", fn := fun _ => fun
  | [d1, d2] => { results := [.lit (.bool false)], args := [d1, d2] }
  | _ => none }
def DiffTellsWrongFalsely : Prop := diffTellsRow.holds Try.pinned (OpenSpec.ofChange diffTellsWrong)

/- THE SECOND FORM. 'bulk': how many values and letters a reading holds, each counted each time it is reached (what is shared counts as often as it is met; a slice's spare places count too). A statement '..UptoSaid' is the law's where the arguments, and the package variables that the reading takes, are together of bulk at most 1048576: NARROWER than '..Said'. Prove '..Said' where nothing that the law and all that it calls make is longer than what came in: it says more and counts as full. Else prove '..UptoSaid'. A law counts once. -/
mutual
def uptoBulk {H : Type} : DataW H → Nat
  | .lit (.string bytes) => bytes.length + 1
  | .lit _ => 1
  | .nil => 1
  | .ptr d => uptoBulk d + 1
  | .slice elems spare => uptoBulkAll elems + uptoBulkAll spare + 1
  | .agg parts => uptoBulkAll parts + 1
  | .iface _ d => uptoBulk d + 1
  | .map entries => uptoBulkEntries entries + 1
  | .held _ => 1
def uptoBulkAll {H : Type} : List (DataW H) → Nat
  | [] => 0
  | d :: r => uptoBulk d + uptoBulkAll r
def uptoBulkEntries {H : Type} : List (Lit × DataW H) → Nat
  | [] => 0
  | x :: r => uptoBulkEntry x + uptoBulkEntries r
def uptoBulkEntry {H : Type} : Lit × DataW H → Nat
  | (.string bytes, d) => bytes.length + uptoBulk d + 1
  | (_, d) => uptoBulk d + 1
 end
def uptoSmall : (H : Type) → List (DataW H) → Bool := fun _ ds => decide (uptoBulkAll ds ≤ 1048576)
def OpenSpec.upto (s : _root_.Go.ChangeSpec) : _root_.Go.OpenSpec := { _root_.Go.OpenSpec.ofChange s with cond := some uptoSmall }

/-- 'pleachlaw11.WitnessProves', WHERE WHAT IT READS IS OF BULK AT MOST 1048576: true; the input reads as it did. -/
def witnessProvesUptoRow : OpenClaim := { program := "yteeonfnaikndfaa", sum := "78dff42b064f3a54af4526fbe8e3dbd37e14a61ce903ef8554e4ac844cb69a69", func := "pleach/pleachlaw11.WitnessProves", spec := "witnessProves", inPlace := ["internal/abi.NoEscape", "internal/bytealg.MakeNoZero", "internal/bytealg.abigen_runtime_cmpstring"], unfollowed := true, recurses := true, apart := false, narrowed := true }
def WitnessProvesUptoSaid : Prop := witnessProvesUptoRow.holds Try.pinned (OpenSpec.upto witnessProvesSpec)

/-- 'pleachlaw11.WitnessVerifies', WHERE WHAT IT READS IS OF BULK AT MOST 1048576: true; the input reads as it did. -/
def witnessVerifiesUptoRow : OpenClaim := { program := "yteeonfnaikndfaa", sum := "78dff42b064f3a54af4526fbe8e3dbd37e14a61ce903ef8554e4ac844cb69a69", func := "pleach/pleachlaw11.WitnessVerifies", spec := "witnessVerifies", inPlace := ["internal/abi.NoEscape", "internal/bytealg.MakeNoZero", "internal/bytealg.abigen_runtime_cmpstring"], unfollowed := true, recurses := true, apart := false, narrowed := true }
def WitnessVerifiesUptoSaid : Prop := witnessVerifiesUptoRow.holds Try.pinned (OpenSpec.upto witnessVerifiesSpec)

/-- 'pleachlaw11.WitnessLong', WHERE WHAT IT READS IS OF BULK AT MOST 1048576: true; the input reads as it did. -/
def witnessLongUptoRow : OpenClaim := { program := "yteeonfnaikndfaa", sum := "78dff42b064f3a54af4526fbe8e3dbd37e14a61ce903ef8554e4ac844cb69a69", func := "pleach/pleachlaw11.WitnessLong", spec := "witnessLong", inPlace := ["internal/abi.NoEscape", "internal/bytealg.MakeNoZero", "internal/bytealg.abigen_runtime_cmpstring"], unfollowed := true, recurses := true, apart := false, narrowed := true }
def WitnessLongUptoSaid : Prop := witnessLongUptoRow.holds Try.pinned (OpenSpec.upto witnessLongSpec)

/-- 'pleachlaw11.WitnessAbsent', WHERE WHAT IT READS IS OF BULK AT MOST 1048576: true; the input reads as it did. -/
def witnessAbsentUptoRow : OpenClaim := { program := "yteeonfnaikndfaa", sum := "78dff42b064f3a54af4526fbe8e3dbd37e14a61ce903ef8554e4ac844cb69a69", func := "pleach/pleachlaw11.WitnessAbsent", spec := "witnessAbsent", inPlace := ["internal/abi.NoEscape", "internal/bytealg.MakeNoZero", "internal/bytealg.abigen_runtime_cmpstring"], unfollowed := true, recurses := true, apart := false, narrowed := true }
def WitnessAbsentUptoSaid : Prop := witnessAbsentUptoRow.holds Try.pinned (OpenSpec.upto witnessAbsentSpec)

/-- 'pleachlaw11.WitnessOther', WHERE WHAT IT READS IS OF BULK AT MOST 1048576: true; the input reads as it did. -/
def witnessOtherUptoRow : OpenClaim := { program := "yteeonfnaikndfaa", sum := "78dff42b064f3a54af4526fbe8e3dbd37e14a61ce903ef8554e4ac844cb69a69", func := "pleach/pleachlaw11.WitnessOther", spec := "witnessOther", inPlace := ["internal/abi.NoEscape", "internal/bytealg.MakeNoZero", "internal/bytealg.abigen_runtime_cmpstring"], unfollowed := true, recurses := true, apart := false, narrowed := true }
def WitnessOtherUptoSaid : Prop := witnessOtherUptoRow.holds Try.pinned (OpenSpec.upto witnessOtherSpec)

/-- 'pleachlaw11.WitnessSound', WHERE WHAT IT READS IS OF BULK AT MOST 1048576: true; the input reads as it did. -/
def witnessSoundUptoRow : OpenClaim := { program := "yteeonfnaikndfaa", sum := "78dff42b064f3a54af4526fbe8e3dbd37e14a61ce903ef8554e4ac844cb69a69", func := "pleach/pleachlaw11.WitnessSound", spec := "witnessSound", inPlace := ["internal/abi.NoEscape", "internal/bytealg.MakeNoZero", "internal/bytealg.abigen_runtime_cmpstring"], unfollowed := true, recurses := true, apart := false, narrowed := true }
def WitnessSoundUptoSaid : Prop := witnessSoundUptoRow.holds Try.pinned (OpenSpec.upto witnessSoundSpec)

/-- 'pleachlaw10.DiffTurned', WHERE WHAT IT READS IS OF BULK AT MOST 1048576: true; the input reads as it did. -/
def diffTurnedUptoRow : OpenClaim := { program := "yteeonfnaikndfaa", sum := "78dff42b064f3a54af4526fbe8e3dbd37e14a61ce903ef8554e4ac844cb69a69", func := "pleach/pleachlaw10.DiffTurned", spec := "diffTurned", inPlace := ["internal/abi.NoEscape", "internal/bytealg.MakeNoZero"], unfollowed := true, recurses := true, apart := false, narrowed := true }
def DiffTurnedUptoSaid : Prop := diffTurnedUptoRow.holds Try.pinned (OpenSpec.upto diffTurnedSpec)

/-- 'pleachlaw10.DiffLost', WHERE WHAT IT READS IS OF BULK AT MOST 1048576: true; the input reads as it did. -/
def diffLostUptoRow : OpenClaim := { program := "yteeonfnaikndfaa", sum := "78dff42b064f3a54af4526fbe8e3dbd37e14a61ce903ef8554e4ac844cb69a69", func := "pleach/pleachlaw10.DiffLost", spec := "diffLost", inPlace := ["internal/abi.NoEscape", "internal/bytealg.MakeNoZero"], unfollowed := true, recurses := true, apart := false, narrowed := true }
def DiffLostUptoSaid : Prop := diffLostUptoRow.holds Try.pinned (OpenSpec.upto diffLostSpec)

/-- 'pleachlaw10.DiffTells', WHERE WHAT IT READS IS OF BULK AT MOST 1048576: true; the input reads as it did. -/
def diffTellsUptoRow : OpenClaim := { program := "yteeonfnaikndfaa", sum := "78dff42b064f3a54af4526fbe8e3dbd37e14a61ce903ef8554e4ac844cb69a69", func := "pleach/pleachlaw10.DiffTells", spec := "diffTells", inPlace := ["internal/abi.NoEscape", "internal/bytealg.MakeNoZero"], unfollowed := true, recurses := true, apart := false, narrowed := true }
def DiffTellsUptoSaid : Prop := diffTellsUptoRow.holds Try.pinned (OpenSpec.upto diffTellsSpec)

end Rows
end Go.Proofs.Yteeonfnaikndfaa
