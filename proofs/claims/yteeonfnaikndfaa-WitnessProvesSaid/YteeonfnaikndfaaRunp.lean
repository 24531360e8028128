/- Layer 8 in plain words: the pairs that a source's tree hands out. -/
import Derived.Test.YteeonfnaikndfaaTree
set_option linter.unusedVariables false
set_option linter.unusedSimpArgs false
namespace Go.Proofs.Yteeonfnaikndfaa.W08
open Go Go.RowKit Go.Proofs.Yteeonfnaikndfaa Go.Proofs.Yteeonfnaikndfaa.Lib Go.Proofs.Yteeonfnaikndfaa.Sha Go.Proofs.Yteeonfnaikndfaa.T07 Go.Proofs.Yteeonfnaikndfaa.T08 Go.Proofs.Yteeonfnaikndfaa.Itms Go.Proofs.Yteeonfnaikndfaa.WSeq Go.Proofs.Yteeonfnaikndfaa.Ord Go.Proofs.Yteeonfnaikndfaa.W08 Go.Proofs.Yteeonfnaikndfaa.Inj Go.Proofs.Yteeonfnaikndfaa.Tree
/-- the pairs that a source's tree hands out, from a key on -/
def runP (f : Src) (root key : List UInt8) : List Itm := match atS f root with
  | none => []
  | some p => (walkP f key p.1 p.2).1
end Go.Proofs.Yteeonfnaikndfaa.W08
