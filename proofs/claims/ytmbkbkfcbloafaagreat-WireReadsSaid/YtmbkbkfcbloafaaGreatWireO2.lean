/-
  Replies: what package wire lays them as.
  Conditions: the lists lie in the world at the start; the bytes fit.
-/
import Derived.Test.YtmbkbkfcbloafaaGreatWireO
import Derived.Test.YtmbkbkfcbloafaaGreatWireL2
namespace Go.Proofs.YtmbkbkfcbloafaaGreat
open Go.RowKit
set_option linter.unusedSectionVars false
set_option linter.unusedSimpArgs false
set_option linter.unusedVariables false
set_option maxRecDepth 100000

structure Rep where
  p : Ans
  subs : List Ans
def Rep.cells (x : Rep) : List Value := x.p.cells
def Rep.bytes (x : Rep) : List UInt8 := x.p.bytes ++ listB Ans.bytes x.subs
structure Rep.ok (w : World) (x : Rep) : Prop where
  p : x.p.ok w
  n : x.p.subsN = x.subs.length
  rd : Rd w 17 x.p.subsA x.subs.length x.p.subsC (x.subs.flatMap Ans.cells)
  all : ∀ a ∈ x.subs, Ans.ok w a

end Go.Proofs.YtmbkbkfcbloafaaGreat
