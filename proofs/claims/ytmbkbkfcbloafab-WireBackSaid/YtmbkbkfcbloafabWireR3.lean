/-
  Things with lists as bytes: the document's part, op, answer.
  Conditions: the lists lie in the world; the bytes fit.
-/
import Derived.Test.YtmbkbkfcbloafabWireQ2
import Derived.Test.YtmbkbkfcbloafabWireR
import Derived.Test.YtmbkbkfcbloafabWireO2
namespace Go.Proofs.Ytmbkbkfcbloafab
open Go.RowKit
set_option linter.unusedSectionVars false
set_option linter.unusedSimpArgs false
set_option linter.unusedVariables false
set_option maxRecDepth 100000
theorem Ans.okmod {w w' : World} {x : Ans} (hx : x.ok w) (h : Mod (fun _ => False) w w') : x.ok w' := ⟨hx.1, hx.2.1, hx.2.2.1, hx.2.2.2.1, hx.2.2.2.2.1, hx.2.2.2.2.2.1, hx.2.2.2.2.2.2.1, hx.2.2.2.2.2.2.2.1, hx.2.2.2.2.2.2.2.2.1, hx.2.2.2.2.2.2.2.2.2.1, hx.2.2.2.2.2.2.2.2.2.2.1, hx.2.2.2.2.2.2.2.2.2.2.2.1, (hx.2.2.2.2.2.2.2.2.2.2.2.2.1).mod h (fun _ _ h => h), fun a ha => hx.2.2.2.2.2.2.2.2.2.2.2.2.2.1 a ha, (hx.2.2.2.2.2.2.2.2.2.2.2.2.2.2).mod h (fun _ _ h => h)⟩

end Go.Proofs.Ytmbkbkfcbloafab
