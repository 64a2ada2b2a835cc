/-
  Things with lists as bytes: the document's part, op, answer.
  Conditions: the lists lie in the world; the bytes fit.
-/
import Derived.Test.YtmbkbkfcbloafabWireQ
import Derived.Test.YtmbkbkfcbloafabWireO
namespace Go.Proofs.Ytmbkbkfcbloafab
open Go.RowKit
set_option linter.unusedSectionVars false
set_option linter.unusedSimpArgs false
set_option linter.unusedVariables false
set_option maxRecDepth 100000
theorem Txn.okmod {w w' : World} {x : Txn} (hx : x.ok w) (h : Mod (fun _ => False) w w') : x.ok w' := ⟨hx.1, hx.2.1, hx.2.2.1, hx.2.2.2.1, (hx.2.2.2.2.1).mod h (fun _ _ h => h), fun a ha => hx.2.2.2.2.2 a ha⟩
theorem Op.okmod {w w' : World} {x : Op} (hx : x.ok w) (h : Mod (fun _ => False) w w') : x.ok w' := ⟨hx.1, hx.2.1, hx.2.2.1, hx.2.2.2.1, (hx.2.2.2.2.1).mod h (fun _ _ h => h), fun a ha => hx.2.2.2.2.2 a ha⟩

end Go.Proofs.Ytmbkbkfcbloafab
