/-
  Lists as bytes: the document's Acls, texts.
  Conditions: the lists lie in the world; the bytes fit.
-/
import Derived.Test.YtmbkbkfcbloafabWireL
namespace Go.Proofs.Ytmbkbkfcbloafab
open Go.RowKit
set_option linter.unusedSectionVars false
set_option linter.unusedSimpArgs false
set_option linter.unusedVariables false
set_option maxRecDepth 100000

/-! ### What stays, whatever the order -/

theorem Mod.back {a b c : World} (k : Mod (fun _ => False) b c) (h : Mod (fun _ => False) a b) : Mod (fun _ => False) a c := h.then k (fun _ _ h => h)
theorem heap_back {b c : World} (k : Mod (fun _ => False) b c) {n : Nat} {o : Obj} (h : b.heap[n]? = some o) : c.heap[n]? = some o := k.heap h id

end Go.Proofs.Ytmbkbkfcbloafab
