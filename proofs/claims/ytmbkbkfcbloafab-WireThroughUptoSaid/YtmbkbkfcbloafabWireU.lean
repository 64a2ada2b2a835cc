/-
  Lists taken up by the document.
  No condition: every law states its own.
-/
import Derived.Test.YtmbkbkfcbloafabWireN
import Derived.Test.YtmbkbkfcbloafabJsmall
namespace Go.Proofs.Ytmbkbkfcbloafab
open Go.RowKit
set_option linter.unusedSectionVars false
set_option linter.unusedSimpArgs false
set_option linter.unusedVariables false
set_option maxRecDepth 100000

section
variable {w0 w : World} {l : List Thing} {pb : Nat} {B : ByteArray} {s : RS}
end
theorem iter_stop {q : RS → RS} (hq : Sticky q) {s s' : RS} {k n : Nat} (hs : s' = iter q s k) (hw : ¬ s'.wr = 0) (hk : k ≤ n) : s' = iter q s n := by
  subst hs; exact (iter_stuck hq hw hk).symm
theorem numsR_get (bs : List UInt8) (s : RS) {n i : Nat} (h : i < n) : (numsR bs s n)[i]? = some (rv bs s i) := by simp [numsR, h]

end Go.Proofs.Ytmbkbkfcbloafab
