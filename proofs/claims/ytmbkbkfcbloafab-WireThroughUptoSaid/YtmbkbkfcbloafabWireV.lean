/-
  Things with lists taken up by the document.
  No condition: every law states its own.
-/
import Derived.Test.YtmbkbkfcbloafabWireU
import Derived.Test.YtmbkbkfcbloafabJsmall
import Derived.Test.YtmbkbkfcbloafabWireN2
import Derived.Deep.Cut
namespace Go.Proofs.Ytmbkbkfcbloafab
open Go.RowKit
set_option linter.unusedSectionVars false
set_option linter.unusedSimpArgs false
set_option linter.unusedVariables false
set_option maxRecDepth 100000

theorem Rd.valAt {w : World} {b : Nat} {n cap : Nat} {vs : List Value} (h : Rd w 1 (some ⟨b, 0, none⟩) n cap vs) (k : Nat) {t : Value} (ht : vs[k]? = some t) : w.cell? ⟨b, k, none⟩ = some t := by
  obtain ⟨_, o, ha, _, hc⟩ := h.val ht
  simp only [Option.some.injEq, Addr.mk.injEq, true_and, and_true] at ha
  obtain ⟨rfl, rfl⟩ := ha
  simpa using hc
def Txn.bare (x : Txn) : Prop := (x.subsA = none ∧ x.subsN = 0 ∧ x.subsC = 0)

def Op.bare (x : Op) : Prop := (x.subsA = none ∧ x.subsN = 0 ∧ x.subsC = 0) ∧ (x.armedA = none ∧ x.armedN = 0 ∧ x.armedC = 0)

end Go.Proofs.Ytmbkbkfcbloafab
