/-
  WireInside for arguments as they come in.
  Conditions: the arguments' bulk.
-/
import Derived.Test.YtmbkbkfcbloafabWireIns
import Derived.Test.YtmbkbkfcbloafabWireOpnM
namespace Go.Proofs.Ytmbkbkfcbloafab
open Go.ChangeShapes Go.WideShapes Go.ChangeAt Go.RowKit Go.Deep
set_option linter.unusedSectionVars false
set_option linter.unusedSimpArgs false
set_option linter.unusedVariables false
set_option maxRecDepth 100000
theorem wireInside_contract {H : Type} {enc : TypeId × Value → H} (W : World) (base : Nat) (v0 : Value) (d0 : DataW H) (p0 : List MemPlace) (v1 : Value) (d1 : DataW H) (p1 : List MemPlace)
    (k0 : DataW.Trod enc Try.prog W 0 (fun _ => true) true 28 v0 d0 p0) (k1 : DataW.Trod enc Try.prog W 0 (fun _ => true) true 37 v1 d1 p1)
    (o0 : Value.okWide Try.prog W .any base 28 v0) (o1 : Value.okWide Try.prog W .any base 37 v1) (hkk : Rows.uptoBulkAll [d0, d1] ≤ 1048576) :
    Calls Try.prog 3 #[v0, v1] W (ValPost (.bool true) W) := by
  simp only [Rows.uptoBulkAll] at hkk
  obtain ⟨x0, rfl, hx0, hb0⟩ := open_entry k0 o0
  obtain ⟨x1, rfl, hx1, hb1⟩ := open_message k1 o1
  exact wireInside_walk x0 x1 W hx0 hx1 (by omega) (by omega)
end Go.Proofs.Ytmbkbkfcbloafab
