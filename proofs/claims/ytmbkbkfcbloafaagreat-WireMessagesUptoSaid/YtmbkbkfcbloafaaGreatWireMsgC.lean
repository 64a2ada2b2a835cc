/-
  WireMessages for arguments as they come in.
  Conditions: the argument's bulk.
-/
import Derived.Test.YtmbkbkfcbloafaaGreatWireMsgs
import Derived.Test.YtmbkbkfcbloafaaGreatWireOpnM
namespace Go.Proofs.YtmbkbkfcbloafaaGreat
open Go.RowKit
set_option linter.unusedSectionVars false
set_option linter.unusedSimpArgs false
set_option linter.unusedVariables false
set_option maxRecDepth 100000

theorem wireMessages_contract {H : Type} {enc : TypeId × Value → H} (W : World) (base : Nat) (v0 : Value) (d0 : DataW H) (p0 : List MemPlace)
    (k0 : DataW.Trod enc Tryz.prog W 0 (fun _ => true) true 33 v0 d0 p0) (o0 : Value.okWide Tryz.prog W .any base 33 v0) (hkk : Rows.uptoBulkAll [d0] ≤ 1048576) :
    Calls Tryz.prog 4 #[v0] W (ValPost (.bool true) W) := by
  simp only [Rows.uptoBulkAll] at hkk
  obtain ⟨x, rfl, hx, hb⟩ := open_message k0 o0
  exact wireMessages_walk x W hx (by omega)
end Go.Proofs.YtmbkbkfcbloafaaGreat
