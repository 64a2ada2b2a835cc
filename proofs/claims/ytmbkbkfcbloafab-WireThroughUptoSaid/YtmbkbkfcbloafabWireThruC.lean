/-
  WireThrough for arguments as they come in.
  Conditions: the arguments' bulk.
-/
import Derived.Test.YtmbkbkfcbloafabWireThru
import Derived.Test.YtmbkbkfcbloafabWireOpnM
namespace Go.Proofs.Ytmbkbkfcbloafab
open Go.ChangeShapes Go.WideShapes Go.ChangeAt Go.RowKit Go.Deep
set_option linter.unusedSectionVars false
set_option linter.unusedSimpArgs false
set_option linter.unusedVariables false
set_option maxRecDepth 100000
theorem open_int' {H : Type} {enc : TypeId × Value → H} {w : World} {base base' : Nat} {spare : Nat → Bool} {held : Bool} {v : Value} {d : DataW H} {p : List MemPlace} (k : DataW.Trod enc Try.prog w base spare held 3 v d p) (o : Value.okWide Try.prog w .any base' 3 v) : ∃ n : Int, v = .int .i64 n ∧ i64 n := by
  obtain ⟨f, k⟩ := k
  obtain ⟨s, rfl⟩ := okWide_int Try.underlying3 o
  obtain ⟨n, h1, _, h2⟩ := DataW.trod_int Try.underlying3 k
  simp only [Value.cells, List.cons.injEq, Value.int.injEq, and_true, true_and] at h1
  subst h1
  exact ⟨s, rfl, int_wf h2⟩
theorem wireThrough_contract {H : Type} {enc : TypeId × Value → H} (W : World) (base : Nat) (v0 : Value) (d0 : DataW H) (p0 : List MemPlace) (v1 : Value) (d1 : DataW H) (p1 : List MemPlace) (v2 : Value) (d2 : DataW H) (p2 : List MemPlace)
    (k0 : DataW.Trod enc Try.prog W 0 (fun _ => true) true 28 v0 d0 p0) (k1 : DataW.Trod enc Try.prog W 0 (fun _ => true) true 37 v1 d1 p1) (k2 : DataW.Trod enc Try.prog W 0 (fun _ => true) true 3 v2 d2 p2)
    (o0 : Value.okWide Try.prog W .any base 28 v0) (o1 : Value.okWide Try.prog W .any base 37 v1) (o2 : Value.okWide Try.prog W .any base 3 v2) (hkk : Rows.uptoBulkAll [d0, d1, d2] ≤ 1048576) :
    Calls Try.prog 4 #[v0, v1, v2] W (ValPost (.bool true) W) := by
  simp only [Rows.uptoBulkAll] at hkk
  obtain ⟨x0, rfl, hx0, hb0⟩ := open_entry k0 o0
  obtain ⟨x1, rfl, hx1, hb1⟩ := open_message k1 o1
  obtain ⟨x2, rfl, hx2⟩ := open_int' k2 o2
  exact wireThrough_walk x0 x1 x2 W hx0 hx1 hx2 (by omega) (by omega)
end Go.Proofs.Ytmbkbkfcbloafab
