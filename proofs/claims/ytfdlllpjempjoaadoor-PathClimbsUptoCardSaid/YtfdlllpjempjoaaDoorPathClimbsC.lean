/-
  PathClimbs, for arguments as they come in.
  Conditions: the arguments are of that bulk; what is asked of the world.
-/
import Derived.Test.YtfdlllpjempjoaaDoorPathClimbs
namespace Go.Proofs.YtfdlllpjempjoaaDoor
open Go.ChangeShapes Go.WideShapes Go.ChangeAt Go.RowKit
set_option linter.unusedVariables false

theorem pathClimbs_contract {H : Type} {enc : TypeId × Value → H} (W : World) (base : Nat) (v0 : Value) (d0 : DataW H) (p0 : List MemPlace)
    (k0 : DataW.Trod enc Tryd.prog W 0 (fun _ => true) true 9 v0 d0 p0)
    (o0 : Value.okWide Tryd.prog W .any base 9 v0) (hT : Ready W)
    (hsz : (DataW.weightsEach Tryd.prog [9] [d0]).all (· ≤ reachBytes) = true) (hkk : Rows.uptoBulkAll [d0] ≤ 1048576) :
    Calls Tryd.prog 5 #[v0] W (CopyPost (.bool true) W) := by
  simp only [Rows.uptoBulkAll] at hkk
  obtain ⟨p, rfl, hp⟩ := open_str k0 o0
  exact climbs_any p (by omega) W hT
end Go.Proofs.YtfdlllpjempjoaaDoor
