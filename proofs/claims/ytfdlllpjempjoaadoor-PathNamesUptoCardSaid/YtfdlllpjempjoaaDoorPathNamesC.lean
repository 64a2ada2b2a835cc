/-
  PathNames, for arguments as they come in.
  No condition.
-/
import Derived.Test.YtfdlllpjempjoaaDoorPathNames
namespace Go.Proofs.YtfdlllpjempjoaaDoor
open Go.ChangeShapes Go.WideShapes Go.ChangeAt Go.RowKit

theorem pathNames_contract {H : Type} {enc : TypeId × Value → H} (W : World) (base : Nat) (v0 : Value) (d0 : DataW H) (p0 : List MemPlace) (v1 : Value) (d1 : DataW H) (p1 : List MemPlace)
    (k0 : DataW.Trod enc Tryd.prog W 0 (fun _ => true) true 9 v0 d0 p0) (k1 : DataW.Trod enc Tryd.prog W 0 (fun _ => true) true 9 v1 d1 p1)
    (o0 : Value.okWide Tryd.prog W .any base 9 v0) (o1 : Value.okWide Tryd.prog W .any base 9 v1) (hT : Ready W)
    (_ : (DataW.weightsEach Tryd.prog [9, 9] [d0, d1]).all (· ≤ reachBytes) = true) (hkk : Rows.uptoBulkAll [d0, d1] ≤ 1048576) :
    Calls Tryd.prog 7 #[v0, v1] W (CopyPost (.bool true) W) := by
  simp only [Rows.uptoBulkAll] at hkk
  obtain ⟨p, rfl, hp⟩ := open_str k0 o0
  obtain ⟨n, rfl, hn⟩ := open_str k1 o1
  exact names_any p n (by omega) (by omega) W hT
end Go.Proofs.YtfdlllpjempjoaaDoor
