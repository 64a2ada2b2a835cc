/-
  PathOrder, for arguments as they come in.
  Conditions: the arguments are of that bulk; what is asked of the world.
-/
import Derived.Test.YtfdlllpjempjoaaDoorPathOrder
namespace Go.Proofs.YtfdlllpjempjoaaDoor
open Go.ChangeShapes Go.WideShapes Go.ChangeAt Go.RowKit
set_option linter.unusedVariables false

theorem pathOrder_contract {H : Type} {enc : TypeId × Value → H} (W : World) (base : Nat) (v0 : Value) (d0 : DataW H) (p0 : List MemPlace) (v1 : Value) (d1 : DataW H) (p1 : List MemPlace) (v2 : Value) (d2 : DataW H) (p2 : List MemPlace) (v3 : Value) (d3 : DataW H) (p3 : List MemPlace)
    (k0 : DataW.Trod enc Tryd.prog W 0 (fun _ => true) true 9 v0 d0 p0) (k1 : DataW.Trod enc Tryd.prog W 0 (fun _ => true) true 9 v1 d1 p1) (k2 : DataW.Trod enc Tryd.prog W 0 (fun _ => true) true 3 v2 d2 p2) (k3 : DataW.Trod enc Tryd.prog W 0 (fun _ => true) true 3 v3 d3 p3)
    (o0 : Value.okWide Tryd.prog W .any base 9 v0) (o1 : Value.okWide Tryd.prog W .any base 9 v1) (o2 : Value.okWide Tryd.prog W .any base 3 v2) (o3 : Value.okWide Tryd.prog W .any base 3 v3) (hT : Ready W)
    (hsz : (DataW.weightsEach Tryd.prog [9, 9, 3, 3] [d0, d1, d2, d3]).all (· ≤ reachBytes) = true) (hkk : Rows.uptoBulkAll [d0, d1, d2, d3] ≤ 1048576) :
    Calls Tryd.prog 6 #[v0, v1, v2, v3] W (CopyPost (.bool true) W) := by
  simp only [Rows.uptoBulkAll] at hkk
  obtain ⟨p, rfl, hp⟩ := open_str k0 o0
  obtain ⟨q, rfl, hq⟩ := open_str k1 o1
  obtain ⟨m, rfl, hm⟩ := open_int k2 o2
  obtain ⟨n, rfl, hn⟩ := open_int k3 o3
  exact order_any p q m n (by omega) (by omega) hm.1 hm.2 hn.1 hn.2 W hT
end Go.Proofs.YtfdlllpjempjoaaDoor
