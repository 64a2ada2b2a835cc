/-
  AclAnyone, for arguments as they come in.
  No condition.
-/
import Derived.Test.YtamacndbkjpkaaaDoorAclAnyone
namespace Go.Proofs.YtamacndbkjpkaaaDoor
open Go.ChangeShapes Go.WideShapes Go.ChangeAt Go.RowKit
set_option linter.unusedVariables false

theorem aclAnyone_contract {H : Type} {enc : TypeId × Value → H} (W : World) (base : Nat) (v0 : Value) (d0 : DataW H) (p0 : List MemPlace) (v1 : Value) (d1 : DataW H) (p1 : List MemPlace) (v2 : Value) (d2 : DataW H) (p2 : List MemPlace)
    (k0 : DataW.Trod enc Tryd.prog W 0 (fun _ => true) true 22 v0 d0 p0) (k1 : DataW.Trod enc Tryd.prog W 0 (fun _ => true) true 3 v1 d1 p1) (k2 : DataW.Trod enc Tryd.prog W 0 (fun _ => true) true 25 v2 d2 p2)
    (o0 : Value.okWide Tryd.prog W .any base 22 v0) (o1 : Value.okWide Tryd.prog W .any base 3 v1) (o2 : Value.okWide Tryd.prog W .any base 25 v2) (hT : Tab W)
    (hsz : (DataW.weightsEach Tryd.prog [22, 3, 25] [d0, d1, d2]).all (· ≤ reachBytes) = true) :
    Calls Tryd.prog 7 #[v0, v1, v2] W (CopyPost (.bool true) W) := by
  obtain ⟨a, cap, l, rfl, hr, hl, hf⟩ := open_acls k0 o0 (each3 hsz).1
  obtain ⟨p, rfl, hp⟩ := open_int k1 o1
  obtain ⟨ia, icap, ids, rfl, hi, hil⟩ := open_strs k2 o2 (each3 hsz).2.2
  exact anyone_any a _ cap l p ia _ icap ids W hT hr rfl hl hi rfl
end Go.Proofs.YtamacndbkjpkaaaDoor
