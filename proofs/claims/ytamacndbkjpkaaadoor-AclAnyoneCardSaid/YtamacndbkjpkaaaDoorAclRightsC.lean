/-
  AclRights, for arguments as they come in.
  No condition.
-/
import Derived.Test.YtamacndbkjpkaaaDoorAclRights
import Derived.Test.YtamacndbkjpkaaaDoorAclOpen
namespace Go.Proofs.YtamacndbkjpkaaaDoor
open Go.ChangeShapes Go.WideShapes Go.ChangeAt Go.RowKit
set_option linter.unusedVariables false

theorem each1 {P : Program} {H : Type} {t : TypeId} {d : DataW H} (h : (DataW.weightsEach P [t] [d]).all (· ≤ reachBytes) = true) : ∀ x ∈ d.weights P t, x ≤ reachBytes := by
  intro x hx
  have := List.all_eq_true.1 h x (by simp [DataW.weightsEach]; exact hx)
  exact of_decide_eq_true this

theorem each3 {P : Program} {H : Type} {t0 t1 t2 : TypeId} {d0 d1 d2 : DataW H} (h : (DataW.weightsEach P [t0, t1, t2] [d0, d1, d2]).all (· ≤ reachBytes) = true) :
    (∀ x ∈ d0.weights P t0, x ≤ reachBytes) ∧ (∀ x ∈ d1.weights P t1, x ≤ reachBytes) ∧ (∀ x ∈ d2.weights P t2, x ≤ reachBytes) := by
  refine ⟨fun x hx => ?_, fun x hx => ?_, fun x hx => ?_⟩
  · exact of_decide_eq_true (List.all_eq_true.1 h x (by simp only [DataW.weightsEach, List.mem_append]; exact .inl hx))
  · exact of_decide_eq_true (List.all_eq_true.1 h x (by simp only [DataW.weightsEach, List.mem_append]; exact .inr (.inl hx)))
  · exact of_decide_eq_true (List.all_eq_true.1 h x (by simp only [DataW.weightsEach, List.mem_append]; exact .inr (.inr (.inl hx))))

theorem aclRights_contract {H : Type} {enc : TypeId × Value → H} (W : World) (base : Nat) (v0 : Value) (d0 : DataW H) (p0 : List MemPlace)
    (k0 : DataW.Trod enc Tryd.prog W 0 (fun _ => true) true 22 v0 d0 p0) (o0 : Value.okWide Tryd.prog W .any base 22 v0) (hT : Tab W)
    (hsz : (DataW.weightsEach Tryd.prog [22] [d0]).all (· ≤ reachBytes) = true) :
    Calls Tryd.prog 3 #[v0] W (CopyPost (.bool true) W) := by
  obtain ⟨a, cap, l, rfl, hr, hl, hf⟩ := open_acls k0 o0 (each1 hsz)
  exact rights_any a _ cap l W hT hr rfl hf
end Go.Proofs.YtamacndbkjpkaaaDoor
