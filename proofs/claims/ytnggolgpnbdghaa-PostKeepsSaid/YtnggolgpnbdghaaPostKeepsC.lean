/-
  PostKeeps at whatever its arguments read as: the readings are opened, and the walk is called.
  No condition.
-/
import Derived.Test.YtnggolgpnbdghaaPostKeeps
import Derived.Test.YtnggolgpnbdghaaPostOpen
namespace Go.Proofs.Ytnggolgpnbdghaa
open Go.ChangeShapes Go.WideShapes Go.ChangeAt Go.RowKit Go.Deep
set_option linter.unusedVariables false

theorem keeps_contract {H : Type} {enc : TypeId × Value → H} (W : World) (base : Nat) (v0 : Value) (d0 : DataW H) (p0 : List MemPlace) (v1 : Value) (d1 : DataW H) (p1 : List MemPlace)
    (k0 : DataW.Trod enc Try.prog W 0 (fun _ => true) true 22 v0 d0 p0) (k1 : DataW.Trod enc Try.prog W 0 (fun _ => true) true 23 v1 d1 p1)
    (o0 : Value.okWide Try.prog W .any base 22 v0) (o1 : Value.okWide Try.prog W .any base 23 v1)
    (hsz : (DataW.weightsEach Try.prog [22, 23] [d0, d1]).all (· ≤ reachBytes) = true) :
    Calls Try.prog 3 #[v0, v1] W (AwakePost W) := by
  obtain ⟨f0, k0⟩ := k0
  obtain ⟨f1, k1⟩ := k1
  obtain ⟨a, n, cap, rfl⟩ := okWide_slice Try.underlying22 o0
  obtain ⟨b, m, cap', rfl⟩ := okWide_slice Try.underlying23 o1
  obtain ⟨a', c', xs, D, D', h1, h2, h3⟩ := open_packets k0
  obtain ⟨b', c'', ts, g1, g2, g3⟩ := open_intlist k1
  simp only [Value.cells, List.cons.injEq, Value.slice.injEq, and_true] at h1 g1
  obtain ⟨rfl, rfl, rfl⟩ := h1
  obtain ⟨rfl, rfl, rfl⟩ := g1
  refine keeps_walk a cap xs b cap' ts W h2 g2 g3 (fits_of_weight h3 fun x hx => ?_)
  have := List.all_eq_true.1 hsz x (by simp [DataW.weightsEach, hx])
  simpa using this
end Go.Proofs.Ytnggolgpnbdghaa
