/-
  CodecSums at whatever its argument reads as.
  No condition.
-/
import Derived.Test.YtecckgapdpmegaaCodecOpen
namespace Go.Proofs.Ytecckgapdpmegaa
open Go.ChangeShapes Go.WideShapes Go.ChangeAt Go.RowKit Go.Deep
set_option linter.unusedVariables false

theorem sums_walk (s : ByteArray) (hf : bfits s.size) (w : World) : Calls Try.prog 7 #[.string s] w (AwPost w) := by
  go_enter Try.func7, Try.ntmps7
  go_wp2_with fail
  refine (awake_any w).mono ?_
  rintro e w1 ⟨rfl, hm⟩
  go_wp2_with fail
  refine (sum_any s hf w1).mono ?_
  rintro e w2 ⟨rfl, rfl⟩
  go_wp2_with fail
  refine (rsum_any s hf _).mono ?_
  rintro e w3 ⟨rfl, rfl⟩
  go_wp2
  go_ret
  refine ⟨?_, hm⟩
  simp

theorem sums_contract {H : Type} {enc : TypeId × Value → H} (W : World) (base : Nat) (v0 : Value) (d0 : DataW H) (p0 : List MemPlace)
    (k0 : DataW.Trod enc Try.prog W 0 (fun _ => true) true 9 v0 d0 p0) (o0 : Value.okWide Try.prog W .any base 9 v0)
    (hsz : (DataW.weightsEach Try.prog [9] [d0]).all (· ≤ reachBytes) = true) :
    Calls Try.prog 7 #[v0] W (AwPost W) := by
  have hw : ∀ x ∈ d0.weights Try.prog 9, x ≤ reachBytes := fun x hx => by
    have := List.all_eq_true.1 hsz x (by simp [DataW.weightsEach, hx])
    simpa using this
  obtain ⟨s, rfl, hf⟩ := open_str k0 o0 hw
  exact sums_walk s hf W
end Go.Proofs.Ytecckgapdpmegaa
