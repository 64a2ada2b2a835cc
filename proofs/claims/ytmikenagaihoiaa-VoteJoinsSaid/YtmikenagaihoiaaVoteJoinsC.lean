/-
  VoteJoins at whatever its arguments read as.
  No condition.
-/
import Derived.Test.YtmikenagaihoiaaVoteJoins
namespace Go.Proofs.Ytmikenagaihoiaa
open Go.ChangeShapes Go.WideShapes Go.ChangeAt Go.RowKit Go.Deep
set_option linter.unusedSectionVars false
set_option linter.unusedVariables false

theorem rd_len {w : World} {k : Nat} {a : Option Addr} {n cap : Nat} {cs : List Value} (h : Rd w k a n cap cs) : n ≤ 2 ^ 63 - 1 := by have := h.2.1; have := h.2.2.1; unfold maxLen at this; omega

theorem joins_contract {H : Type} {enc : TypeId × Value → H} (W : World) (base : Nat) (v0 : Value) (d0 : DataW H) (p0 : List MemPlace) (v1 : Value) (d1 : DataW H) (p1 : List MemPlace) (v2 : Value) (d2 : DataW H) (p2 : List MemPlace) (v3 : Value) (d3 : DataW H) (p3 : List MemPlace) (v4 : Value) (d4 : DataW H) (p4 : List MemPlace)
    (k0 : DataW.Trod enc Try.prog W 0 (fun _ => true) true 3 v0 d0 p0) (k1 : DataW.Trod enc Try.prog W 0 (fun _ => true) true 3 v1 d1 p1) (k2 : DataW.Trod enc Try.prog W 0 (fun _ => true) true 3 v2 d2 p2) (k3 : DataW.Trod enc Try.prog W 0 (fun _ => true) true 27 v3 d3 p3) (k4 : DataW.Trod enc Try.prog W 0 (fun _ => true) true 3 v4 d4 p4)
    (o0 : Value.okWide Try.prog W .any base 3 v0) (o1 : Value.okWide Try.prog W .any base 3 v1) (o2 : Value.okWide Try.prog W .any base 3 v2) (o3 : Value.okWide Try.prog W .any base 27 v3) (o4 : Value.okWide Try.prog W .any base 3 v4)
    (hsz : (DataW.weightsEach Try.prog [3, 3, 3, 27, 3] [d0, d1, d2, d3, d4]).all (· ≤ reachBytes) = true) :
    Calls Try.prog 4 #[v0, v1, v2, v3, v4] W (CopyPost (.bool true) W) := by
  obtain ⟨sv, rfl, h0⟩ := open_int k0 o0
  obtain ⟨ep, rfl, h1⟩ := open_int k1 o1
  obtain ⟨zx, rfl, h2⟩ := open_int k2 o2
  obtain ⟨a1, cap1, before, rfl, hr1, hok⟩ := open_notes k3 o3
  obtain ⟨rd, rfl, h4⟩ := open_int k4 o4
  exact joins_walk sv ep zx rd h0 h4 a1 cap1 _ before rfl W hr1 (rd_len hr1)
end Go.Proofs.Ytmikenagaihoiaa
