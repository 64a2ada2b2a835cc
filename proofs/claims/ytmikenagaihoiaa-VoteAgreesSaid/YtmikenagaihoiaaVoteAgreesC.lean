/-
  VoteAgrees at whatever its arguments read as.
  No condition.
-/
import Derived.Test.YtmikenagaihoiaaVoteP
namespace Go.Proofs.Ytmikenagaihoiaa
open Go.ChangeShapes Go.WideShapes Go.ChangeAt Go.RowKit Go.Deep
set_option linter.unusedSectionVars false
set_option linter.unusedVariables false

theorem rd_len2 {w : World} {k : Nat} {a : Option Addr} {n cap : Nat} {cs : List Value} (h : Rd w k a n cap cs) : n ≤ 2 ^ 63 - 1 := by have := h.2.1; have := h.2.2.1; unfold maxLen at this; omega
theorem map_flat1 (l : List Int) : l.flatMap (fun x => [Value.int .i64 x]) = l.map (Value.int .i64) := by
  induction l with
  | nil => rfl
  | cons y ys ih => rw [List.map_cons, List.flatMap_cons, ih]; rfl

section
variable {H : Type} {enc : TypeId × Value → H} {w : World} {base : Nat} {spare : Nat → Bool} {held : Bool} {base' : Nat}
theorem open_ints {v : Value} {d : DataW H} {p : List MemPlace} (k : DataW.Trod enc Try.prog w base spare held 38 v d p) (o : Value.okWide Try.prog w .any base' 38 v) :
    ∃ (a : Option Addr) (cap : Nat) (l : List Int), v = .slice a l.length cap ∧ Rd w 1 a l.length cap (l.map (Value.int .i64)) ∧ ∀ x ∈ l, wf64 x := by
  obtain ⟨f, k⟩ := k
  obtain ⟨a, n, cap, rfl⟩ := okWide_slice Try.underlying38 o
  obtain ⟨a', cap', l, D, D', h1, hr, hx, hD, hok⟩ := open_rows (α := Int) cellsI (by omega) (fun s => [Value.int .i64 s]) (fun _ => rfl) (fun p _ => wf64 p) (fun fuel cs x hl h => by
    obtain ⟨n, h1, _, h2⟩ := DataW.trod_int Try.underlying3 h
    exact ⟨n, h1, int_wf h2⟩) Try.underlying38 k
  simp only [Value.cells, List.cons.injEq, Value.slice.injEq, and_true] at h1
  obtain ⟨rfl, rfl, rfl⟩ := h1
  rw [map_flat1] at hr
  refine ⟨a, cap, l, rfl, hr, fun x hxm => ?_⟩
  obtain ⟨i, hi, rfl⟩ := List.mem_iff_getElem.1 hxm
  exact hok i l[i] (D[i]'(by omega)) (List.getElem?_eq_getElem hi) (List.getElem?_eq_getElem _)
end

theorem agrees_contract {H : Type} {enc : TypeId × Value → H} (W : World) (base : Nat) (v0 : Value) (d0 : DataW H) (p0 : List MemPlace) (v1 : Value) (d1 : DataW H) (p1 : List MemPlace)
    (k0 : DataW.Trod enc Try.prog W 0 (fun _ => true) true 27 v0 d0 p0) (k1 : DataW.Trod enc Try.prog W 0 (fun _ => true) true 38 v1 d1 p1)
    (o0 : Value.okWide Try.prog W .any base 27 v0) (o1 : Value.okWide Try.prog W .any base 38 v1)
    (hsz : (DataW.weightsEach Try.prog [27, 38] [d0, d1]).all (· ≤ reachBytes) = true) :
    Calls Try.prog 5 #[v0, v1] W (CopyPost (.bool true) W) := by
  obtain ⟨a0, c0, ns, rfl, hr0, h0⟩ := open_notes k0 o0
  obtain ⟨a1, c1, raw, rfl, hr1, h1⟩ := open_ints k1 o1
  exact agrees_walk a0 a1 _ c0 _ c1 ns raw rfl rfl (rd_len2 hr0) (rd_len2 hr1) h1 W hr0 hr1
end Go.Proofs.Ytmikenagaihoiaa
