/-
  LinkOrders at whatever its argument reads as.
  No condition.
-/
import Derived.Test.YtoeokdachojhjaaTwoH
import Derived.Test.YtoeokdachojhjaaLinkOpen
namespace Go.Proofs.Ytoeokdachojhjaa
open Go.ChangeShapes Go.WideShapes Go.ChangeAt Go.RowKit Go.Deep
set_option linter.unusedSectionVars false
set_option linter.unusedVariables false

theorem cellsMv : Try.prog.cellsOf 35 = 3 := by kernel_rfl
theorem cellsB : Try.prog.cellsOf 4 = 1 := by kernel_rfl

section
variable {H : Type} {enc : TypeId × Value → H} {w : World} {base : Nat} {spare : Nat → Bool} {held : Bool} {base' : Nat}

theorem open_move (fuel : Nat) (cs : List Value) (x : DataW H × List MemPlace) (hl : cs.length = 3) (h : DataW.trod enc Try.prog w base spare held fuel 35 cs = some x) : ∃ p : Mv, cs = p.cells ∧ p.wf := by
  obtain ⟨ys, n, _, _, _, hy, hf⟩ := DataW.trod_struct Try.underlying35 h
  match cs, hl with
  | [c0, c1, c2], _ =>
    obtain ⟨a, rfl, ha⟩ := field_int hy hf 0 _ rfl Try.underlying3 cellsI _ rfl
    obtain ⟨b, rfl, hb⟩ := field_int hy hf 1 _ rfl Try.underlying3 cellsI _ rfl
    obtain ⟨y, hy1, hr⟩ := field_read hy hf 2 _ rfl
    have hr : DataW.trod enc Try.prog w base spare held n 4 (([.int .i64 a, .int .i64 b, c2].drop 2).take (Try.prog.cellsOf 4)) = some y := hr
    rw [cellsB] at hr
    obtain ⟨s, h1, _⟩ := DataW.trod_bool Try.underlying4 hr
    have h1 : [c2] = [.bool s] := h1
    injection h1 with h1 _
    subst h1
    exact ⟨⟨a, b, s⟩, rfl, int_wf ha, int_wf hb⟩

theorem open_moves {v : Value} {d : DataW H} {p : List MemPlace} (k : DataW.Trod enc Try.prog w base spare held 22 v d p) (o : Value.okWide Try.prog w .any base' 22 v) :
    ∃ (a : Option Addr) (cap : Nat) (l : List Mv), v = .slice a l.length cap ∧ Rd w 3 a l.length cap (l.flatMap Mv.cells) ∧ ∀ x ∈ l, Mv.wf x := by
  obtain ⟨f, k⟩ := k
  obtain ⟨a, n, cap, rfl⟩ := okWide_slice Try.underlying22 o
  obtain ⟨a', cap', l, D, D', h1, hr, hx, hD, hok⟩ := open_rows cellsMv (by omega) Mv.cells mvlen (fun p _ => p.wf) open_move Try.underlying22 k
  simp only [Value.cells, List.cons.injEq, Value.slice.injEq, and_true] at h1
  obtain ⟨rfl, rfl, rfl⟩ := h1
  refine ⟨a, cap, l, rfl, hr, fun x hxm => ?_⟩
  obtain ⟨i, hi, rfl⟩ := List.mem_iff_getElem.1 hxm
  exact hok i l[i] (D[i]'(by omega)) (List.getElem?_eq_getElem hi) (List.getElem?_eq_getElem _)
end

theorem orders_contract {H : Type} {enc : TypeId × Value → H} (W : World) (base : Nat) (v0 : Value) (d0 : DataW H) (p0 : List MemPlace)
    (k0 : DataW.Trod enc Try.prog W 0 (fun _ => true) true 22 v0 d0 p0)
    (o0 : Value.okWide Try.prog W .any base 22 v0)
    (hsz : (DataW.weightsEach Try.prog [22] [d0]).all (· ≤ reachBytes) = true) :
    Calls Try.prog 3 #[v0] W (AwakePost W) := by
  obtain ⟨a, cap, l, rfl, hr, hok⟩ := open_moves k0 o0
  exact orders_walk a cap _ l rfl (rd_len hr) hok W hr
end Go.Proofs.Ytoeokdachojhjaa
