/-
  The arguments of the laws of votes, opened: ints, notes, lists of notes, lists of ints.
  No condition.
-/
import Derived.Test.YtmikenagaihoiaaVoteOrder
import Derived.Test.YtmikenagaihoiaaRead
namespace Go.Proofs.Ytmikenagaihoiaa
open Go.ChangeShapes Go.WideShapes Go.ChangeAt Go.RowKit Go.Deep
set_option linter.unusedSectionVars false
set_option linter.unusedSimpArgs false
set_option linter.unusedVariables false

theorem laidOut : laidOutB Try.prog = true := by kernel_rfl
theorem ownsNone : ownKnob Try.prog.godebug = none := by kernel_rfl
theorem cellsI : Try.prog.cellsOf 3 = 1 := by kernel_rfl
theorem cellsNo : Try.prog.cellsOf 23 = 6 := by kernel_rfl
instance : Inhabited No := ⟨⟨0, 0, 0, 0, 0, 0⟩⟩
theorem nolen (n : No) : n.cells.length = 6 := rfl

def No.wf (n : No) : Prop := wf64 n.fr ∧ wf64 n.st ∧ wf64 n.ro ∧ wf64 n.le ∧ wf64 n.ep ∧ wf64 n.zx

section
variable {H : Type} {enc : TypeId × Value → H} {w : World} {base : Nat} {spare : Nat → Bool} {held : Bool} {base' : Nat}

theorem open_int {v : Value} {d : DataW H} {p : List MemPlace} (k : DataW.Trod enc Try.prog w base spare held 3 v d p) (o : Value.okWide Try.prog w .any base' 3 v) : ∃ n : Int, v = .int .i64 n ∧ wf64 n := by
  obtain ⟨f, k⟩ := k
  obtain ⟨s, rfl⟩ := okWide_int Try.underlying3 o
  obtain ⟨n, h1, _, h2⟩ := DataW.trod_int Try.underlying3 k
  simp only [Value.cells, List.cons.injEq, Value.int.injEq, and_true, true_and] at h1
  subst h1
  exact ⟨s, rfl, int_wf h2⟩

theorem open_note (fuel : Nat) (cs : List Value) (x : DataW H × List MemPlace) (hl : cs.length = 6) (h : DataW.trod enc Try.prog w base spare held fuel 23 cs = some x) : ∃ p : No, cs = p.cells ∧ p.wf := by
  obtain ⟨ys, n, _, _, _, hy, hf⟩ := DataW.trod_struct Try.underlying23 h
  match cs, hl with
  | [c0, c1, c2, c3, c4, c5], _ =>
    obtain ⟨a, rfl, h0⟩ := field_int hy hf 0 _ rfl Try.underlying3 cellsI _ rfl
    obtain ⟨b, rfl, h1⟩ := field_int hy hf 1 _ rfl Try.underlying3 cellsI _ rfl
    obtain ⟨c, rfl, h2⟩ := field_int hy hf 2 _ rfl Try.underlying3 cellsI _ rfl
    obtain ⟨d, rfl, h3⟩ := field_int hy hf 3 _ rfl Try.underlying3 cellsI _ rfl
    obtain ⟨e, rfl, h4⟩ := field_int hy hf 4 _ rfl Try.underlying3 cellsI _ rfl
    obtain ⟨f, rfl, h5⟩ := field_int hy hf 5 _ rfl Try.underlying3 cellsI _ rfl
    exact ⟨⟨a, b, c, d, e, f⟩, rfl, int_wf h0, int_wf h1, int_wf h2, int_wf h3, int_wf h4, int_wf h5⟩

theorem open_No {v : Value} {d : DataW H} {p : List MemPlace} (k : DataW.Trod enc Try.prog w base spare held 23 v d p) (o : Value.okWide Try.prog w .any base' 23 v) : ∃ x : No, v = x.agg ∧ x.wf := by
  obtain ⟨f, k⟩ := k
  obtain ⟨cs, rfl, hl⟩ := okWide_struct Try.underlying23 o
  have hl : cs.toList.length = 6 := by rw [Array.length_toList, hl, cellsNo]
  obtain ⟨l, rfl⟩ : ∃ l : List Value, cs = l.toArray := ⟨cs.toList, by simp⟩
  simp only [Value.cells] at k hl
  obtain ⟨x, hx, hw⟩ := open_note f l _ hl k
  exact ⟨x, by rw [hx]; rfl, hw⟩

theorem open_notes {v : Value} {d : DataW H} {p : List MemPlace} (k : DataW.Trod enc Try.prog w base spare held 27 v d p) (o : Value.okWide Try.prog w .any base' 27 v) :
    ∃ (a : Option Addr) (cap : Nat) (l : List No), v = .slice a l.length cap ∧ Rd w 6 a l.length cap (l.flatMap No.cells) ∧ ∀ x ∈ l, No.wf x := by
  obtain ⟨f, k⟩ := k
  obtain ⟨a, n, cap, rfl⟩ := okWide_slice Try.underlying27 o
  obtain ⟨a', cap', l, D, D', h1, hr, hx, hD, hok⟩ := open_rows cellsNo (by omega) No.cells nolen (fun p _ => p.wf) open_note Try.underlying27 k
  simp only [Value.cells, List.cons.injEq, Value.slice.injEq, and_true] at h1
  obtain ⟨rfl, rfl, rfl⟩ := h1
  refine ⟨a, cap, l, rfl, hr, fun x hxm => ?_⟩
  obtain ⟨i, hi, rfl⟩ := List.mem_iff_getElem.1 hxm
  exact hok i l[i] (D[i]'(by omega)) (List.getElem?_eq_getElem hi) (List.getElem?_eq_getElem _)

theorem order_contract {H : Type} {enc : TypeId × Value → H} (W : World) (base : Nat) (v0 : Value) (d0 : DataW H) (p0 : List MemPlace) (v1 : Value) (d1 : DataW H) (p1 : List MemPlace) (v2 : Value) (d2 : DataW H) (p2 : List MemPlace)
    (k0 : DataW.Trod enc Try.prog W 0 (fun _ => true) true 23 v0 d0 p0) (k1 : DataW.Trod enc Try.prog W 0 (fun _ => true) true 23 v1 d1 p1) (k2 : DataW.Trod enc Try.prog W 0 (fun _ => true) true 23 v2 d2 p2)
    (o0 : Value.okWide Try.prog W .any base 23 v0) (o1 : Value.okWide Try.prog W .any base 23 v1) (o2 : Value.okWide Try.prog W .any base 23 v2)
    (hsz : (DataW.weightsEach Try.prog [23, 23, 23] [d0, d1, d2]).all (· ≤ reachBytes) = true) :
    Calls Try.prog 3 #[v0, v1, v2] W (CopyPost (.bool true) W) := by
  obtain ⟨x, rfl, hx⟩ := open_No k0 o0
  obtain ⟨y, rfl, hy⟩ := open_No k1 o1
  obtain ⟨z, rfl, hz⟩ := open_No k2 o2
  exact order_walk x y z W
end
end Go.Proofs.Ytmikenagaihoiaa
