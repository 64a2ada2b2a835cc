/-
  The arguments of the codec's laws, opened: texts, ints, items.
  No condition.
-/
import Derived.Test.YtecckgapdpmegaaCodecW
import Derived.Test.YtecckgapdpmegaaRead
namespace Go.Proofs.Ytecckgapdpmegaa
open Go.ChangeShapes Go.WideShapes Go.ChangeAt Go.RowKit Go.Deep
set_option linter.unusedSectionVars false
set_option linter.unusedSimpArgs false
set_option linter.unusedVariables false

theorem laidOut : laidOutB Try.prog = true := by kernel_rfl
theorem ownsNone : ownKnob Try.prog.godebug = none := by kernel_rfl
theorem cellsI : Try.prog.cellsOf 3 = 1 := by kernel_rfl
theorem cellsBo : Try.prog.cellsOf 4 = 1 := by kernel_rfl
theorem cellsS : Try.prog.cellsOf 9 = 1 := by kernel_rfl
theorem cellsT : Try.prog.cellsOf 29 = 4 := by kernel_rfl
theorem bytesT : Try.prog.bytesOf 29 = 40 := by kernel_rfl

/-- One item. -/
structure It where
  kind : Int
  n : Int
  is : Bool
  s : ByteArray
def It.cells (x : It) : List Value := [.int .i64 x.kind, .int .i64 x.n, .bool x.is, .string x.s]
def itCells : List It → List Value
  | [] => []
  | x :: l => x.cells ++ itCells l
theorem itCells_length : ∀ l : List It, (itCells l).length = l.length * 4
  | [] => rfl
  | x :: l => by rw [itCells, List.length_append, itCells_length l, List.length_cons, show x.cells.length = 4 from rfl]; omega
def It.ok (x : It) : Prop := (-9223372036854775808 ≤ x.n ∧ x.n ≤ 9223372036854775807) ∧ bfits x.s.size
instance : Inhabited It := ⟨⟨0, 0, false, ByteArray.empty⟩⟩

theorem itCells_get : ∀ (l : List It) (i : Nat) (x : It) (j : Nat) (u : Value), l[i]? = some x → x.cells[j]? = some u → (itCells l)[i * 4 + j]? = some u
  | [], i, x, j, u, h, _ => by simp at h
  | y :: l, 0, x, j, u, h, hu => by
    simp only [List.getElem?_cons_zero, Option.some.injEq] at h
    subst h
    have hj : j < y.cells.length := (List.getElem?_eq_some_iff.1 hu).1
    rw [itCells, Nat.zero_mul, Nat.zero_add, List.getElem?_append_left hj]; exact hu
  | y :: l, i + 1, x, j, u, h, hu => by
    have hl : y.cells.length = 4 := rfl
    rw [itCells, List.getElem?_append_right (by omega), hl, show (i + 1) * 4 + j - 4 = i * 4 + j by omega]
    exact itCells_get l i x j u (by simpa using h) hu

theorem int_range {n : Int} (hw : (Lit.int .i64 n).wf = true) : -9223372036854775808 ≤ n ∧ n ≤ 9223372036854775807 := by
  simpa [Lit.wf, IntKind.min, IntKind.max, IntKind.signed, IntKind.bits] using hw

section
variable {H : Type} {enc : TypeId × Value → H} {w : World} {base base' : Nat} {spare : Nat → Bool} {held : Bool}

theorem open_str {v : Value} {d : DataW H} {p : List MemPlace} (k : DataW.Trod enc Try.prog w base spare held 9 v d p) (o : Value.okWide Try.prog w .any base' 9 v)
    (hw : ∀ x ∈ d.weights Try.prog 9, x ≤ reachBytes) : ∃ s : ByteArray, v = .string s ∧ bfits s.size := by
  obtain ⟨f, k⟩ := k
  obtain ⟨s, rfl⟩ := okWide_string Try.underlying9 o
  obtain ⟨x, h1, h3, h2⟩ := DataW.trod_string Try.underlying9 k
  simp only [Value.cells, List.cons.injEq, Value.string.injEq, and_true] at h1
  subst h1
  refine ⟨s, rfl, ?_⟩
  obtain ⟨rfl, -⟩ := Prod.mk.inj h3
  have := hw s.data.toList.length (by simp [DataW.weights])
  rw [Array.length_toList] at this
  unfold reachBytes at this
  unfold bfits
  show s.data.size ≤ _
  omega

theorem open_int {v : Value} {d : DataW H} {p : List MemPlace} (k : DataW.Trod enc Try.prog w base spare held 3 v d p) (o : Value.okWide Try.prog w .any base' 3 v) : ∃ n : Int, v = .int .i64 n ∧ -9223372036854775808 ≤ n ∧ n ≤ 9223372036854775807 := by
  obtain ⟨f, k⟩ := k
  obtain ⟨s, rfl⟩ := okWide_int Try.underlying3 o
  obtain ⟨n, h1, _, h2⟩ := DataW.trod_int Try.underlying3 k
  simp only [Value.cells, List.cons.injEq, Value.int.injEq, and_true, true_and] at h1
  subst h1
  exact ⟨s, rfl, int_range h2⟩
end
end Go.Proofs.Ytecckgapdpmegaa
