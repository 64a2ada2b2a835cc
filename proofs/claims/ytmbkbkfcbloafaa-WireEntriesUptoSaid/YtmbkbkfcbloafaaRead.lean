/-
  What a reading of an argument says of its cells: fields of a struct, elements of a slice.
  No condition.
-/
import Derived.Test.YtmbkbkfcbloafaaLib
import Derived.ChangeOld
import Derived.Deep.Slices
import Derived.SizedLaws
namespace Go.Proofs.Ytmbkbkfcbloafaa
open Go.ChangeShapes Go.WideShapes Go.ChangeAt Go.RowKit Go.Deep
set_option linter.unusedSectionVars false
set_option linter.unusedSimpArgs false
set_option linter.unusedVariables false

section
variable {H : Type} {enc : TypeId × Value → H} {P : Program} {w : World} {base : Nat} {spare : Nat → Bool} {held : Bool}

/-- A field's own reading. -/
theorem field_read {fs : Array Field} {cs : List Value} {ys : List (DataW H × List MemPlace)} {n : Nat} (hlen : ys.length = fs.size)
    (hf : ∀ (i : Nat) (f : Field), fs[i]? = some f → DataW.trod enc P w base spare held n f.type ((cs.drop f.offset).take (P.cellsOf f.type)) = ys[i]?) (i : Nat) (f : Field) (hi : fs[i]? = some f) :
    ∃ y, ys[i]? = some y ∧ DataW.trod enc P w base spare held n f.type ((cs.drop f.offset).take (P.cellsOf f.type)) = some y := by
  have hlt : i < ys.length := by rw [hlen]; exact (Array.getElem?_eq_some_iff.1 hi).1
  exact ⟨ys[i], List.getElem?_eq_getElem hlt, by rw [hf i f hi]; exact List.getElem?_eq_getElem hlt⟩

theorem one_cell {cs : List Value} {o : Nat} {v : Value} (hv : cs[o]? = some v) : (cs.drop o).take 1 = [v] := by
  obtain ⟨h, rfl⟩ := List.getElem?_eq_some_iff.1 hv
  rw [List.drop_eq_getElem_cons h]; rfl

theorem field_int {fs : Array Field} {cs : List Value} {ys : List (DataW H × List MemPlace)} {n : Nat} (hlen : ys.length = fs.size)
    (hf : ∀ (i : Nat) (f : Field), fs[i]? = some f → DataW.trod enc P w base spare held n f.type ((cs.drop f.offset).take (P.cellsOf f.type)) = ys[i]?) (i : Nat) (f : Field) (hi : fs[i]? = some f)
    {k : IntKind} (hu : P.underlying f.type = some (.int k)) (hc : P.cellsOf f.type = 1) (v : Value) (hv : cs[f.offset]? = some v) : ∃ x, v = .int k x ∧ (Lit.int k x).wf = true := by
  obtain ⟨y, _, h⟩ := field_read hlen hf i f hi
  rw [hc, one_cell hv] at h
  obtain ⟨x, h1, _, h2⟩ := DataW.trod_int hu h
  exact ⟨x, by simpa using h1, h2⟩

theorem field_string {fs : Array Field} {cs : List Value} {ys : List (DataW H × List MemPlace)} {n : Nat} (hlen : ys.length = fs.size)
    (hf : ∀ (i : Nat) (f : Field), fs[i]? = some f → DataW.trod enc P w base spare held n f.type ((cs.drop f.offset).take (P.cellsOf f.type)) = ys[i]?) (i : Nat) (f : Field) (hi : fs[i]? = some f)
    (hu : P.underlying f.type = some .string) (hc : P.cellsOf f.type = 1) (v : Value) (hv : cs[f.offset]? = some v) : ∃ x : ByteArray, v = .string x ∧ x.size ≤ maxLen ∧ ∃ y, ys[i]? = some y ∧ y.1 = .lit (.string x.data.toList) := by
  obtain ⟨y, hy, h⟩ := field_read hlen hf i f hi
  rw [hc, one_cell hv] at h
  obtain ⟨x, h1, h3, h2⟩ := DataW.trod_string hu h
  exact ⟨x, by simpa using h1, h2, y, hy, by rw [h3]⟩

/-- A slice that came in, by a reading of its elements: 'E' is what one element's cells are. -/
theorem open_list {α : Type} [Inhabited α] {t e : TypeId} {k : Nat} (hk : P.cellsOf e = k) (cells : α → List Value) (hcl : ∀ x, (cells x).length = k) (ok : α → DataW H → Prop)
    (hone : ∀ fuel (cs : List Value) x, cs.length = k → DataW.trod enc P w base spare held fuel e cs = some x → ∃ p, cs = cells p ∧ ok p x.1)
    {fuel : Nat} {cs : List Value} {x : DataW H × List MemPlace} (ht : P.underlying t = some (.slice e)) (h : DataW.trod enc P w base spare held fuel t cs = some x) :
    ∃ (a : Option Addr) (n cap : Nat) (xs : List α) (D : List (DataW H)) (D' : List (DataW H)), cs = [.slice a n cap] ∧ xs.length = n ∧ n ≤ cap ∧ cap ≤ maxLen ∧ (x.1 = .nil ∧ a = none ∧ n = 0 ∧ cap = 0 ∧ D = [] ∨ x.1 = .slice D D' ∧ a.isSome = true) ∧ D.length = n ∧
      (∀ (i : Nat) (p : α) (d : DataW H), xs[i]? = some p → D[i]? = some d → ok p d) ∧ ((a = none ∧ cap = 0) ∨ ∃ y, a = some y ∧ ∀ (i : Nat) (p : α), xs[i]? = some p → ∀ (j : Nat) (u : Value), (cells p)[j]? = some u → w.cell? (y.add (i * k + j)) = some u) := by
  rcases open_slice ht h with ⟨rfl, rfl⟩ | ⟨a, len, cap, m, n, D, Pl, rfl, hb, hl, hm, hmm, rfl, hx⟩
  · exact ⟨none, 0, 0, [], [], [], rfl, rfl, Nat.le_refl _, Nat.zero_le _, .inl ⟨rfl, rfl, rfl, rfl, rfl⟩, rfl, fun i p d h => by simp at h, .inl ⟨rfl, rfl⟩⟩
  · have hle : len ≤ m := by rw [hmm]; split <;> omega
    have hall : ∀ i, i < len → ∃ p : α, (∀ j u, (cells p)[j]? = some u → w.cell? (a.add (i * k + j)) = some u) ∧ ok p (D i) := fun i hi => by
      obtain ⟨cs', h1, h2⟩ := hx i (by omega)
      obtain ⟨_, hlen, hat⟩ := World.cells?_some h1
      obtain ⟨p, rfl, hok⟩ := hone _ _ _ (by rw [hlen, hk]) h2
      refine ⟨p, fun j u hu => ?_, hok⟩
      have hj : j < (cells p).length := (List.getElem?_eq_some_iff.1 hu).1
      have := hat j (by rw [← hlen]; exact hj)
      rw [hk, Go.Deep.add_add] at this
      rw [this]; exact hu
    obtain ⟨f, hf⟩ := choose_lt hall
    refine ⟨some a, len, cap, (List.range len).map f, (List.range len).map D, _, rfl, by simp, hl, hm, .inr ⟨rfl, rfl⟩, by simp, fun i p d hp hd => ?_, .inr ⟨a, rfl, fun i p hp j u hu => ?_⟩⟩
    · simp only [List.getElem?_map] at hp hd
      obtain ⟨i', hi', rfl⟩ := Option.map_eq_some_iff.1 hp
      have hlt := (List.getElem?_eq_some_iff.1 hi').1
      rw [List.getElem?_range (by simpa using hlt)] at hi' hd
      simp at hi' hd
      subst hi'; subst hd
      exact (hf i (by simpa using hlt)).2
    · simp only [List.getElem?_map] at hp
      obtain ⟨i', hi', rfl⟩ := Option.map_eq_some_iff.1 hp
      have hlt := (List.getElem?_eq_some_iff.1 hi').1
      rw [List.getElem?_range (by simpa using hlt)] at hi'
      simp at hi'
      subst hi'
      exact (hf i (by simpa using hlt)).1 j u hu
end
end Go.Proofs.Ytmbkbkfcbloafaa
