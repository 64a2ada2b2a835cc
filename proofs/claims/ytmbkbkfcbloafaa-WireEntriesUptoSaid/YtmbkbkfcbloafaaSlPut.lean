/-
  One stretch of a slice put anew.
  No condition: every law states its own.
-/
import Derived.Test.YtmbkbkfcbloafaaSt
import Derived.Test.YtmbkbkfcbloafaaFlat
namespace Go.Proofs.Ytmbkbkfcbloafaa
open Go.RowKit
set_option linter.unusedSectionVars false
set_option linter.unusedSimpArgs false
set_option linter.unusedVariables false

theorem splice_get {c : List Value} {o : Nat} {ys : List Value} (h : o + ys.length ≤ c.length) (j : Nat) : (splice c o ys)[j]? = if j < o then c[j]? else if j < o + ys.length then ys[j - o]? else c[j]? := by
  unfold splice
  by_cases h1 : j < o
  · rw [if_pos h1, List.append_assoc, List.getElem?_append_left (by rw [List.length_take]; omega), List.getElem?_take, if_pos h1]
  · rw [if_neg h1]
    by_cases h2 : j < o + ys.length
    · rw [if_pos h2, List.getElem?_append_left (by rw [List.length_append, List.length_take]; omega), List.getElem?_append_right (by rw [List.length_take]; omega), List.length_take, Nat.min_eq_left (by omega)]
    · rw [if_neg h2, List.getElem?_append_right (by rw [List.length_append, List.length_take]; omega), List.getElem?_drop, List.length_append, List.length_take]
      congr 1
      omega
theorem splice_cut {c : List Value} {off o m : Nat} {ys : List Value} (hy : o + ys.length ≤ m) (hm : off + m ≤ c.length) :
    ((splice c (off + o) ys).drop off).take m = splice ((c.drop off).take m) o ys := by
  have hl : ((c.drop off).take m).length = m := by rw [List.length_take, List.length_drop]; omega
  apply List.ext_getElem?
  intro j
  rw [List.getElem?_take, List.getElem?_drop, splice_get (by omega), splice_get (by omega), List.getElem?_take, List.getElem?_drop]
  by_cases hj : j < m
  · rw [if_pos hj]
    by_cases h1 : j < o
    · rw [if_pos (show off + j < off + o by omega), if_pos h1]; simp [hj]
    · rw [if_neg (show ¬ off + j < off + o by omega), if_neg h1]
      by_cases h2 : j < o + ys.length
      · rw [if_pos (show off + j < off + o + ys.length by omega), if_pos h2, show off + j - (off + o) = j - o by omega]
      · rw [if_neg (show ¬ off + j < off + o + ys.length by omega), if_neg h2]; simp [hj]
  · rw [if_neg hj, if_neg (show ¬ j < o by omega), if_neg (show ¬ j < o + ys.length by omega)]; simp [hj]
theorem splice_after {c : List Value} {o : Nat} {ys : List Value} (h : o + ys.length ≤ c.length) {j : Nat} (hj : o + ys.length ≤ j) : (splice c o ys)[j]? = c[j]? := by
  rw [splice_get h, if_neg (by omega), if_neg (by omega)]
/-- One stretch of a slice put anew. -/
theorem Sl.put {w w' : World} {E k b off n cap : Nat} {cs : List Value} (h : Sl w E k (some ⟨b, off, none⟩) n cap cs) {c : Array Value} (hg : w.heap[b]? = some (.cells c E (0, 0))) (o : Nat) (ys : List Value) (hy : o + ys.length ≤ n * k)
    (hw : w'.heap[b]? = some (.cells (splice c.toList (off + o) ys).toArray E (0, 0))) : Sl w' E k (some ⟨b, off, none⟩) n cap (splice cs o ys) := by
  obtain ⟨hl, hnc, hm, ⟨h0, _⟩ | ⟨b', off', c', he, h3, h4, h5⟩⟩ := h
  · cases h0
  · simp only [Option.some.injEq, Addr.mk.injEq, and_true] at he
    obtain ⟨rfl, rfl⟩ := he
    rw [hg] at h3
    simp only [Option.some.injEq, Obj.cells.injEq, and_true, true_and] at h3
    subst h3
    have hnk : n * k ≤ cap * k := Nat.mul_le_mul_right _ hnc
    have hsz : off + n * k ≤ c.toList.length := by rw [Array.length_toList]; omega
    refine ⟨by rw [splice_length (by omega)]; exact hl, hnc, hm, .inr ⟨b, off, _, rfl, hw, ?_, ?_⟩⟩
    · rw [List.size_toArray, splice_length (by omega), Array.length_toList]; exact h4
    · rw [← h5]; exact splice_cut hy hsz
theorem flat_cell {α : Type} (cells : α → List Value) {k : Nat} (hk : ∀ x, (cells x).length = k) {L : List α} {i j : Nat} {x : α} {u : Value} (hx : L[i]? = some x) (hu : (cells x)[j]? = some u) : (L.flatMap cells)[i * k + j]? = some u := flatk_get cells hk L i x j u hx hu

theorem set_splice (c : Array Value) {o : Nat} (h : o < c.size) (v : Value) : c.setIfInBounds o v = (splice c.toList o [v]).toArray := by
  apply Array.toList_inj.1
  rw [Array.toList_setIfInBounds]
  unfold splice
  have h' : o < c.toList.length := by rw [Array.length_toList]; exact h
  rw [List.set_eq_take_append_cons_drop, if_pos h']
  simp
theorem Sl.put1 {w : World} {E k b off n cap : Nat} {cs : List Value} (h : Sl w E k (some ⟨b, off, none⟩) n cap cs) {c : Array Value} (hg : w.heap[b]? = some (.cells c E (0, 0))) (hfit : off + cap * k ≤ c.size) (o : Nat) (ho : off + o < c.size) (v : Value) :
    ∃ cs', Sl (w.setCell ⟨b, off + o, none⟩ v) E k (some ⟨b, off, none⟩) n cap cs' :=
  h.poke hg hfit (off + o) [v] (by simp only [List.length_singleton]; omega) (by rw [← set_splice c ho v]; exact blk_set v hg)
end Go.Proofs.Ytmbkbkfcbloafaa
