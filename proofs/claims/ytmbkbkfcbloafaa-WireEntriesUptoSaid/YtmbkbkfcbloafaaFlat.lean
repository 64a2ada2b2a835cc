/-
  Slices whose elements have k cells each, as lists: what lies where, and how a slice that came in is opened so.
  No condition: every law states its own.
-/
import Derived.Test.YtmbkbkfcbloafaaRead
namespace Go.Proofs.Ytmbkbkfcbloafaa
open Go.ChangeShapes Go.WideShapes Go.ChangeAt Go.RowKit Go.Deep
set_option linter.unusedSectionVars false
set_option linter.unusedSimpArgs false
set_option linter.unusedVariables false

section
variable {α : Type} (cells : α → List Value) {k : Nat} (hk : ∀ x, (cells x).length = k)
include hk

theorem flatk_length : ∀ l : List α, (l.flatMap cells).length = l.length * k
  | [] => by simp
  | x :: l => by rw [List.flatMap_cons, List.length_append, flatk_length l, hk, List.length_cons, Nat.add_mul, Nat.one_mul, Nat.add_comm]

theorem flatk_get : ∀ (l : List α) (i : Nat) (x : α) (j : Nat) (u : Value), l[i]? = some x → (cells x)[j]? = some u → (l.flatMap cells)[i * k + j]? = some u
  | [], i, x, j, u, h, _ => by simp at h
  | y :: l, 0, x, j, u, h, hu => by
    simp only [List.getElem?_cons_zero, Option.some.injEq] at h
    subst h
    have hj : j < (cells y).length := (List.getElem?_eq_some_iff.1 hu).1
    rw [List.flatMap_cons, Nat.zero_mul, Nat.zero_add, List.getElem?_append_left hj]; exact hu
  | y :: l, i + 1, x, j, u, h, hu => by
    have e : (i + 1) * k + j = k + (i * k + j) := by rw [Nat.add_mul, Nat.one_mul]; omega
    rw [List.flatMap_cons, e, List.getElem?_append_right (by rw [hk]; omega), hk, Nat.add_sub_cancel_left]
    exact flatk_get l i x j u (by simpa using h) hu

theorem flatk_at (h0 : 0 < k) : ∀ (l : List α) (j : Nat) (u : Value), (l.flatMap cells)[j]? = some u → ∃ p, l[j / k]? = some p ∧ (cells p)[j % k]? = some u
  | [], j, u, h => by simp at h
  | x :: l, j, u, h => by
    rw [List.flatMap_cons] at h
    by_cases hj : j < k
    · rw [List.getElem?_append_left (by rw [hk]; exact hj)] at h
      exact ⟨x, by rw [Nat.div_eq_of_lt hj]; rfl, by rw [Nat.mod_eq_of_lt hj]; exact h⟩
    · rw [List.getElem?_append_right (by rw [hk]; omega), hk] at h
      obtain ⟨p, h1, h2⟩ := flatk_at h0 l (j - k) u h
      refine ⟨p, ?_, ?_⟩
      · rw [show j / k = (j - k) / k + 1 from by
          have := Nat.sub_mul_div j k 1
          rw [Nat.mul_one] at this
          have h3 : 1 ≤ j / k := (Nat.one_le_div_iff h0).2 (by omega)
          omega]
        exact h1
      · rw [show j % k = (j - k) % k from by rw [Nat.mod_eq_sub_mod (by omega)]]; exact h2

theorem flatk_take : ∀ (l : List α) (i : Nat), (l.flatMap cells).take (i * k) = (l.take i).flatMap cells
  | [], i => by simp
  | x :: l, 0 => by simp
  | x :: l, i + 1 => by
    rw [List.flatMap_cons, List.take_succ_cons, List.flatMap_cons, ← flatk_take l i, show (i + 1) * k = (cells x).length + i * k from by rw [hk, Nat.add_mul, Nat.one_mul, Nat.add_comm], List.take_length_add_append]
theorem flatk_drop : ∀ (l : List α) (i : Nat), (l.flatMap cells).drop (i * k) = (l.drop i).flatMap cells
  | [], i => by simp
  | x :: l, 0 => by simp
  | x :: l, i + 1 => by
    rw [List.flatMap_cons, List.drop_succ_cons, ← flatk_drop l i, show (i + 1) * k = (cells x).length + i * k from by rw [hk, Nat.add_mul, Nat.one_mul, Nat.add_comm], List.drop_length_add_append]

/-- One element's cells in a slice that is read. -/
theorem Rd.elem {w : World} {a : Option Addr} {n cap : Nat} {l : List α} (h : Rd w k a n cap (l.flatMap cells)) (h0 : 0 < k) {i : Nat} {x : α} (hx : l[i]? = some x) :
    ∃ b o, a = some ⟨b, o, none⟩ ∧ b < w.heap.size ∧ ∀ j u, (cells x)[j]? = some u → w.cell? ⟨b, o + i * k + j, none⟩ = some u := by
  have hlt : i < l.length := (List.getElem?_eq_some_iff.1 hx).1
  obtain ⟨hl, hn, hm, ⟨rfl, hc0⟩ | ⟨y, rfl, hc⟩⟩ := h
  · rw [flatk_length cells hk] at hl
    have : n = l.length := (Nat.eq_of_mul_eq_mul_right h0 hl).symm
    omega
  · have key : ∀ j u, (cells x)[j]? = some u → w.cell? (y.add (i * k + j)) = some u := fun j u hu => hc _ _ (flatk_get cells hk l i x j u hx hu)
    obtain ⟨b, o, sp⟩ := y
    have h00 : ∃ u, (cells x)[0]? = some u := ⟨_, List.getElem?_eq_getElem (by rw [hk]; exact h0)⟩
    obtain ⟨u0, hu0⟩ := h00
    have hs : sp = none := by
      have hl0 : 0 < l.length := by omega
      have hz : ∃ u, (cells l[0])[0]? = some u := ⟨_, List.getElem?_eq_getElem (by rw [hk]; exact h0)⟩
      obtain ⟨uz, huz⟩ := hz
      have := hc 0 uz (by have := flatk_get cells hk l 0 l[0] 0 uz (List.getElem?_eq_getElem hl0) huz; simpa using this)
      simp [Addr.add, World.cell?] at this
      split at this
      · cases sp <;> simp at this ⊢
      · cases this
    subst hs
    simp only [add_none] at key
    refine ⟨b, o, rfl, World.block_lt_of_cell? w _ (key 0 u0 hu0), fun j u hu => ?_⟩
    rw [Nat.add_assoc]; exact key j u hu
end

theorem Rd.lt {w : World} {k : Nat} {a : Option Addr} {n cap : Nat} {cs : List Value} (h : Rd w k a n cap cs) (hn : 0 < n * k) : ∀ b, own a = some b → b < w.heap.size := by
  obtain ⟨hl, hnc, hm, ⟨rfl, hc0⟩ | ⟨y, rfl, hc⟩⟩ := h
  · intro b hb; simp [own] at hb
  · intro b hb
    have h0 : 0 < cs.length := by omega
    have := World.block_lt_of_cell? w _ (hc 0 _ (List.getElem?_eq_getElem h0))
    have e : (y.add 0).block = y.block := by unfold Addr.add; split <;> rfl
    rw [e] at this
    simp [own] at hb
    omega

section
variable {H : Type} {enc : TypeId × Value → H} {P : Program} {w : World} {base : Nat} {spare : Nat → Bool} {held : Bool}

/-- A slice that came in, by a reading of its elements. -/
theorem open_rows {α : Type} [Inhabited α] {t e : TypeId} {k : Nat} (hk : P.cellsOf e = k) (h0 : 0 < k) (cells : α → List Value) (hcl : ∀ x, (cells x).length = k) (ok : α → DataW H → Prop)
    (hone : ∀ fuel (cs : List Value) x, cs.length = k → DataW.trod enc P w base spare held fuel e cs = some x → ∃ p, cs = cells p ∧ ok p x.1)
    {fuel : Nat} {cs : List Value} {x : DataW H × List MemPlace} (ht : P.underlying t = some (.slice e)) (h : DataW.trod enc P w base spare held fuel t cs = some x) :
    ∃ (a : Option Addr) (cap : Nat) (l : List α) (D D' : List (DataW H)), cs = [.slice a l.length cap] ∧ Rd w k a l.length cap (l.flatMap cells) ∧ (x.1 = .nil ∧ l = [] ∧ D = [] ∨ x.1 = .slice D D') ∧ D.length = l.length ∧
      ∀ (i : Nat) (p : α) (d : DataW H), l[i]? = some p → D[i]? = some d → ok p d := by
  obtain ⟨a, n, cap, l, D, D', rfl, rfl, hn, hm, hx, hD, hok, hc⟩ := open_list hk cells hcl ok hone ht h
  refine ⟨a, cap, l, D, D', rfl, ⟨flatk_length cells hcl l, hn, hm, ?_⟩, ?_, hD, hok⟩
  · rcases hc with h | ⟨y, rfl, hc⟩
    · exact .inl h
    · refine .inr ⟨y, rfl, fun j u hu => ?_⟩
      obtain ⟨p, h1, h2⟩ := flatk_at cells hcl h0 l j u hu
      have := hc (j / k) p h1 (j % k) u h2
      have e : j / k * k + j % k = j := by rw [Nat.mul_comm]; exact Nat.div_add_mod j k
      rw [e] at this
      exact this
  · rcases hx with ⟨h1, _, h2, _, h3⟩ | ⟨h1, _⟩
    · exact .inl ⟨h1, List.eq_nil_of_length_eq_zero h2, h3⟩
    · exact .inr h1

theorem weightsAll_mem' (P : Program) (e : TypeId) : ∀ (l : List (DataW H)) (x : DataW H), x ∈ l → ∀ n, n ∈ x.weights P e → n ∈ DataW.weightsAll P e l
  | y :: l, x, hx, n, hn => by
    rw [DataW.weightsAll]
    rcases List.mem_cons.1 hx with rfl | hx
    · exact List.mem_append_left _ hn
    · exact List.mem_append_right _ (weightsAll_mem' P e l x hx n hn)

theorem int_wf {n : Int} (hw : (Lit.int .i64 n).wf = true) : -9223372036854775808 ≤ n ∧ n ≤ 9223372036854775807 := by
  simpa [Lit.wf, IntKind.min, IntKind.max, IntKind.signed, IntKind.bits] using hw
end
end Go.Proofs.Ytmbkbkfcbloafaa
