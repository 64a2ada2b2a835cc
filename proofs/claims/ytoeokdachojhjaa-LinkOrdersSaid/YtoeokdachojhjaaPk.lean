/-
  Packets (api.Packet) as cells, and lists of them.
  No condition.
-/
import Derived.Test.YtoeokdachojhjaaRows
import Derived.Test.YtoeokdachojhjaaLib
namespace Go.Proofs.Ytoeokdachojhjaa
open Go.RowKit
set_option linter.unusedSectionVars false
set_option linter.unusedSimpArgs false
set_option linter.unusedVariables false

theorem infoP : (Try.prog.info? 41).map (fun i => (i.zero, i.size, i.bytes)) = some (some (.agg #[.int .i64 0, .int .i64 0, .int .i64 0, .int .i64 0, .int .i64 0, .int .i64 0, .int .i64 0, .string .empty]), 8, 72) := by kernel_rfl
theorem cellsP : Try.prog.cellsOf 41 = 8 := by kernel_rfl
theorem isP : (Try.prog.info? 41).isSome = true := by kernel_rfl
theorem sizeP : (Try.prog.info? 41).map (·.size) = some 8 := by kernel_rfl

/-! ### Packets -/

structure Pk where
  a : Int
  b : Int
  c : Int
  d : Int
  e : Int
  f : Int
  g : Int
  s : ByteArray
deriving DecidableEq

def Pk.cells (p : Pk) : List Value := [.int .i64 p.a, .int .i64 p.b, .int .i64 p.c, .int .i64 p.d, .int .i64 p.e, .int .i64 p.f, .int .i64 p.g, .string p.s]
def Pk.agg (p : Pk) : Value := .agg #[.int .i64 p.a, .int .i64 p.b, .int .i64 p.c, .int .i64 p.d, .int .i64 p.e, .int .i64 p.f, .int .i64 p.g, .string p.s]
def Pk.zero : Pk := ⟨0, 0, 0, 0, 0, 0, 0, .empty⟩
attribute [go_sem] Pk.agg Pk.zero
def flat (xs : List Pk) : List Value := xs.flatMap Pk.cells

theorem flat_nil : flat [] = [] := rfl
theorem flat_cons (x : Pk) (xs : List Pk) : flat (x :: xs) = x.cells ++ flat xs := rfl
theorem flat_append (xs ys : List Pk) : flat (xs ++ ys) = flat xs ++ flat ys := List.flatMap_append
theorem flat_length : ∀ xs : List Pk, (flat xs).length = xs.length * 8
  | [] => rfl
  | x :: xs => by rw [flat_cons, List.length_append, flat_length xs, List.length_cons]; simp [Pk.cells]; omega
theorem flat_take : ∀ (xs : List Pk) (i : Nat), (flat xs).take (i * 8) = flat (xs.take i)
  | [], i => by simp [flat]
  | x :: xs, 0 => by simp [flat]
  | x :: xs, i + 1 => by
    rw [flat_cons, List.take_succ_cons, flat_cons, ← flat_take xs i, show (i + 1) * 8 = x.cells.length + i * 8 from by simp [Pk.cells]; omega, List.take_length_add_append]
theorem flat_drop : ∀ (xs : List Pk) (i : Nat), (flat xs).drop (i * 8) = flat (xs.drop i)
  | [], i => by simp [flat]
  | x :: xs, 0 => by simp
  | x :: xs, i + 1 => by
    rw [flat_cons, List.drop_succ_cons, ← flat_drop xs i, show (i + 1) * 8 = x.cells.length + i * 8 from by simp [Pk.cells]; omega, List.drop_length_add_append]
theorem flat_one (xs : List Pk) : ∀ u ∈ flat xs, u.oneCell' = true := by
  intro u hu
  obtain ⟨x, _, hx⟩ := List.mem_flatMap.1 hu
  simp only [Pk.cells, List.mem_cons, List.not_mem_nil, or_false] at hx
  rcases hx with rfl | rfl | rfl | rfl | rfl | rfl | rfl | rfl <;> rfl
theorem flat_at (xs : List Pk) (k : Nat) (p : Pk) (h : xs[k]? = some p) (j : Nat) (u : Value) (hu : p.cells[j]? = some u) : (flat xs)[k * 8 + j]? = some u := by
  have e : flat xs = flat (xs.take k) ++ (p.cells ++ flat (xs.drop (k + 1))) := by
    rw [← flat_cons, ← flat_append]
    congr 1
    have hk := List.getElem?_eq_some_iff.1 h
    obtain ⟨hk1, rfl⟩ := hk
    rw [List.getElem_cons_drop, List.take_append_drop]
  have hlt : k < xs.length := (List.getElem?_eq_some_iff.1 h).1
  have hl : (flat (xs.take k)).length = k * 8 := by rw [flat_length, List.length_take]; omega
  have hj : j < p.cells.length := (List.getElem?_eq_some_iff.1 hu).1
  rw [e, List.getElem?_append_right (by omega), hl, List.getElem?_append_left (by omega), show k * 8 + j - k * 8 = j from by omega]
  exact hu

/-- The eight cells of a packet. -/
def At8 (w : World) (b o : Nat) (p : Pk) : Prop :=
  w.cell? ⟨b, o, none⟩ = some (.int .i64 p.a) ∧ w.cell? ⟨b, o + 1, none⟩ = some (.int .i64 p.b) ∧ w.cell? ⟨b, o + 2, none⟩ = some (.int .i64 p.c) ∧ w.cell? ⟨b, o + 3, none⟩ = some (.int .i64 p.d) ∧
  w.cell? ⟨b, o + 4, none⟩ = some (.int .i64 p.e) ∧ w.cell? ⟨b, o + 5, none⟩ = some (.int .i64 p.f) ∧ w.cell? ⟨b, o + 6, none⟩ = some (.int .i64 p.g) ∧ w.cell? ⟨b, o + 7, none⟩ = some (.string p.s)

theorem Rd.at8 {w : World} {a : Option Addr} {n cap : Nat} {xs : List Pk} (h : Rd w 8 a n cap (flat xs)) {k : Nat} {p : Pk} (hp : xs[k]? = some p) :
    ∃ b o, a = some ⟨b, o, none⟩ ∧ At8 w b (o + k * 8) p := by
  obtain ⟨hl, hn, hm, ⟨rfl, h0⟩ | ⟨x, rfl, hc⟩⟩ := h
  · have hlt : k < xs.length := (List.getElem?_eq_some_iff.1 hp).1
    rw [flat_length] at hl; omega
  · have key : ∀ j u, p.cells[j]? = some u → w.cell? (x.add (k * 8 + j)) = some u := fun j u hu => hc _ _ (flat_at xs k p hp j u hu)
    obtain ⟨b, o, sp⟩ := x
    have hs : sp = none := by
      have h0 : k < xs.length := (List.getElem?_eq_some_iff.1 hp).1
      cases xs with
      | nil => simp at h0
      | cons y ys =>
        have := hc 0 (.int .i64 y.a) (by simp [flat_cons, Pk.cells])
        simp [Addr.add, World.cell?] at this
        split at this
        · cases sp <;> simp at this ⊢
        · cases this
    subst hs
    refine ⟨b, o, rfl, ?_⟩
    simp only [add_none] at key
    exact ⟨key 0 _ rfl, key 1 _ rfl, key 2 _ rfl, key 3 _ rfl, key 4 _ rfl, key 5 _ rfl, key 6 _ rfl, key 7 _ rfl⟩

/-- A block that holds one packet: its cells, and that they may be written. -/
theorem res8 {w : World} {r : Nat} {p : Pk} {T : TypeId} (h : w.heap[r]? = some (.cells p.cells.toArray T (0, 0))) :
    (w.cell? ⟨r, 0, none⟩ = some (.int .i64 p.a) ∧ w.cell? ⟨r, 1, none⟩ = some (.int .i64 p.b) ∧ w.cell? ⟨r, 2, none⟩ = some (.int .i64 p.c) ∧ w.cell? ⟨r, 3, none⟩ = some (.int .i64 p.d) ∧
     w.cell? ⟨r, 4, none⟩ = some (.int .i64 p.e) ∧ w.cell? ⟨r, 5, none⟩ = some (.int .i64 p.f) ∧ w.cell? ⟨r, 6, none⟩ = some (.int .i64 p.g) ∧ w.cell? ⟨r, 7, none⟩ = some (.string p.s)) ∧
    ∀ j, w.frozen? ⟨r, j, none⟩ = false :=
  ⟨⟨blk_cell h 0 _ rfl, blk_cell h 1 _ rfl, blk_cell h 2 _ rfl, blk_cell h 3 _ rfl, blk_cell h 4 _ rfl, blk_cell h 5 _ rfl, blk_cell h 6 _ rfl, blk_cell h 7 _ rfl⟩, blk_free h⟩

end Go.Proofs.Ytoeokdachojhjaa
