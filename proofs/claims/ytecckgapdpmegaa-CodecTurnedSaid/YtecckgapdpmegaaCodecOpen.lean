/-
  The arguments of the codec's laws, opened: texts, ints, items.
  No condition.
-/
import Derived.Test.YtecckgapdpmegaaCodecW
import Derived.Test.YtecckgapdpmegaaCodecQ
import Derived.Test.YtecckgapdpmegaaRead
namespace Go.Proofs.Ytecckgapdpmegaa
open Go.ChangeShapes Go.WideShapes Go.ChangeAt Go.RowKit Go.Deep
set_option linter.unusedSectionVars false
set_option linter.unusedSimpArgs false
set_option linter.unusedVariables false

theorem laidOut : laidOutB Try.prog = true := by kernel_rfl
theorem ownsNone : ownKnob Try.prog.godebug = none := by kernel_rfl
theorem cellsI : Try.prog.cellsOf 3 = 1 := by kernel_rfl
theorem cellsBo : Try.prog.cellsOf 4 = 1 := by kernel_rfl
theorem cellsS : Try.prog.cellsOf 9 = 1 := by kernel_rfl
theorem cellsT : Try.prog.cellsOf 29 = 4 := by kernel_rfl
theorem bytesT : Try.prog.bytesOf 29 = 40 := by kernel_rfl

/-- One item. -/
structure It where
  kind : Int
  n : Int
  is : Bool
  s : ByteArray
def It.cells (x : It) : List Value := [.int .i64 x.kind, .int .i64 x.n, .bool x.is, .string x.s]
def itCells : List It → List Value
  | [] => []
  | x :: l => x.cells ++ itCells l
theorem itCells_length : ∀ l : List It, (itCells l).length = l.length * 4
  | [] => rfl
  | x :: l => by rw [itCells, List.length_append, itCells_length l, List.length_cons, show x.cells.length = 4 from rfl]; omega
def It.ok (x : It) : Prop := (-9223372036854775808 ≤ x.n ∧ x.n ≤ 9223372036854775807) ∧ bfits x.s.size
instance : Inhabited It := ⟨⟨0, 0, false, ByteArray.empty⟩⟩

theorem itCells_get : ∀ (l : List It) (i : Nat) (x : It) (j : Nat) (u : Value), l[i]? = some x → x.cells[j]? = some u → (itCells l)[i * 4 + j]? = some u
  | [], i, x, j, u, h, _ => by simp at h
  | y :: l, 0, x, j, u, h, hu => by
    simp only [List.getElem?_cons_zero, Option.some.injEq] at h
    subst h
    have hj : j < y.cells.length := (List.getElem?_eq_some_iff.1 hu).1
    rw [itCells, Nat.zero_mul, Nat.zero_add, List.getElem?_append_left hj]; exact hu
  | y :: l, i + 1, x, j, u, h, hu => by
    have hl : y.cells.length = 4 := rfl
    rw [itCells, List.getElem?_append_right (by omega), hl, show (i + 1) * 4 + j - 4 = i * 4 + j by omega]
    exact itCells_get l i x j u (by simpa using h) hu

/-- One item's cells in a slice that is read. -/
theorem Rd.item {w : World} {a : Option Addr} {n cap : Nat} {l : List It} (h : Rd w 4 a n cap (itCells l)) {i : Nat} {x : It} (hx : l[i]? = some x) :
    ∃ b o, a = some ⟨b, o, none⟩ ∧ w.cell? ⟨b, o + i * 4, none⟩ = some (.int .i64 x.kind) ∧ w.cell? ⟨b, o + i * 4 + 1, none⟩ = some (.int .i64 x.n) ∧ w.cell? ⟨b, o + i * 4 + 2, none⟩ = some (.bool x.is) ∧ w.cell? ⟨b, o + i * 4 + 3, none⟩ = some (.string x.s) := by
  obtain ⟨hl, hn, hm, ⟨rfl, h0⟩ | ⟨y, rfl, hcell⟩⟩ := h
  · have hlt : i < l.length := (List.getElem?_eq_some_iff.1 hx).1
    rw [itCells_length] at hl; omega
  · have key := fun j u hu => hcell _ u (itCells_get l i x j u hx hu)
    obtain ⟨b, o, sp⟩ := y
    have hs : sp = none := by
      have h0 : 0 < l.length := by have := (List.getElem?_eq_some_iff.1 hx).1; omega
      have := hcell 0 _ (itCells_get l 0 l[0] 0 _ (List.getElem?_eq_getElem h0) rfl)
      simp [Addr.add, World.cell?] at this
      split at this
      · cases sp <;> simp at this ⊢
      · cases this
    subst hs
    have k0 := key 0 _ rfl
    have k1 := key 1 _ rfl
    have k2 := key 2 _ rfl
    have k3 := key 3 _ rfl
    rw [add_none] at k0 k1 k2 k3
    exact ⟨b, o, rfl, k0, k1, k2, k3⟩

theorem itCells_at : ∀ (xs : List It) (j : Nat) (u : Value), (itCells xs)[j]? = some u → ∃ p, xs[j / 4]? = some p ∧ p.cells[j % 4]? = some u
  | [], j, u, h => by simp [itCells] at h
  | x :: xs, j, u, h => by
    have hl : x.cells.length = 4 := rfl
    rw [itCells] at h
    by_cases hj : j < 4
    · rw [List.getElem?_append_left (by omega)] at h
      exact ⟨x, by rw [Nat.div_eq_of_lt hj]; rfl, by rw [Nat.mod_eq_of_lt hj]; exact h⟩
    · rw [List.getElem?_append_right (by omega), hl] at h
      obtain ⟨p, h1, h2⟩ := itCells_at xs (j - 4) u h
      refine ⟨p, ?_, ?_⟩
      · rw [show j / 4 = (j - 4) / 4 + 1 from by omega]; exact h1
      · rw [show j % 4 = (j - 4) % 4 from by omega]; exact h2

theorem int_range {n : Int} (hw : (Lit.int .i64 n).wf = true) : -9223372036854775808 ≤ n ∧ n ≤ 9223372036854775807 := by
  simpa [Lit.wf, IntKind.min, IntKind.max, IntKind.signed, IntKind.bits] using hw

section
variable {H : Type} {enc : TypeId × Value → H} {w : World} {base base' : Nat} {spare : Nat → Bool} {held : Bool}

theorem field_bool {P : Program} {fs : Array Field} {cs : List Value} {ys : List (DataW H × List MemPlace)} {n : Nat} (hlen : ys.length = fs.size)
    (hf : ∀ (i : Nat) (f : Field), fs[i]? = some f → DataW.trod enc P w base spare held n f.type ((cs.drop f.offset).take (P.cellsOf f.type)) = ys[i]?) (i : Nat) (f : Field) (hi : fs[i]? = some f)
    (hu : P.underlying f.type = some .bool) (hc : P.cellsOf f.type = 1) (v : Value) (hv : cs[f.offset]? = some v) : ∃ x, v = .bool x := by
  obtain ⟨y, _, h⟩ := field_read hlen hf i f hi
  rw [hc, one_cell hv] at h
  obtain ⟨x, h1, _⟩ := DataW.trod_bool hu h
  exact ⟨x, by simpa using h1⟩

theorem open_str {v : Value} {d : DataW H} {p : List MemPlace} (k : DataW.Trod enc Try.prog w base spare held 9 v d p) (o : Value.okWide Try.prog w .any base' 9 v)
    (hw : ∀ x ∈ d.weights Try.prog 9, x ≤ reachBytes) : ∃ s : ByteArray, v = .string s ∧ bfits s.size ∧ s.size ≤ 140737488351232 := by
  obtain ⟨f, k⟩ := k
  obtain ⟨s, rfl⟩ := okWide_string Try.underlying9 o
  obtain ⟨x, h1, h3, h2⟩ := DataW.trod_string Try.underlying9 k
  simp only [Value.cells, List.cons.injEq, Value.string.injEq, and_true] at h1
  subst h1
  refine ⟨s, rfl, ?_⟩
  obtain ⟨rfl, -⟩ := Prod.mk.inj h3
  have := hw s.data.toList.length (by simp [DataW.weights])
  rw [Array.length_toList] at this
  unfold reachBytes at this
  unfold bfits
  show s.data.size ≤ _ ∧ s.data.size ≤ _
  omega

theorem open_int {v : Value} {d : DataW H} {p : List MemPlace} (k : DataW.Trod enc Try.prog w base spare held 3 v d p) (o : Value.okWide Try.prog w .any base' 3 v) : ∃ n : Int, v = .int .i64 n ∧ -9223372036854775808 ≤ n ∧ n ≤ 9223372036854775807 := by
  obtain ⟨f, k⟩ := k
  obtain ⟨s, rfl⟩ := okWide_int Try.underlying3 o
  obtain ⟨n, h1, _, h2⟩ := DataW.trod_int Try.underlying3 k
  simp only [Value.cells, List.cons.injEq, Value.int.injEq, and_true, true_and] at h1
  subst h1
  exact ⟨s, rfl, int_range h2⟩

theorem open_item (fuel : Nat) (cs : List Value) (x : DataW H × List MemPlace) (hl : cs.length = 4) (h : DataW.trod enc Try.prog w base spare held fuel 29 cs = some x) :
    ∃ p : It, cs = p.cells ∧ (-9223372036854775808 ≤ p.n ∧ p.n ≤ 9223372036854775807) ∧ ∃ ds, x.1 = .agg ds ∧ ds.length = 4 ∧ ds[3]? = some (.lit (.string p.s.data.toList)) := by
  obtain ⟨ys, n, hx1, hx2, hx3, hy, hf⟩ := DataW.trod_struct Try.underlying29 h
  match cs, hl with
  | [c0, c1, c2, c3], _ =>
    obtain ⟨a, rfl, _⟩ := field_int hy hf 0 _ rfl Try.underlying3 cellsI _ rfl
    obtain ⟨b, rfl, hb⟩ := field_int hy hf 1 _ rfl Try.underlying3 cellsI _ rfl
    obtain ⟨c, rfl⟩ := field_bool hy hf 2 _ rfl Try.underlying4 cellsBo _ rfl
    obtain ⟨s, rfl, hs, y, hy1, hy2⟩ := field_string hy hf 3 _ rfl Try.underlying9 cellsS _ rfl
    refine ⟨⟨a, b, c, s⟩, rfl, int_range hb, ys.map (·.1), by rw [hx2], by rw [List.length_map, hy]; rfl, ?_⟩
    rw [List.getElem?_map, hy1, Option.map_some, hy2]

theorem weightsAll_mem (P : Program) (e : TypeId) : ∀ (l : List (DataW H)) (x : DataW H), x ∈ l → ∀ n, n ∈ x.weights P e → n ∈ DataW.weightsAll P e l
  | y :: l, x, hx, n, hn => by
    rw [DataW.weightsAll]
    rcases List.mem_cons.1 hx with rfl | hx
    · exact List.mem_append_left _ hn
    · exact List.mem_append_right _ (weightsAll_mem P e l x hx n hn)

theorem open_items {v : Value} {d : DataW H} {p : List MemPlace} (k : DataW.Trod enc Try.prog w base spare held 22 v d p) (o : Value.okWide Try.prog w .any base' 22 v)
    (hw : ∀ x ∈ d.weights Try.prog 22, x ≤ reachBytes) :
    ∃ (a : Option Addr) (cap : Nat) (l : List It), v = .slice a l.length cap ∧ Rd w 4 a l.length cap (itCells l) ∧ l.length ≤ 4000000000000 ∧ ∀ x ∈ l, It.ok x := by
  obtain ⟨f, k⟩ := k
  obtain ⟨a, n, cap, rfl⟩ := okWide_slice Try.underlying22 o
  obtain ⟨a', n', cap', l, D, D', h1, rfl, hn, hm, hx, hD, hok, hc⟩ := open_list (α := It) cellsT It.cells (fun _ => rfl) (fun p x => (-9223372036854775808 ≤ p.n ∧ p.n ≤ 9223372036854775807) ∧ ∃ ds, x = .agg ds ∧ ds.length = 4 ∧ ds[3]? = some (.lit (.string p.s.data.toList))) open_item Try.underlying22 k
  simp only [Value.cells, List.cons.injEq, Value.slice.injEq, and_true] at h1
  obtain ⟨rfl, rfl, rfl⟩ := h1
  refine ⟨a, cap, l, rfl, ⟨itCells_length l, hn, hm, ?_⟩, ?_, ?_⟩
  · rcases hc with h | ⟨y, rfl, hc⟩
    · exact .inl h
    · refine .inr ⟨y, rfl, fun j u hu => ?_⟩
      obtain ⟨x, h1, h2⟩ := itCells_at l j u hu
      have := hc (j / 4) x h1 (j % 4) u h2
      rw [show j / 4 * 4 + j % 4 = j from by omega] at this
      exact this
  · rcases hx with ⟨_, _, h, _⟩ | ⟨h, _⟩
    · omega
    · have := hw ((D.length + D'.length) * Try.prog.bytesOf 29) (by simp only at h; rw [h]; simp [DataW.weights, Try.underlying22])
      rw [bytesT] at this
      unfold reachBytes at this
      omega
  · intro x hxm
    obtain ⟨i, hi, rfl⟩ := List.mem_iff_getElem.1 hxm
    obtain ⟨h2, ds, h3, h4, h5⟩ := hok i l[i] (D[i]'(by omega)) (List.getElem?_eq_getElem hi) (List.getElem?_eq_getElem _)
    refine ⟨h2, ?_⟩
    have hmem : l[i].s.data.toList.length ∈ d.weights Try.prog 22 := by
      rcases hx with ⟨_, _, h, _⟩ | ⟨h, _⟩
      · omega
      · simp only at h
        rw [h]
        simp only [DataW.weights, Try.underlying22]
        refine List.mem_cons_of_mem _ (List.mem_append_left _ (weightsAll_mem _ _ D (D[i]'(by omega)) (List.getElem_mem _) _ ?_))
        rw [h3]
        simp only [DataW.weights, Try.underlying29]
        match ds, h4, h5 with
        | [d0, d1, d2, d3], _, h5 =>
          simp only [List.getElem?_cons_succ, List.getElem?_cons_zero, Option.some.injEq] at h5
          subst h5
          simp [DataW.weightsEach, DataW.weights]
    have := hw _ hmem
    rw [Array.length_toList] at this
    unfold reachBytes at this
    unfold bfits
    show l[i].s.data.size ≤ _
    omega
end
end Go.Proofs.Ytecckgapdpmegaa
