/-
  The arguments of WireSmall, opened; the law at whatever they read as.
  No condition.
-/
import Derived.Test.YtmbkbkfcbloafaaWireSmall
import Derived.Test.YtmbkbkfcbloafaaRead
namespace Go.Proofs.Ytmbkbkfcbloafaa
open Go.ChangeShapes Go.WideShapes Go.ChangeAt Go.RowKit Go.Deep
set_option linter.unusedSectionVars false
set_option linter.unusedSimpArgs false
set_option linter.unusedVariables false
set_option maxRecDepth 100000

theorem laidOut : laidOutB Try.prog = true := by kernel_rfl
theorem ownsNone : ownKnob Try.prog.godebug = none := by kernel_rfl
theorem cellsI : Try.prog.cellsOf 3 = 1 := by kernel_rfl
theorem cellsS : Try.prog.cellsOf 9 = 1 := by kernel_rfl
theorem cellsEv : Try.prog.cellsOf 23 = 3 := by kernel_rfl
theorem cellsHe : Try.prog.cellsOf 25 = 4 := by kernel_rfl
theorem cellsNo : Try.prog.cellsOf 27 = 6 := by kernel_rfl

section
variable {H : Type} {enc : TypeId × Value → H} {w : World} {base base' : Nat} {spare : Nat → Bool} {held : Bool}

theorem open_Ev {v : Value} {d : DataW H} {p : List MemPlace} (k : DataW.Trod enc Try.prog w base spare held 23 v d p) (o : Value.okWide Try.prog w .any base' 23 v)
    (hw : ∀ x ∈ d.weights Try.prog 23, x ≤ reachBytes) : ∃ x : Ev, v = .agg x.cells.toArray ∧ x.ok := by
  obtain ⟨f, k⟩ := k
  obtain ⟨cs, rfl, hl⟩ := okWide_struct Try.underlying23 o
  obtain ⟨ys, n, hx1, hx2, hx3, hy, hf⟩ := DataW.trod_struct Try.underlying23 k
  have hl : cs.toList.length = 3 := by rw [Array.length_toList, hl, cellsEv]
  obtain ⟨l, rfl⟩ : ∃ l : List Value, cs = l.toArray := ⟨cs.toList, by simp⟩
  simp only [Value.cells] at hf hl
  match l, hl with
  | [c0, c1, c2], _ =>
    obtain ⟨x0, rfl, h0⟩ := field_int hy hf 0 _ rfl Try.underlying3 cellsI _ rfl
    obtain ⟨x1, rfl, h1, y1, hy1, hz1⟩ := field_string hy hf 1 _ rfl Try.underlying9 cellsS _ rfl
    obtain ⟨x2, rfl, h2⟩ := field_int hy hf 2 _ rfl Try.underlying3 cellsI _ rfl
    refine ⟨⟨x0, x1, x2⟩, rfl, int_wf h0, int_wf h2, ?_⟩
    have hds : (ys.map (·.1)).length = 3 := by rw [List.length_map, hy]; rfl
    have hd : (ys.map (·.1))[1]? = some (.lit (.string x1.data.toList)) := by rw [List.getElem?_map, hy1, Option.map_some, hz1]
    have hm : x1.data.toList.length ∈ d.weights Try.prog 23 := by
      have hx2 := (Prod.mk.inj hx2).1
      rw [hx2]
      simp only [DataW.weights, Try.underlying23]
      generalize ys.map (·.1) = ds at hds hd ⊢
      match ds, hds, hd with
      | [d0, d1, d2], _, hd =>
        simp only [List.getElem?_cons_succ, List.getElem?_cons_zero, Option.some.injEq] at hd
        subst hd
        simp [DataW.weightsEach, DataW.weights]
    have := hw _ hm
    rw [Array.length_toList] at this
    unfold reachBytes at this
    unfold bfits
    show x1.data.size + 100 ≤ _
    omega

theorem open_He {v : Value} {d : DataW H} {p : List MemPlace} (k : DataW.Trod enc Try.prog w base spare held 25 v d p) (o : Value.okWide Try.prog w .any base' 25 v)
    (hw : ∀ x ∈ d.weights Try.prog 25, x ≤ reachBytes) : ∃ x : He, v = .agg x.cells.toArray ∧ x.ok := by
  obtain ⟨f, k⟩ := k
  obtain ⟨cs, rfl, hl⟩ := okWide_struct Try.underlying25 o
  obtain ⟨ys, n, hx1, hx2, hx3, hy, hf⟩ := DataW.trod_struct Try.underlying25 k
  have hl : cs.toList.length = 4 := by rw [Array.length_toList, hl, cellsHe]
  obtain ⟨l, rfl⟩ : ∃ l : List Value, cs = l.toArray := ⟨cs.toList, by simp⟩
  simp only [Value.cells] at hf hl
  match l, hl with
  | [c0, c1, c2, c3], _ =>
    obtain ⟨x0, rfl, h0⟩ := field_int hy hf 0 _ rfl Try.underlying3 cellsI _ rfl
    obtain ⟨x1, rfl, h1⟩ := field_int hy hf 1 _ rfl Try.underlying3 cellsI _ rfl
    obtain ⟨x2, rfl, h2⟩ := field_int hy hf 2 _ rfl Try.underlying3 cellsI _ rfl
    obtain ⟨x3, rfl, h3, y3, hy3, hz3⟩ := field_string hy hf 3 _ rfl Try.underlying9 cellsS _ rfl
    refine ⟨⟨x0, x1, x2, x3⟩, rfl, int_wf h0, int_wf h1, int_wf h2, ?_⟩
    have hds : (ys.map (·.1)).length = 4 := by rw [List.length_map, hy]; rfl
    have hd : (ys.map (·.1))[3]? = some (.lit (.string x3.data.toList)) := by rw [List.getElem?_map, hy3, Option.map_some, hz3]
    have hm : x3.data.toList.length ∈ d.weights Try.prog 25 := by
      have hx2 := (Prod.mk.inj hx2).1
      rw [hx2]
      simp only [DataW.weights, Try.underlying25]
      generalize ys.map (·.1) = ds at hds hd ⊢
      match ds, hds, hd with
      | [d0, d1, d2, d3], _, hd =>
        simp only [List.getElem?_cons_succ, List.getElem?_cons_zero, Option.some.injEq] at hd
        subst hd
        simp [DataW.weightsEach, DataW.weights]
    have := hw _ hm
    rw [Array.length_toList] at this
    unfold reachBytes at this
    unfold bfits
    show x3.data.size + 100 ≤ _
    omega

theorem open_No {v : Value} {d : DataW H} {p : List MemPlace} (k : DataW.Trod enc Try.prog w base spare held 27 v d p) (o : Value.okWide Try.prog w .any base' 27 v)
    (hw : ∀ x ∈ d.weights Try.prog 27, x ≤ reachBytes) : ∃ x : No, v = .agg x.cells.toArray ∧ x.ok := by
  obtain ⟨f, k⟩ := k
  obtain ⟨cs, rfl, hl⟩ := okWide_struct Try.underlying27 o
  obtain ⟨ys, n, hx1, hx2, hx3, hy, hf⟩ := DataW.trod_struct Try.underlying27 k
  have hl : cs.toList.length = 6 := by rw [Array.length_toList, hl, cellsNo]
  obtain ⟨l, rfl⟩ : ∃ l : List Value, cs = l.toArray := ⟨cs.toList, by simp⟩
  simp only [Value.cells] at hf hl
  match l, hl with
  | [c0, c1, c2, c3, c4, c5], _ =>
    obtain ⟨x0, rfl, h0⟩ := field_int hy hf 0 _ rfl Try.underlying3 cellsI _ rfl
    obtain ⟨x1, rfl, h1⟩ := field_int hy hf 1 _ rfl Try.underlying3 cellsI _ rfl
    obtain ⟨x2, rfl, h2⟩ := field_int hy hf 2 _ rfl Try.underlying3 cellsI _ rfl
    obtain ⟨x3, rfl, h3⟩ := field_int hy hf 3 _ rfl Try.underlying3 cellsI _ rfl
    obtain ⟨x4, rfl, h4⟩ := field_int hy hf 4 _ rfl Try.underlying3 cellsI _ rfl
    obtain ⟨x5, rfl, h5⟩ := field_int hy hf 5 _ rfl Try.underlying3 cellsI _ rfl
    refine ⟨⟨x0, x1, x2, x3, x4, x5⟩, rfl, int_wf h0, int_wf h1, int_wf h2, int_wf h3, int_wf h4, int_wf h5⟩

theorem small_contract (W : World) (base : Nat) (v0 : Value) (d0 : DataW H) (p0 : List MemPlace) (v1 : Value) (d1 : DataW H) (p1 : List MemPlace) (v2 : Value) (d2 : DataW H) (p2 : List MemPlace)
    (k0 : DataW.Trod enc Try.prog W 0 (fun _ => true) true 23 v0 d0 p0) (k1 : DataW.Trod enc Try.prog W 0 (fun _ => true) true 25 v1 d1 p1) (k2 : DataW.Trod enc Try.prog W 0 (fun _ => true) true 27 v2 d2 p2)
    (o0 : Value.okWide Try.prog W .any base 23 v0) (o1 : Value.okWide Try.prog W .any base 25 v1) (o2 : Value.okWide Try.prog W .any base 27 v2)
    (hsz : (DataW.weightsEach Try.prog [23, 25, 27] [d0, d1, d2]).all (· ≤ reachBytes) = true) :
    Calls Try.prog 3 #[v0, v1, v2] W (ValPost (.bool true) W) := by
  have hs : ∀ n ∈ DataW.weightsEach Try.prog [23, 25, 27] [d0, d1, d2], n ≤ reachBytes := fun n hn => by simpa using List.all_eq_true.1 hsz n hn
  simp only [DataW.weightsEach, List.mem_append] at hs
  obtain ⟨x, rfl, hx⟩ := open_Ev k0 o0 fun n hn => hs n (.inl hn)
  obtain ⟨y, rfl, hy⟩ := open_He k1 o1 fun n hn => hs n (.inr (.inl hn))
  obtain ⟨z, rfl, hz⟩ := open_No k2 o2 fun n hn => hs n (.inr (.inr (.inl hn)))
  exact wireSmall_walk x y z hx hy hz W
end
end Go.Proofs.Ytmbkbkfcbloafaa
