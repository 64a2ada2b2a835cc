/-
  PostPlays at whatever its argument reads as: the reading is opened, and the walk is called.
  No condition.
-/
import Derived.Test.YtnggolgpnbdghaaPostPlays
namespace Go.Proofs.Ytnggolgpnbdghaa
open Go.ChangeShapes Go.WideShapes Go.ChangeAt Go.RowKit Go.Deep
set_option linter.unusedVariables false
set_option linter.unusedSimpArgs false

theorem cellsStp : Try.prog.cellsOf 43 = 3 := by kernel_rfl
theorem bytesStp : Try.prog.bytesOf 43 = 40 := by kernel_rfl
theorem cellsL : Try.prog.cellsOf 22 = 1 := by kernel_rfl

section
variable {H : Type} {enc : TypeId × Value → H} {w : World} {base : Nat} {spare : Nat → Bool} {held : Bool}

def stepOk (w : World) (p : Stp) (d : DataW H) : Prop :=
  (-9223372036854775808 ≤ p.what ∧ p.what ≤ 9223372036854775807) ∧ (-9223372036854775808 ≤ p.num ∧ p.num ≤ 9223372036854775807) ∧ p.ys.length = p.n ∧ Rd w 8 p.s p.n p.sc (flat p.ys) ∧
    ∃ ds d2, d = .agg ds ∧ ds.length = 3 ∧ ds[2]? = some d2 ∧ (d2 = .nil ∧ p.n = 0 ∨ ∃ D D', d2 = .slice D D' ∧ D.length = p.n)

theorem open_step (fuel : Nat) (cs : List Value) (x : DataW H × List MemPlace) (hl : cs.length = 3) (h : DataW.trod enc Try.prog w base spare held fuel 43 cs = some x) :
    ∃ p : Stp, cs = p.cells ∧ stepOk w p x.1 := by
  obtain ⟨ys, n, hx1, hx2, hx3, hy, hf⟩ := DataW.trod_struct Try.underlying43 h
  match cs, hl with
  | [c0, c1, c2], _ =>
    obtain ⟨a, rfl, ha⟩ := field_int hy hf 0 _ rfl Try.underlying3 cellsI _ rfl
    obtain ⟨b, rfl, hb⟩ := field_int hy hf 1 _ rfl Try.underlying3 cellsI _ rfl
    obtain ⟨y, hy1, hr⟩ := field_read hy hf 2 _ rfl
    have hr : DataW.trod enc Try.prog w base spare held n 22 (([.int .i64 a, .int .i64 b, c2].drop 2).take (Try.prog.cellsOf 22)) = some y := hr
    rw [cellsL, one_cell (v := c2) rfl] at hr
    obtain ⟨s, sc, ps, D, D', h1, h2, h3⟩ := open_packets hr
    simp only [List.cons.injEq, and_true] at h1
    subst h1
    refine ⟨⟨a, b, s, ps.length, sc, ps⟩, rfl, int_wf ha, int_wf hb, rfl, h2, ys.map (·.1), y.1, by rw [hx2], by rw [List.length_map, hy]; rfl, by rw [List.getElem?_map, hy1]; rfl, ?_⟩
    rcases h3 with h3 | h3
    · exact .inl h3
    · exact .inr ⟨D, D', h3⟩

theorem open_steps {v : Value} {d : DataW H} {p : List MemPlace} {base' : Nat} (k : DataW.Trod enc Try.prog w base spare held 37 v d p) (o : Value.okWide Try.prog w .any base' 37 v)
    (hw : ∀ x ∈ d.weights Try.prog 37, x ≤ reachBytes) :
    ∃ (a : Option Addr) (cap : Nat) (l : List Stp), v = .slice a l.length cap ∧ Rd w 3 a l.length cap (l.flatMap Stp.cells) ∧ l.length ≤ 4000000000000 ∧ ∀ x ∈ l, Stp.ok w x := by
  obtain ⟨f, k⟩ := k
  obtain ⟨a, n, cap, rfl⟩ := okWide_slice Try.underlying37 o
  obtain ⟨a', cap', l, D, D', h1, hr, hx, hD, hok⟩ := open_rows cellsStp (by omega) Stp.cells (fun _ => rfl) (stepOk w) open_step Try.underlying37 k
  simp only [Value.cells, List.cons.injEq, Value.slice.injEq, and_true] at h1
  obtain ⟨rfl, rfl, rfl⟩ := h1
  refine ⟨a, cap, l, rfl, hr, ?_, ?_⟩
  · rcases hx with ⟨_, h, _⟩ | h
    · rw [h]; simp
    · have := hw ((D.length + D'.length) * Try.prog.bytesOf 43) (by simp only at h; rw [h]; simp [DataW.weights, Try.underlying37])
      rw [bytesStp] at this
      unfold reachBytes at this
      omega
  · intro x hxm
    obtain ⟨i, hi, rfl⟩ := List.mem_iff_getElem.1 hxm
    obtain ⟨h2, h3, h4, h5, ds, d2, h6, h7, h8, h9⟩ := hok i l[i] (D[i]'(by omega)) (List.getElem?_eq_getElem hi) (List.getElem?_eq_getElem _)
    refine ⟨h2, h3, h4, h5, ?_⟩
    rcases h9 with ⟨_, h9⟩ | ⟨E, E', rfl, h9⟩
    · rw [h9]; unfold fits; omega
    · have hmem : (E.length + E'.length) * Try.prog.bytesOf 32 ∈ d.weights Try.prog 37 := by
        rcases hx with ⟨_, h, _⟩ | h
        · rw [h] at hi; simp at hi
        · simp only at h
          rw [h]
          simp only [DataW.weights, Try.underlying37]
          refine List.mem_cons_of_mem _ (List.mem_append_left _ (weightsAll_mem' _ _ D (D[i]'(by omega)) (List.getElem_mem _) _ ?_))
          rw [h6]
          simp only [DataW.weights, Try.underlying43]
          match ds, h7, h8 with
          | [e0, e1, e2], _, h8 =>
            simp only [List.getElem?_cons_succ, List.getElem?_cons_zero, Option.some.injEq] at h8
            subst h8
            simp [DataW.weightsEach, DataW.weights, Try.underlying22]
      have := hw _ hmem
      rw [bytesP] at this
      unfold reachBytes at this
      unfold fits
      omega
end

theorem plays_contract {H : Type} {enc : TypeId × Value → H} (W : World) (base : Nat) (v0 : Value) (d0 : DataW H) (p0 : List MemPlace)
    (k0 : DataW.Trod enc Try.prog W 0 (fun _ => true) true 37 v0 d0 p0) (o0 : Value.okWide Try.prog W .any base 37 v0)
    (hsz : (DataW.weightsEach Try.prog [37] [d0]).all (· ≤ reachBytes) = true) :
    Calls Try.prog 4 #[v0] W (AwakePost W) := by
  have hw : ∀ x, x ∈ d0.weights Try.prog 37 → x ≤ reachBytes := fun x hx => by
    have := List.all_eq_true.1 hsz x (by simpa [DataW.weightsEach] using hx)
    simpa using this
  obtain ⟨a, cap, l, rfl, hr, hl, hok⟩ := open_steps k0 o0 hw
  exact plays_walk a cap _ l rfl W hr hok (by omega)
end Go.Proofs.Ytnggolgpnbdghaa
