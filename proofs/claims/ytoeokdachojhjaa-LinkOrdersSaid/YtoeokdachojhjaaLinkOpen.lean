/-
  The arguments of the laws of links, opened: ints, lists of texts, scripts.
  No condition.
-/
import Derived.Test.YtoeokdachojhjaaLinkOver
namespace Go.Proofs.Ytoeokdachojhjaa
open Go.ChangeShapes Go.WideShapes Go.ChangeAt Go.RowKit Go.Deep
set_option linter.unusedSectionVars false
set_option linter.unusedSimpArgs false
set_option linter.unusedVariables false

theorem laidOut : laidOutB Try.prog = true := by kernel_rfl
theorem ownsNone : ownKnob Try.prog.godebug = none := by kernel_rfl
theorem cellsI : Try.prog.cellsOf 3 = 1 := by kernel_rfl
theorem cellsS : Try.prog.cellsOf 9 = 1 := by kernel_rfl
theorem cellsStp : Try.prog.cellsOf 53 = 10 := by kernel_rfl

section
variable {H : Type} {enc : TypeId × Value → H} {w : World} {base : Nat} {spare : Nat → Bool} {held : Bool} {base' : Nat}

theorem open_int {v : Value} {d : DataW H} {p : List MemPlace} (k : DataW.Trod enc Try.prog w base spare held 3 v d p) (o : Value.okWide Try.prog w .any base' 3 v) : ∃ n : Int, v = .int .i64 n ∧ wf64 n := by
  obtain ⟨f, k⟩ := k
  obtain ⟨s, rfl⟩ := okWide_int Try.underlying3 o
  obtain ⟨n, h1, _, h2⟩ := DataW.trod_int Try.underlying3 k
  simp only [Value.cells, List.cons.injEq, Value.int.injEq, and_true, true_and] at h1
  subst h1
  exact ⟨s, rfl, int_wf h2⟩

/-- One packet's cells, out of its reading. -/
theorem open_packet (fuel : Nat) (cs : List Value) (x : DataW H × List MemPlace) (hl : cs.length = 8) (h : DataW.trod enc Try.prog w base spare held fuel 41 cs = some x) : ∃ p : Pk, cs = p.cells ∧ wf64 p.f := by
  obtain ⟨ys, n, _, _, _, hy, hf⟩ := DataW.trod_struct Try.underlying41 h
  match cs, hl with
  | [c0, c1, c2, c3, c4, c5, c6, c7], _ =>
    obtain ⟨a, rfl, _⟩ := field_int hy hf 0 _ rfl Try.underlying3 cellsI _ rfl
    obtain ⟨b, rfl, _⟩ := field_int hy hf 1 _ rfl Try.underlying3 cellsI _ rfl
    obtain ⟨c, rfl, _⟩ := field_int hy hf 2 _ rfl Try.underlying3 cellsI _ rfl
    obtain ⟨d, rfl, _⟩ := field_int hy hf 3 _ rfl Try.underlying3 cellsI _ rfl
    obtain ⟨e, rfl, _⟩ := field_int hy hf 4 _ rfl Try.underlying3 cellsI _ rfl
    obtain ⟨f, rfl, hw⟩ := field_int hy hf 5 _ rfl Try.underlying3 cellsI _ rfl
    obtain ⟨g, rfl, _⟩ := field_int hy hf 6 _ rfl Try.underlying3 cellsI _ rfl
    obtain ⟨s, rfl, _⟩ := field_string hy hf 7 _ rfl Try.underlying9 cellsS _ rfl
    exact ⟨⟨a, b, c, d, e, f, g, s⟩, rfl, int_wf hw⟩

theorem open_step (fuel : Nat) (cs : List Value) (x : DataW H × List MemPlace) (hl : cs.length = 10) (h : DataW.trod enc Try.prog w base spare held fuel 53 cs = some x) : ∃ p : Stp, cs = p.cells ∧ p.ok := by
  obtain ⟨ys, n, hx1, hx2, hx3, hy, hf⟩ := DataW.trod_struct Try.underlying53 h
  match cs, hl with
  | [c0, c1, c2, c3, c4, c5, c6, c7, c8, c9], _ =>
    obtain ⟨a, rfl, ha⟩ := field_int hy hf 0 _ rfl Try.underlying3 cellsI _ rfl
    obtain ⟨t, rfl, _⟩ := field_string hy hf 1 _ rfl Try.underlying9 cellsS _ rfl
    obtain ⟨y, hy1, hr⟩ := field_read hy hf 2 _ rfl
    have hr : DataW.trod enc Try.prog w base spare held n 41 (([.int .i64 a, .string t, c2, c3, c4, c5, c6, c7, c8, c9].drop 2).take (Try.prog.cellsOf 41)) = some y := hr
    rw [cellsP] at hr
    obtain ⟨p, hp, hw⟩ := open_packet n [c2, c3, c4, c5, c6, c7, c8, c9] y rfl hr
    refine ⟨⟨a, t, p⟩, ?_, int_wf ha, hw⟩
    show .int .i64 a :: .string t :: [c2, c3, c4, c5, c6, c7, c8, c9] = .int .i64 a :: .string t :: p.cells
    rw [hp]

theorem open_steps {v : Value} {d : DataW H} {p : List MemPlace} (k : DataW.Trod enc Try.prog w base spare held 46 v d p) (o : Value.okWide Try.prog w .any base' 46 v) :
    ∃ (a : Option Addr) (cap : Nat) (l : List Stp), v = .slice a l.length cap ∧ Rd w 10 a l.length cap (l.flatMap Stp.cells) ∧ ∀ x ∈ l, Stp.ok x := by
  obtain ⟨f, k⟩ := k
  obtain ⟨a, n, cap, rfl⟩ := okWide_slice Try.underlying46 o
  obtain ⟨a', cap', l, D, D', h1, hr, hx, hD, hok⟩ := open_rows cellsStp (by omega) Stp.cells stplen (fun p _ => p.ok) open_step Try.underlying46 k
  simp only [Value.cells, List.cons.injEq, Value.slice.injEq, and_true] at h1
  obtain ⟨rfl, rfl, rfl⟩ := h1
  refine ⟨a, cap, l, rfl, hr, fun x hxm => ?_⟩
  obtain ⟨i, hi, rfl⟩ := List.mem_iff_getElem.1 hxm
  exact hok i l[i] (D[i]'(by omega)) (List.getElem?_eq_getElem hi) (List.getElem?_eq_getElem _)

instance : Inhabited ByteArray := ⟨.empty⟩
theorem open_texts {v : Value} {d : DataW H} {p : List MemPlace} (k : DataW.Trod enc Try.prog w base spare held 28 v d p) (o : Value.okWide Try.prog w .any base' 28 v) :
    ∃ (a : Option Addr) (cap : Nat) (l : List ByteArray), v = .slice a l.length cap ∧ Rd w 1 a l.length cap (l.map .string) := by
  obtain ⟨f, k⟩ := k
  obtain ⟨a, n, cap, rfl⟩ := okWide_slice Try.underlying28 o
  obtain ⟨a', cap', l, D, D', h1, hr, hx, hD, hok⟩ := open_rows (α := ByteArray) cellsS (by omega) (fun s => [.string s]) (fun _ => rfl) (fun _ _ => True) (fun fuel cs x hl h => by
    obtain ⟨s, h1, _, _⟩ := DataW.trod_string Try.underlying9 h
    exact ⟨s, h1, trivial⟩) Try.underlying28 k
  simp only [Value.cells, List.cons.injEq, Value.slice.injEq, and_true] at h1
  obtain ⟨rfl, rfl, rfl⟩ := h1
  exact ⟨a, cap, l, rfl, by rw [map_flat]; exact hr⟩
end

theorem rd_len {w : World} {k : Nat} {a : Option Addr} {n cap : Nat} {cs : List Value} (h : Rd w k a n cap cs) : n ≤ 2 ^ 63 - 1 := by have := h.2.1; have := h.2.2.1; unfold maxLen at this; omega

theorem over_contract {H : Type} {enc : TypeId × Value → H} (W : World) (base : Nat) (v0 : Value) (d0 : DataW H) (p0 : List MemPlace) (v1 : Value) (d1 : DataW H) (p1 : List MemPlace) (v2 : Value) (d2 : DataW H) (p2 : List MemPlace) (v3 : Value) (d3 : DataW H) (p3 : List MemPlace) (v4 : Value) (d4 : DataW H) (p4 : List MemPlace)
    (k0 : DataW.Trod enc Try.prog W 0 (fun _ => true) true 3 v0 d0 p0) (k1 : DataW.Trod enc Try.prog W 0 (fun _ => true) true 3 v1 d1 p1) (k2 : DataW.Trod enc Try.prog W 0 (fun _ => true) true 3 v2 d2 p2) (k3 : DataW.Trod enc Try.prog W 0 (fun _ => true) true 28 v3 d3 p3) (k4 : DataW.Trod enc Try.prog W 0 (fun _ => true) true 46 v4 d4 p4)
    (o0 : Value.okWide Try.prog W .any base 3 v0) (o1 : Value.okWide Try.prog W .any base 3 v1) (o2 : Value.okWide Try.prog W .any base 3 v2) (o3 : Value.okWide Try.prog W .any base 28 v3) (o4 : Value.okWide Try.prog W .any base 46 v4)
    (hsz : (DataW.weightsEach Try.prog [3, 3, 3, 28, 46] [d0, d1, d2, d3, d4]).all (· ≤ reachBytes) = true) :
    Calls Try.prog 4 #[v0, v1, v2, v3, v4] W (AwakePost W) := by
  obtain ⟨life, rfl, h0⟩ := open_int k0 o0
  obtain ⟨far, rfl, h1⟩ := open_int k1 o1
  obtain ⟨more, rfl, h2⟩ := open_int k2 o2
  obtain ⟨a, cap, xs, rfl, hr⟩ := open_texts k3 o3
  obtain ⟨a1, cap1, late, rfl, hr1, hok⟩ := open_steps k4 o4
  exact over_walk life far more h1 h2 a cap _ xs rfl a1 cap1 _ late rfl W hr hr1 hok (rd_len hr) (rd_len hr1)
end Go.Proofs.Ytoeokdachojhjaa
