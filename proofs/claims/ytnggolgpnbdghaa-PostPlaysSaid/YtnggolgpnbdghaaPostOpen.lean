/-
  The arguments of the laws of posts, opened: a slice of packets and a slice of ints that came in, as lists.
  No condition.
-/
import Derived.Test.YtnggolgpnbdghaaPostD
import Derived.Test.YtnggolgpnbdghaaRead
namespace Go.Proofs.Ytnggolgpnbdghaa
open Go.ChangeShapes Go.WideShapes Go.ChangeAt Go.RowKit Go.Deep
set_option linter.unusedSectionVars false
set_option linter.unusedSimpArgs false
set_option linter.unusedVariables false

theorem laidOut : laidOutB Try.prog = true := by kernel_rfl
theorem ownsNone : ownKnob Try.prog.godebug = none := by kernel_rfl
theorem cellsI : Try.prog.cellsOf 3 = 1 := by kernel_rfl
theorem cellsS : Try.prog.cellsOf 9 = 1 := by kernel_rfl
theorem bytesP : Try.prog.bytesOf 32 = 72 := by kernel_rfl

instance : Inhabited Pk := ⟨Pk.zero⟩

theorem flat_get : ∀ (xs : List Pk) (j : Nat) (u : Value), (flat xs)[j]? = some u → ∃ p, xs[j / 8]? = some p ∧ p.cells[j % 8]? = some u
  | [], j, u, h => by simp [flat] at h
  | x :: xs, j, u, h => by
    have hl : x.cells.length = 8 := rfl
    rw [flat_cons] at h
    by_cases hj : j < 8
    · rw [List.getElem?_append_left (by omega)] at h
      exact ⟨x, by rw [Nat.div_eq_of_lt hj]; rfl, by rw [Nat.mod_eq_of_lt hj]; exact h⟩
    · rw [List.getElem?_append_right (by omega), hl] at h
      obtain ⟨p, h1, h2⟩ := flat_get xs (j - 8) u h
      refine ⟨p, ?_, ?_⟩
      · rw [show j / 8 = (j - 8) / 8 + 1 from by omega]; exact h1
      · rw [show j % 8 = (j - 8) % 8 from by omega]; exact h2

section
variable {H : Type} {enc : TypeId × Value → H} {w : World} {base : Nat} {spare : Nat → Bool} {held : Bool}

/-- One packet's cells, out of its reading. -/
theorem open_packet (fuel : Nat) (cs : List Value) (x : DataW H × List MemPlace) (hl : cs.length = 8) (h : DataW.trod enc Try.prog w base spare held fuel 32 cs = some x) : ∃ p : Pk, cs = p.cells ∧ True := by
  obtain ⟨ys, n, _, _, _, hy, hf⟩ := DataW.trod_struct Try.underlying32 h
  match cs, hl with
  | [c0, c1, c2, c3, c4, c5, c6, c7], _ =>
    obtain ⟨a, rfl, _⟩ := field_int hy hf 0 _ rfl Try.underlying3 cellsI _ rfl
    obtain ⟨b, rfl, _⟩ := field_int hy hf 1 _ rfl Try.underlying3 cellsI _ rfl
    obtain ⟨c, rfl, _⟩ := field_int hy hf 2 _ rfl Try.underlying3 cellsI _ rfl
    obtain ⟨d, rfl, _⟩ := field_int hy hf 3 _ rfl Try.underlying3 cellsI _ rfl
    obtain ⟨e, rfl, _⟩ := field_int hy hf 4 _ rfl Try.underlying3 cellsI _ rfl
    obtain ⟨f, rfl, _⟩ := field_int hy hf 5 _ rfl Try.underlying3 cellsI _ rfl
    obtain ⟨g, rfl, _⟩ := field_int hy hf 6 _ rfl Try.underlying3 cellsI _ rfl
    obtain ⟨s, rfl, _⟩ := field_string hy hf 7 _ rfl Try.underlying9 cellsS _ rfl
    exact ⟨⟨a, b, c, d, e, f, g, s⟩, rfl, trivial⟩

theorem open_packets {fuel : Nat} {cs : List Value} {x : DataW H × List MemPlace} (h : DataW.trod enc Try.prog w base spare held fuel 22 cs = some x) :
    ∃ (a : Option Addr) (cap : Nat) (xs : List Pk) (D D' : List (DataW H)), cs = [.slice a xs.length cap] ∧ Rd w 8 a xs.length cap (flat xs) ∧ (x.1 = .nil ∧ xs.length = 0 ∨ x.1 = .slice D D' ∧ D.length = xs.length) := by
  obtain ⟨a, n, cap, xs, D, D', rfl, rfl, hn, hm, hx, hD, _, hc⟩ := open_list (α := Pk) cellsP Pk.cells (fun _ => rfl) (fun _ _ => True) open_packet Try.underlying22 h
  refine ⟨a, cap, xs, D, D', rfl, ⟨flat_length xs, hn, hm, ?_⟩, ?_⟩
  · rcases hc with h | ⟨y, rfl, hc⟩
    · exact .inl h
    · refine .inr ⟨y, rfl, fun j u hu => ?_⟩
      obtain ⟨p, h1, h2⟩ := flat_get xs j u hu
      have := hc (j / 8) p h1 (j % 8) u h2
      rw [show j / 8 * 8 + j % 8 = j from by omega] at this
      exact this
  · rcases hx with ⟨h1, _, h2, _⟩ | ⟨h1, _⟩
    · exact .inl ⟨h1, h2⟩
    · exact .inr ⟨h1, hD⟩

theorem open_intlist {fuel : Nat} {cs : List Value} {x : DataW H × List MemPlace} (h : DataW.trod enc Try.prog w base spare held fuel 23 cs = some x) :
    ∃ (a : Option Addr) (cap : Nat) (ts : List Int), cs = [.slice a ts.length cap] ∧ Rd w 1 a ts.length cap (ts.map (.int .i64)) ∧ ∀ t ∈ ts, -9223372036854775808 ≤ t ∧ t ≤ 9223372036854775807 := by
  obtain ⟨a, n, cap, xs, D, D', rfl, rfl, hn, hm, hx, hD, hok, hc⟩ := open_list (α := Int) cellsI (fun t => [.int .i64 t]) (fun _ => rfl) (fun t _ => (Lit.int .i64 t).wf = true) (fun fuel cs x hl h => by
    obtain ⟨n, rfl, _, hw⟩ := DataW.trod_int Try.underlying3 h
    exact ⟨n, rfl, hw⟩) Try.underlying23 h
  refine ⟨a, cap, xs, rfl, ⟨by simp, hn, hm, ?_⟩, fun t ht => ?_⟩
  · rcases hc with h | ⟨y, rfl, hc⟩
    · exact .inl h
    · refine .inr ⟨y, rfl, fun j u hu => ?_⟩
      simp only [List.getElem?_map] at hu
      obtain ⟨t, h1, rfl⟩ := Option.map_eq_some_iff.1 hu
      have := hc j t h1 0 _ rfl
      simpa using this
  · obtain ⟨i, hi, rfl⟩ := List.mem_iff_getElem.1 ht
    have hw := hok i xs[i] (D[i]'(by omega)) (List.getElem?_eq_getElem hi) (List.getElem?_eq_getElem _)
    simpa [Lit.wf, IntKind.min, IntKind.max, IntKind.signed, IntKind.bits] using hw
end

/-- The form's own reach: how many packets a slice that came in may have. -/
theorem fits_of_weight {H : Type} {d : DataW H} {n : Nat} {D D' : List (DataW H)} (hd : d = .nil ∧ n = 0 ∨ d = .slice D D' ∧ D.length = n) (hw : ∀ x ∈ d.weights Try.prog 22, x ≤ reachBytes) : fits n := by
  rcases hd with ⟨_, rfl⟩ | ⟨rfl, rfl⟩
  · exact Nat.zero_le _
  · have := hw ((D.length + D'.length) * Try.prog.bytesOf 32) (by simp [DataW.weights, Try.underlying22])
    rw [bytesP] at this
    unfold reachBytes at this
    unfold fits
    omega
end Go.Proofs.Ytnggolgpnbdghaa
