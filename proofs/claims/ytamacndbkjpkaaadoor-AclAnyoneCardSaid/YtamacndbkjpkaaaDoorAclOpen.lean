/-
  The arguments of the laws of ACLs, opened; what the row's list of variables gives.
  No condition.
-/
import Derived.Test.YtamacndbkjpkaaaDoorAclAwake
import Derived.Test.YtamacndbkjpkaaaDoorRead
import Derived.Lib.LaidTab
import Derived.Stop.LaidErr
namespace Go.Proofs.YtamacndbkjpkaaaDoor
open Go.ChangeShapes Go.WideShapes Go.ChangeAt Go.RowKit Go.Deep
set_option linter.unusedSectionVars false
set_option linter.unusedSimpArgs false
set_option linter.unusedVariables false

theorem laidOut : laidOutB Tryd.prog = true := by kernel_rfl
theorem ownsNone : ownKnob Tryd.prog.godebug = none := by kernel_rfl
theorem cellsI : Tryd.prog.cellsOf 3 = 1 := by kernel_rfl
theorem cellsS : Tryd.prog.cellsOf 9 = 1 := by kernel_rfl
theorem cellsA : Tryd.prog.cellsOf 27 = 2 := by kernel_rfl
theorem bytesA : Tryd.prog.bytesOf 27 = 24 := by kernel_rfl
theorem bytesS : Tryd.prog.bytesOf 9 = 16 := by kernel_rfl

/-! ### The table -/

def laid3 {H : Type} : List (String × DataW H) := [("math/bits.deBruijn32tab", Rows.laid_math_bits_deBruijn32tab), ("math/bits.deBruijn64tab", Rows.laid_math_bits_deBruijn64tab), ("internal/strconv.uint64pow10", Rows.laid_internal_strconv_uint64pow10)]
theorem gTab : Tryd.prog.globalNamed "math/bits.deBruijn64tab" = some 3 := by kernel_rfl
theorem gTabType : (Tryd.prog.globals[3]?).map (·.type) = some 90 := by kernel_rfl
theorem cells64 : Tryd.prog.cellsOf 90 = 64 := by kernel_rfl
theorem cellsU : Tryd.prog.cellsOf 5 = 1 := by kernel_rfl
def tab64 : List Int := [0, 1, 56, 2, 57, 49, 28, 3, 61, 58, 42, 50, 38, 29, 17, 4, 62, 47, 59, 36, 45, 43, 51, 22, 53, 39, 33, 30, 24, 18, 12, 5, 63, 55, 48, 27, 60, 41, 37, 16, 46, 35, 44, 21, 52, 32, 23, 11, 54, 26, 40, 15, 34, 20, 31, 10, 25, 14, 19, 9, 13, 8, 7, 6]
theorem tab_of {W : World} (h : laidMet Tryd.prog laid3 W) : Tab W := by
  have h2 : laidMet Tryd.prog (("math/bits.deBruijn64tab", Lib.tabData .u8 tab64) :: [("internal/strconv.uint64pow10", Rows.laid_internal_strconv_uint64pow10)]) W := laidMet.tail h
  have hT := Lib.tabIs_of_head gTab gTabType Tryd.underlying90 Tryd.underlying5 cellsU cells64 h2
  have hc := hT.cell gTab 15 (by decide)
  exact ⟨hc, World.block_lt_of_cell? _ _ hc⟩

section
variable {H : Type} {enc : TypeId × Value → H} {w : World} {base : Nat} {spare : Nat → Bool} {held : Bool} {base' : Nat}

theorem open_int {v : Value} {d : DataW H} {p : List MemPlace} (k : DataW.Trod enc Tryd.prog w base spare held 3 v d p) (o : Value.okWide Tryd.prog w .any base' 3 v) : ∃ n : Int, v = .int .i64 n ∧ (-9223372036854775808 ≤ n ∧ n ≤ 9223372036854775807) := by
  obtain ⟨f, k⟩ := k
  obtain ⟨s, rfl⟩ := okWide_int Tryd.underlying3 o
  obtain ⟨n, h1, _, h2⟩ := DataW.trod_int Tryd.underlying3 k
  simp only [Value.cells, List.cons.injEq, Value.int.injEq, and_true, true_and] at h1
  subst h1
  exact ⟨s, rfl, int_wf h2⟩

theorem open_str {v : Value} {d : DataW H} {p : List MemPlace} (k : DataW.Trod enc Tryd.prog w base spare held 9 v d p) (o : Value.okWide Tryd.prog w .any base' 9 v)
    (hw : ∀ x ∈ d.weights Tryd.prog 9, x ≤ reachBytes) : ∃ s : ByteArray, v = .string s ∧ s.size ≤ 140737488351232 := by
  obtain ⟨f, k⟩ := k
  obtain ⟨s, rfl⟩ := okWide_string Tryd.underlying9 o
  obtain ⟨x, h1, h3, h2⟩ := DataW.trod_string Tryd.underlying9 k
  simp only [Value.cells, List.cons.injEq, Value.string.injEq, and_true] at h1
  subst h1
  refine ⟨s, rfl, ?_⟩
  obtain ⟨rfl, -⟩ := Prod.mk.inj h3
  have := hw s.data.toList.length (by simp [DataW.weights])
  rw [Array.length_toList] at this
  unfold reachBytes at this
  show s.data.size ≤ _
  omega

instance : Inhabited ARow := ⟨(0, ByteArray.empty)⟩

theorem open_row (fuel : Nat) (cs : List Value) (x : DataW H × List MemPlace) (hl : cs.length = 2) (h : DataW.trod enc Tryd.prog w base spare held fuel 27 cs = some x) : ∃ p : ARow, cs = p.cells ∧ p.fit := by
  obtain ⟨ys, n, hx1, hx2, hx3, hy, hf⟩ := DataW.trod_struct Tryd.underlying27 h
  match cs, hl with
  | [c0, c1], _ =>
    obtain ⟨a, rfl, ha⟩ := field_int hy hf 0 _ rfl Tryd.underlying3 cellsI _ rfl
    obtain ⟨s, rfl, hs, y, hy1, hy2⟩ := field_string hy hf 1 _ rfl Tryd.underlying9 cellsS _ rfl
    exact ⟨(a, s), rfl, int_wf ha, hs⟩

theorem open_acls {v : Value} {d : DataW H} {p : List MemPlace} (k : DataW.Trod enc Tryd.prog w base spare held 22 v d p) (o : Value.okWide Tryd.prog w .any base' 22 v)
    (hw : ∀ x ∈ d.weights Tryd.prog 22, x ≤ reachBytes) :
    ∃ (a : Option Addr) (cap : Nat) (l : List ARow), v = .slice a l.length cap ∧ Rd w 2 a l.length cap (l.flatMap ARow.cells) ∧ l.length * 24 ≤ 140737488351232 ∧ ∀ x ∈ l, ARow.fit x := by
  obtain ⟨f, k⟩ := k
  obtain ⟨a, n, cap, rfl⟩ := okWide_slice Tryd.underlying22 o
  obtain ⟨a', cap', l, D, D', h1, hr, hx, hD, hok⟩ := open_rows cellsA (by omega) ARow.cells (fun _ => rfl) (fun p _ => p.fit) open_row Tryd.underlying22 k
  simp only [Value.cells, List.cons.injEq, Value.slice.injEq, and_true] at h1
  obtain ⟨rfl, rfl, rfl⟩ := h1
  refine ⟨a, cap, l, rfl, hr, ?_, fun x hxm => ?_⟩
  · rcases hx with ⟨_, h, _⟩ | h
    · rw [h]; decide
    · have := hw ((D.length + D'.length) * Tryd.prog.bytesOf 27) (by simp only at h; rw [h]; simp [DataW.weights, Tryd.underlying22])
      rw [bytesA] at this
      unfold reachBytes at this
      omega
  · obtain ⟨i, hi, rfl⟩ := List.mem_iff_getElem.1 hxm
    exact hok i l[i] (D[i]'(by omega)) (List.getElem?_eq_getElem hi) (List.getElem?_eq_getElem _)

theorem open_strs {v : Value} {d : DataW H} {p : List MemPlace} (k : DataW.Trod enc Tryd.prog w base spare held 25 v d p) (o : Value.okWide Tryd.prog w .any base' 25 v)
    (hw : ∀ x ∈ d.weights Tryd.prog 25, x ≤ reachBytes) :
    ∃ (a : Option Addr) (cap : Nat) (l : List ByteArray), v = .slice a l.length cap ∧ Rd w 1 a l.length cap (l.flatMap strC) ∧ l.length * 16 ≤ 140737488351232 := by
  obtain ⟨f, k⟩ := k
  obtain ⟨a, n, cap, rfl⟩ := okWide_slice Tryd.underlying25 o
  obtain ⟨a', cap', l, D, D', h1, hr, hx, hD, hok⟩ := open_rows cellsS (by omega) strC (fun _ => rfl) (fun p _ => True) (fun fuel cs x hl h => by
    obtain ⟨s, rfl, _, _⟩ := DataW.trod_string Tryd.underlying9 h
    exact ⟨s, rfl, trivial⟩) Tryd.underlying25 k
  simp only [Value.cells, List.cons.injEq, Value.slice.injEq, and_true] at h1
  obtain ⟨rfl, rfl, rfl⟩ := h1
  refine ⟨a, cap, l, rfl, hr, ?_⟩
  rcases hx with ⟨_, h, _⟩ | h
  · rw [h]; decide
  · have := hw ((D.length + D'.length) * Tryd.prog.bytesOf 9) (by simp only at h; rw [h]; simp [DataW.weights, Tryd.underlying25])
    rw [bytesS] at this
    unfold reachBytes at this
    omega
end
end Go.Proofs.YtamacndbkjpkaaaDoor
