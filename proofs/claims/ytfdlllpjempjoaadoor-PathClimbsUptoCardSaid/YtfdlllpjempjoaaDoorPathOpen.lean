/-
  The arguments of the laws of paths, opened; what the row's list of variables gives.
  No condition.
-/
import Derived.Test.YtfdlllpjempjoaaDoorPathAwake
import Derived.Test.YtfdlllpjempjoaaDoorRead
import Derived.Lib.LaidTab
import Derived.Stop.LaidErr
namespace Go.Proofs.YtfdlllpjempjoaaDoor
open Go.ChangeShapes Go.WideShapes Go.ChangeAt Go.RowKit Go.Deep
set_option linter.unusedSectionVars false
set_option linter.unusedSimpArgs false
set_option linter.unusedVariables false

theorem laidOut : laidOutB Tryd.prog = true := by kernel_rfl
theorem ownsNone : ownKnob Tryd.prog.godebug = none := by kernel_rfl

def laidP : List (String × DataW Unit) := [("math/bits.deBruijn32tab", Rows.laid_math_bits_deBruijn32tab), ("math/bits.deBruijn64tab", Rows.laid_math_bits_deBruijn64tab), ("internal/strconv.uint64pow10", Rows.laid_internal_strconv_uint64pow10), ("unicode/utf8.acceptRanges", Rows.laid_unicode_utf8_acceptRanges), ("unicode/utf8.first", Rows.laid_unicode_utf8_first)]
theorem gPowType : (Tryd.prog.globals[1]?).map (·.type) = some 77 := by kernel_rfl
theorem cellsPow : Tryd.prog.cellsOf 77 = 20 := by kernel_rfl
theorem cellsU64 : Tryd.prog.cellsOf 60 = 1 := by kernel_rfl
def pows : List Int := [1, 10, 100, 1000, 10000, 100000, 1000000, 10000000, 100000000, 1000000000, 10000000000, 100000000000, 1000000000000, 10000000000000, 100000000000000, 1000000000000000, 10000000000000000, 100000000000000000, 1000000000000000000, 10000000000000000000]
theorem tab_of {W : World} (h : laidMet Tryd.prog laidP W) : Tab W := by
  have h2 : laidMet Tryd.prog (("internal/strconv.uint64pow10", Lib.tabData .u64 pows) :: [("unicode/utf8.acceptRanges", Rows.laid_unicode_utf8_acceptRanges), ("unicode/utf8.first", Rows.laid_unicode_utf8_first)]) W := laidMet.tail (laidMet.tail h)
  have hT := Lib.tabIs_of_head gPow gPowType Tryd.underlying77 Tryd.underlying60 cellsU64 cellsPow h2
  have e : Lib.pow10Tab = pows := by decide
  unfold Tab
  rw [e]
  exact hT
theorem ready_of {W : World} (h : laidMet Tryd.prog laidP W) (hs : W.ShapedOpen Tryd.prog) : Ready W := ⟨Tryd.laysM146.s1_3 W hs, tab_of h⟩

section
variable {H : Type} {enc : TypeId × Value → H} {w : World} {base : Nat} {spare : Nat → Bool} {held : Bool} {base' : Nat}

theorem open_int {v : Value} {d : DataW H} {p : List MemPlace} (k : DataW.Trod enc Tryd.prog w base spare held 3 v d p) (o : Value.okWide Tryd.prog w .any base' 3 v) : ∃ n : Int, v = .int .i64 n ∧ (-9223372036854775808 ≤ n ∧ n ≤ 9223372036854775807) := by
  obtain ⟨f, k⟩ := k
  obtain ⟨s, rfl⟩ := okWide_int Tryd.underlying3 o
  obtain ⟨n, h1, _, h2⟩ := DataW.trod_int Tryd.underlying3 k
  simp only [Value.cells, List.cons.injEq, Value.int.injEq, and_true, true_and] at h1
  subst h1
  exact ⟨s, rfl, int_wf h2⟩

theorem open_str {v : Value} {d : DataW H} {p : List MemPlace} (k : DataW.Trod enc Tryd.prog w base spare held 9 v d p) (o : Value.okWide Tryd.prog w .any base' 9 v) : ∃ s : ByteArray, v = .string s ∧ s.size ≤ Rows.uptoBulk d := by
  obtain ⟨f, k⟩ := k
  obtain ⟨s, rfl⟩ := okWide_string Tryd.underlying9 o
  obtain ⟨x, h1, h3, h2⟩ := DataW.trod_string Tryd.underlying9 k
  simp only [Value.cells, List.cons.injEq, Value.string.injEq, and_true] at h1
  subst h1
  refine ⟨s, rfl, ?_⟩
  obtain ⟨rfl, -⟩ := Prod.mk.inj h3
  simp only [Rows.uptoBulk, Array.length_toList]
  show s.data.size ≤ _
  omega
end

theorem pathChecks_contract {H : Type} {enc : TypeId × Value → H} (W : World) (base : Nat) (v0 : Value) (d0 : DataW H) (p0 : List MemPlace)
    (k0 : DataW.Trod enc Tryd.prog W 0 (fun _ => true) true 9 v0 d0 p0) (o0 : Value.okWide Tryd.prog W .any base 9 v0) (hT : Ready W)
    (hsz : (DataW.weightsEach Tryd.prog [9] [d0]).all (· ≤ reachBytes) = true) (hkk : Rows.uptoBulkAll [d0] ≤ 1048576) :
    Calls Tryd.prog 3 #[v0] W (CopyPost (.bool true) W) := by
  simp only [Rows.uptoBulkAll] at hkk
  obtain ⟨s, rfl, hs⟩ := open_str k0 o0
  exact checks_any s (by omega) W hT
end Go.Proofs.YtfdlllpjempjoaaDoor
