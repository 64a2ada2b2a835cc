/-
  Laws of TopOpen, RacesC, RacesLaw.
  Conditions: each law states its own.
-/
import Derived.Test.YtonnbkebjeoflaaGreatDoorRows
import Derived.Lib.LaidTab
import Derived.Stop.LaidErr
import Derived.Test.YtonnbkebjeoflaaGreatDoorCards
import Derived.Test.YtonnbkebjeoflaaGreatDoorTie
import Derived.Deep.DeepHandedRow
import Derived.Lay
import Derived.LaidMore
import Derived.SevenTiedAt
import Derived.Test.YtonnbkebjeoflaaGreatDoorJ5
import Derived.Test.YtonnbkebjeoflaaGreatDoorJ26
import Derived.Test.YtonnbkebjeoflaaGreatDoorJ46
set_option linter.unusedSectionVars false
set_option linter.unusedSimpArgs false
set_option linter.unusedVariables false
set_option maxRecDepth 100000
namespace Go.Proofs.YtonnbkebjeoflaaGreatDoor
open Go.ChangeShapes Go.WideShapes Go.ChangeAt Go.RowKit Go.Deep
theorem laidOut : laidOutB Tryz.prog = true := by kernel_rfl
theorem ownsNone : ownKnob Tryz.prog.godebug = none := by kernel_rfl
def laidP : List (String × DataW Unit) := [("math/bits.deBruijn32tab", Rows.laid_math_bits_deBruijn32tab), ("math/bits.deBruijn64tab", Rows.laid_math_bits_deBruijn64tab), ("internal/strconv.uint64pow10", Rows.laid_internal_strconv_uint64pow10), ("unicode/utf8.acceptRanges", Rows.laid_unicode_utf8_acceptRanges), ("unicode/utf8.first", Rows.laid_unicode_utf8_first)]
theorem gPowType : (Tryz.prog.globals[0]?).map (·.type) = some 294 := by kernel_rfl
theorem cellsPow : Tryz.prog.cellsOf 294 = 20 := by kernel_rfl
theorem cellsU64 : Tryz.prog.cellsOf 92 = 1 := by kernel_rfl
def pows : List Int := [1, 10, 100, 1000, 10000, 100000, 1000000, 10000000, 100000000, 1000000000, 10000000000, 100000000000, 1000000000000, 10000000000000, 100000000000000, 1000000000000000, 10000000000000000, 100000000000000000, 1000000000000000000, 10000000000000000000]
theorem tab_of {W : World} (h : laidMet Tryz.prog laidP W) : Tab W := by
 have h2 : laidMet Tryz.prog (("internal/strconv.uint64pow10", Lib.tabData .u64 pows) :: [("unicode/utf8.acceptRanges", Rows.laid_unicode_utf8_acceptRanges), ("unicode/utf8.first", Rows.laid_unicode_utf8_first)]) W := laidMet.tail (laidMet.tail h)
 have hT := Lib.tabIs_of_head gPow gPowType Tryz.underlying294 Tryz.underlying92 cellsU64 cellsPow h2
 have e : Lib.pow10Tab = pows := by decide
 unfold Tab
 rw [e]
 exact hT
theorem gTab : Tryz.prog.globalNamed "math/bits.deBruijn64tab" = some 3 := by kernel_rfl
theorem gTabType : (Tryz.prog.globals[3]?).map (·.type) = some 268 := by kernel_rfl
theorem cells64 : Tryz.prog.cellsOf 268 = 64 := by kernel_rfl
theorem cellsU : Tryz.prog.cellsOf 5 = 1 := by kernel_rfl
def tab64 : List Int := [0, 1, 56, 2, 57, 49, 28, 3, 61, 58, 42, 50, 38, 29, 17, 4, 62, 47, 59, 36, 45, 43, 51, 22, 53, 39, 33, 30, 24, 18, 12, 5, 63, 55, 48, 27, 60, 41, 37, 16, 46, 35, 44, 21, 52, 32, 23, 11, 54, 26, 40, 15, 34, 20, 31, 10, 25, 14, 19, 9, 13, 8, 7, 6]
theorem atab_of {W : World} (h : laidMet Tryz.prog laidP W) : A.Tab W := by
 have h2 : laidMet Tryz.prog (("math/bits.deBruijn64tab", Lib.tabData .u8 tab64) :: [("internal/strconv.uint64pow10", Rows.laid_internal_strconv_uint64pow10), ("unicode/utf8.acceptRanges", Rows.laid_unicode_utf8_acceptRanges), ("unicode/utf8.first", Rows.laid_unicode_utf8_first)]) W := laidMet.tail h
 have hT := Lib.tabIs_of_head gTab gTabType Tryz.underlying268 Tryz.underlying5 cellsU cells64 h2
 have hc := hT.cell gTab 15 (by decide)
 exact ⟨hc, World.block_lt_of_cell? _ _ hc⟩
theorem env_of {W : World} (h : laidMet Tryz.prog laidP W) (hs : W.ShapedOpen Tryz.prog) : Env W := ⟨Tryz.laysM146.s1_3 W hs, tab_of h, atab_of h⟩
theorem cellsI : Tryz.prog.cellsOf 3 = 1 := by kernel_rfl
theorem cellsS : Tryz.prog.cellsOf 9 = 1 := by kernel_rfl
section
variable {H : Type} {enc : TypeId × Value → H} {w : World} {base : Nat} {spare : Nat → Bool} {held : Bool} {base' : Nat}
theorem open_ints {v : Value} {d : DataW H} {p : List MemPlace} (k : DataW.Trod enc Tryz.prog w base spare held 23 v d p) (o : Value.okWide Tryz.prog w .any base' 23 v) :
 ∃ (a : Option Addr) (cap : Nat) (l : List Int), v = .slice a l.length cap ∧ Rd w 1 a l.length cap (l.flatMap fun z : Int => [Value.int .i64 z]) ∧ ∀ x ∈ l, okInt x := by
 obtain ⟨f, k⟩ := k
 obtain ⟨a, n, cap, rfl⟩ := okWide_slice Tryz.underlying23 o
 obtain ⟨a', cap', l, D, D', h1, hr, hx, hD, hok⟩ := open_rows (α := Int) cellsI (by omega) (fun s => [Value.int .i64 s]) (fun _ => rfl) (fun p _ => okInt p) (fun fuel cs x hl h => by
  obtain ⟨n, h1, _, h2⟩ := DataW.trod_int Tryz.underlying3 h
  exact ⟨n, h1, int_wf h2⟩) Tryz.underlying23 k
 simp only [Value.cells, List.cons.injEq, Value.slice.injEq, and_true] at h1
 obtain ⟨rfl, rfl, rfl⟩ := h1
 refine ⟨a, cap, l, rfl, hr, fun x hxm => ?_⟩
 obtain ⟨i, hi, rfl⟩ := List.mem_iff_getElem.1 hxm
 exact hok i l[i] (D[i]'(by omega)) (List.getElem?_eq_getElem hi) (List.getElem?_eq_getElem _)
theorem open_strs {v : Value} {d : DataW H} {p : List MemPlace} (k : DataW.Trod enc Tryz.prog w base spare held 22 v d p) (o : Value.okWide Tryz.prog w .any base' 22 v) :
 ∃ (a : Option Addr) (cap : Nat) (l : List ByteArray), v = .slice a l.length cap ∧ Rd w 1 a l.length cap (l.flatMap A.strC) := by
 obtain ⟨f, k⟩ := k
 obtain ⟨a, n, cap, rfl⟩ := okWide_slice Tryz.underlying22 o
 obtain ⟨a', cap', l, D, D', h1, hr, hx, hD, hok⟩ := open_rows cellsS (by omega) A.strC (fun _ => rfl) (fun p _ => True) (fun fuel cs x hl h => by
  obtain ⟨s, rfl, _, _⟩ := DataW.trod_string Tryz.underlying9 h
  exact ⟨s, rfl, trivial⟩) Tryz.underlying22 k
 simp only [Value.cells, List.cons.injEq, Value.slice.injEq, and_true] at h1
 obtain ⟨rfl, rfl, rfl⟩ := h1
 exact ⟨a, cap, l, rfl, hr⟩
end
open Go.ChangeShapes Go.WideShapes Go.ChangeAt Go.RowKit
theorem topRaces_contract {H : Type} {enc : TypeId × Value → H} (W : World) (base : Nat) (v0 : Value) (d0 : DataW H) (p0 : List MemPlace) (v1 : Value) (d1 : DataW H) (p1 : List MemPlace)
 (k0 : DataW.Trod enc Tryz.prog W 0 (fun _ => true) true 22 v0 d0 p0) (k1 : DataW.Trod enc Tryz.prog W 0 (fun _ => true) true 23 v1 d1 p1)
 (o0 : Value.okWide Tryz.prog W .any base 22 v0) (o1 : Value.okWide Tryz.prog W .any base 23 v1) (hT : Env W)
 (hsz : (DataW.weightsEach Tryz.prog [22, 23] [d0, d1]).all (· ≤ reachBytes) = true) :
 Calls Tryz.prog 3 #[v0, v1] W (CpPost (.bool true) W) := by
 obtain ⟨a0, c0, l0, rfl, hr0⟩ := open_strs k0 o0
 obtain ⟨a1, c1, l1, rfl, hr1, h1⟩ := open_ints k1 o1
 exact races_any W hT l0 a0 c0 hr0 l1 a1 c1 hr1 h1
end Go.Proofs.YtonnbkebjeoflaaGreatDoor
namespace Go.Proofs.YtonnbkebjeoflaaGreatDoor.topRaces
open Go.ChangeShapes Go.WideShapes Go.ChangeAt Go.RowKit
noncomputable def laidWorld (os : Os) : World := World.laidAll Tryz.prog os laidP
theorem laid_met (os : Os) : laidMetH Tryz.prog Rows.topRacesRow.laid ((laidWorld os).forCall (fun _ _ => 0) ⟨#[], #[.slice none 0 0, .slice none 0 0], []⟩).memory := by
 rw [MakeChecks.laidMetH_plain _ _ _ (by kernel_rfl)]
 exact laidMet_laidAll (laid := laidP) _ (by kernel_rfl) (by kernel_rfl)
theorem reads (os : Os) {H : Type} (enc : TypeId × Value → H) : ∃ places, DataW.whole enc Tryz.prog ((laidWorld os).forCall (fun _ _ => 0) ⟨#[], #[.slice none 0 0, .slice none 0 0], []⟩).memory Tryz.f3.params.toList Rows.topRacesSpec.vars false (#[.slice none 0 0, .slice none 0 0] : Array Value).toList 8 = some ([.nil, .nil], [], places) :=
 ⟨[], by kernel_rfl⟩
set_option maxRecDepth 100000 in
theorem lifted (os : Os) (started : os.Started) (H : Type) (enc : TypeId × Value → H) (G : Stop.Interp) :
 ReturnsInHanded {} Tryz.checked os 3 .any ((OpenSpec.ofChange Rows.topRacesSpec).preRow enc Tryz.prog Tryz.f3 Rows.topRacesRow.domain false Rows.topRacesRow.laid) (((OpenSpec.ofChange Rows.topRacesSpec).at G).post enc Tryz.prog Tryz.f3 false true false false) := by
 obtain ⟨places, hx⟩ := reads os enc
 refine returnsInHanded_of_row (C := Tryz.checked) (s := OpenSpec.ofChange Rows.topRacesSpec) ownsNone started (by kernel_rfl) Tryz.func3
  (witness_row_at (enc := enc) (C := Tryz.checked) false (laidWorld os) #[.slice none 0 0, .slice none 0 0] (World.laidAll_os _ _ _) (by kernel_rfl) (by kernel_rfl) (by kernel_rfl)
   (OpenSpec.preRow_of_cond 8 hx (by kernel_rfl) (fun k hk => by cases hk) (by kernel_rfl) (laid_met os))) ?_
 intro W base args ds gs before hval0 hW hcnd hk hsz0 hL hSh _
 have hval : ∀ (j : Nat) t v, Tryz.f3.params[j]? = some t → args[j]? = some v → Value.okWide Tryz.prog W .any base t v := hval0
 have hW' := hW
 obtain ⟨p, q, hA0, hV, rfl, hfz, hnd⟩ := hW
 have hA : DataW.TrodAll enc Tryz.prog W 0 (fun _ => true) true Tryz.f3.params.toList args.toList ds p := hA0
 rw [Tryz.params3] at hA hval
 obtain ⟨v0, vs0, d0, ds0, p0, q0, hargs, rfl, rfl, h0, r0⟩ := trodAll_cons hA
 obtain ⟨v1, vs1, d1, ds1, p1, q1, rfl, rfl, rfl, h1, r1⟩ := trodAll_cons r0
 obtain ⟨rfl, rfl, rfl⟩ := trodAll_nil r1
 obtain rfl : args = #[v0, v1] := by cases args; simp_all
 obtain ⟨rfl, rfl⟩ := trodVars_none hV
 have k0 := h0
 have lt0 : ∀ x ∈ p0, x.block < W.heap.size := by obtain ⟨m, hm⟩ := k0; exact DataW.trod_lt m _ _ _ hm
 have k1 := h1
 have lt1 : ∀ x ∈ p1, x.block < W.heap.size := by obtain ⟨m, hm⟩ := k1; exact DataW.trod_lt m _ _ _ hm
 have hsz : (DataW.weightsEach Tryz.prog [22, 23] [d0, d1]).all (· ≤ reachBytes) = true := hsz0
 rw [MakeChecks.laidMetH_plain _ _ _ (by kernel_rfl)] at hL
 have hT : Env W := env_of hL hSh
 clear hA0 hval0 hsz0 hL hk hSh
 refine (topRaces_contract W base v0 d0 p0 v1 d1 p1 k0 k1 (hval 0 22 v0 rfl rfl) (hval 1 23 v1 rfl rfl) hT hsz).mono fun e W' ⟨he, hmod⟩ => ?_
 have bel := hmod.below
 subst he
 exact ⟨_, rfl, _, _, _, [], _, [], hW', trodAll_mk1 (shut_bool Tryz.underlying4 _), (trodAll_cons_mk (Below.trod laidOut (by kernel_rfl) (of_decide_eq_true (by kernel_rfl)) k0 bel lt0) (trodAll_cons_mk (Below.trod laidOut (by kernel_rfl) (of_decide_eq_true (by kernel_rfl)) k1 bel lt1) trodAll_mk0)), rfl, bel.frame _, fun h => by cases h⟩
theorem and_of {a b : Bool} (h : a = true) (k : b = true) : (a && b) = true := by rw [h, k]; rfl
theorem j1 : (Rows.topRacesRow.wf (OpenSpec.ofChange Rows.topRacesSpec)) = true := by kernel_rfl
theorem j2 : (laidOutB Tryz.prog) = true := by kernel_rfl
theorem j3 : (mapsRowed Tryz.prog) = true := by kernel_rfl
theorem j4 : ((Tryz.f3 : Func).params.all (Tryz.prog.readableRec ·)) = true := by kernel_rfl
theorem j5 : (namedTie Tryz.prog Rows.topRacesRow.named Rows.topRacesSpec.vars) = true := by kernel_rfl
theorem j6 : ((Rows.topRacesRow.stops == [])) = true := by kernel_rfl
theorem j7 : ((Tryz.prog.stops == [])) = true := by kernel_rfl
theorem j8 : ((Rows.topRacesRow.knobs == [])) = true := by kernel_rfl
theorem j9 : ((Tryz.prog.stopKnobs == [])) = true := by kernel_rfl
theorem j10 : ((Rows.topRacesRow.inPlace == Tryz.prog.inPlace 3)) = true := by kernel_rfl
theorem j11 : ((Rows.topRacesRow.unfollowed == Tryz.prog.unfollowed 3)) = true := by kernel_rfl
theorem j12 : ((Rows.topRacesRow.recurses == Tryz.prog.recurses 3)) = true := by kernel_rfl
theorem j13 : ((Rows.topRacesRow.named == Tryz.prog.varsNamed 3)) = true := by kernel_rfl
theorem j14 : ((Rows.topRacesRow.maps == ((Tryz.f3 : Func).params.toList ++ Rows.topRacesSpec.plain.varTypes Tryz.prog).any (Tryz.prog.mapsRec ·))) = true := by kernel_rfl
theorem j15 : ((Rows.topRacesRow.ifaces == ((Tryz.f3 : Func).params.toList ++ Rows.topRacesSpec.plain.varTypes Tryz.prog).any (Tryz.prog.ifacesRec ·))) = true := by kernel_rfl
theorem j16 : ((Rows.topRacesRow.mapsOut == Tryz.prog.mapsAmong (Tryz.f3 : Func).resultTypes.toList)) = true := by kernel_rfl
theorem j17 : ((Rows.topRacesRow.loops == ((Tryz.f3 : Func).params.toList ++ Rows.topRacesSpec.plain.varTypes Tryz.prog).any (Tryz.prog.loopsFrom ·))) = true := by kernel_rfl
theorem j18 : ((Rows.topRacesRow.wideKeys == ((Tryz.f3 : Func).params.toList ++ Rows.topRacesSpec.plain.varTypes Tryz.prog ++ (Tryz.f3 : Func).resultTypes.toList).any (Tryz.prog.wideKeysFrom ·))) = true := by kernel_rfl
theorem j19 : (Rows.topRacesSpec.vars.all (Tryz.prog.varReadable ·)) = true := by kernel_rfl
theorem j20 : ((Tryz.f3 : Func).resultTypes.all (fun t => Tryz.prog.readableRec t && decide (t < Tryz.prog.types.size))) = true := by kernel_rfl
theorem j21 : ((Rows.topRacesRow.ifacesOut == (Tryz.f3 : Func).resultTypes.toList.any (Tryz.prog.ifacesRec ·))) = true := by kernel_rfl
theorem j22 : ((Rows.topRacesRow.loopsOut == (Tryz.f3 : Func).resultTypes.toList.any (Tryz.prog.loopsFrom ·))) = true := by kernel_rfl
theorem j23 : ((Rows.topRacesRow.plainKeys == Tryz.prog.plainKeys)) = true := by kernel_rfl
theorem j24 : (Rows.topRacesRow.shortTexts.isNone) = true := by kernel_rfl
theorem j25 : (Tryz.prog.stopsHeard) = true := by kernel_rfl
theorem j26 : (Tryz.prog.mayEnter) = true := by kernel_rfl
theorem j27 : ((Rows.topRacesRow.lifted == Tryz.prog.liftsFinal)) = true := by kernel_rfl
theorem j28 : ((Tryz.prog.make == some Rows.topRacesRow.make)) = true := by kernel_rfl
theorem j29 : ((Rows.topRacesRow.kinds == (if Rows.topRacesRow.domain.isEmpty then [] else (Tryz.f3 : Func).params.toList.map fun t => match Tryz.prog.underlying t with | some (.int k) => some k | _ => none))) = true := by kernel_rfl
theorem j30 : ((Rows.topRacesRow.pinned == Rows.topRacesRow.pinnedBy)) = true := by kernel_rfl
theorem j31 : ((Rows.topRacesRow.veiled == ((Tryz.f3 : Func).params.toList ++ Rows.topRacesSpec.plain.varTypes Tryz.prog ++ (Tryz.f3 : Func).resultTypes.toList).any (Tryz.prog.veiledRec ·))) = true := by kernel_rfl
theorem j32 : (Rows.topRacesRow.veiledFits Tryz.prog (Tryz.f3 : Func).params.toList ((Tryz.f3 : Func).params.toList ++ Rows.topRacesSpec.plain.varTypes Tryz.prog ++ (Tryz.f3 : Func).resultTypes.toList)) = true := by kernel_rfl
theorem closed : joinedFacts Tryz.prog 3 Tryz.f3 Rows.topRacesSpec Rows.topRacesRow = true := by
 unfold joinedFacts
 exact (and_of (and_of (and_of (and_of (and_of (and_of (and_of (and_of (and_of (and_of (and_of (and_of (and_of (and_of (and_of (and_of (and_of (and_of (and_of (and_of (and_of (and_of (and_of (and_of (and_of (and_of (and_of (and_of (and_of (and_of (and_of j1 j2) j3) j4) j5) j6) j7) j8) j9) j10) j11) j12) j13) j14) j15) j16) j17) j18) j19) j20) j21) j22) j23) j24) j25) j26) j27) j28) j29) j30) j31) j32)
theorem said : Rows.TopRacesSaid :=
 OpenClaim.holds_of_cond 3 Tryz.f3 rfl rfl rfl rfl rfl rfl rfl ⟨rfl, rfl, rfl, rfl, rfl⟩ rfl rfl rfl rfl rfl (by kernel_rfl) Tryz.func3 closed
  (of_decide_eq_true (by kernel_rfl)) (by unfold Func.isWrapper; first | (rw [if_pos (by decide +kernel)]; kernel_rfl) | (rw [if_neg (by decide +kernel)]; exact ⟨rfl, rfl⟩))
  (fun os started H enc _ G => by rw [OpenClaim.pre_eq_preRow]; exact lifted os started H enc G)
theorem plain (f : FuncId) (fn : Func) (hf : Tryz.pinned.checked.prog.funcNamed "arboretum/arboretumtop.TopRaces" = some f) (hfn : Tryz.pinned.checked.prog.funcs[f]? = some fn) :
 true = Tryz.pinned.checked.prog.looks [] ∧ ∀ (j : Nat) t, fn.params[j]? = some t → Tryz.pinned.checked.prog.wantsStandIn t = false := by
 obtain rfl : f = 3 := Option.some.inj ((show Tryz.prog.funcNamed "arboretum/arboretumtop.TopRaces" = some 3 by kernel_rfl).symm.trans hf) |>.symm
 obtain rfl : fn = Tryz.f3 := (Option.some.inj (Tryz.func3.symm.trans hfn)).symm
 refine ⟨by kernel_rfl, fun j t ht => ?_⟩
 rw [Tryz.params3] at ht
 have hm : t ∈ [22, 23] := by simpa using Array.mem_of_getElem? ht
 have hall : ([22, 23].all fun u => !Tryz.prog.wantsStandIn u) = true := by kernel_rfl
 exact (show Tryz.prog.wantsStandIn t = false by simpa using List.all_eq_true.1 hall t hm)
theorem proved : Rows.TopRacesCardSaid :=
 Claim7.holds_tied_plain_at .later [] _ _ _ _ said (fun _ h => by cases h) (by kernel_rfl) (fun _ h => by cases h) topRaces_row_tie rfl ⟨rfl, rfl⟩ (by kernel_rfl) rfl plain (by kernel_rfl)
end Go.Proofs.YtonnbkebjeoflaaGreatDoor.topRaces
