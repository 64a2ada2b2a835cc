/-
  WireReads, walked: any bytes as each of all things.
  Conditions: the text's size, as it comes in.
-/
import Derived.Test.YtmbkbkfcbloafaaGreatWireLawE
import Derived.Test.YtmbkbkfcbloafaaGreatWireLawQ
import Derived.Test.YtmbkbkfcbloafaaGreatWireLawP
import Derived.Test.YtmbkbkfcbloafaaGreatWireLawM
import Derived.Test.YtmbkbkfcbloafaaGreatJsmall
import Derived.Test.YtmbkbkfcbloafaaGreatJbase
namespace Go.Proofs.YtmbkbkfcbloafaaGreat
open Go.ChangeShapes Go.WideShapes Go.ChangeAt Go.RowKit Go.Deep
set_option linter.unusedSectionVars false
set_option linter.unusedSimpArgs false
set_option linter.unusedVariables false
set_option maxRecDepth 100000

theorem laidOut : laidOutB Tryz.prog = true := by kernel_rfl
theorem ownsNone : ownKnob Tryz.prog.godebug = none := by kernel_rfl
section
variable {H : Type} {enc : TypeId × Value → H} {w : World} {base base' : Nat} {spare : Nat → Bool} {held : Bool}
theorem open_str {v : Value} {d : DataW H} {p : List MemPlace} (k : DataW.Trod enc Tryz.prog w base spare held 9 v d p) (o : Value.okWide Tryz.prog w .any base' 9 v)
    (hw : ∀ x ∈ d.weights Tryz.prog 9, x ≤ reachBytes) : ∃ s : ByteArray, v = .string s ∧ bfits s.size ∧ s.size ≤ 140737488351232 := by
  obtain ⟨f, k⟩ := k
  obtain ⟨s, rfl⟩ := okWide_string Tryz.underlying9 o
  obtain ⟨x, h1, h3, h2⟩ := DataW.trod_string Tryz.underlying9 k
  simp only [Value.cells, List.cons.injEq, Value.string.injEq, and_true] at h1
  subst h1
  refine ⟨s, rfl, ?_⟩
  obtain ⟨rfl, -⟩ := Prod.mk.inj h3
  have := hw s.data.toList.length (by simp [DataW.weights])
  rw [Array.length_toList] at this
  unfold reachBytes at this
  unfold bfits
  show s.data.size ≤ _ ∧ s.data.size ≤ _
  omega
end

set_option maxHeartbeats 2000000 in
theorem wireReads_walk (S : ByteArray) (hf : bfits (S.size + 1000)) (w : World) : Calls Tryz.prog 3 #[.string S] w (ValPost (.bool true) w) := by
  have HF := Lib.hid hf
  have HG := Lib.hid (hf.mono (show S.size ≤ S.size + 1000 by omega))
  clear hf
  go_enter Tryz.func3, Tryz.ntmps3
  go_wp2_with (first
    | (go_at_call 5; refine (awake_any _).mono ?_; rintro e w1 ⟨rfl, hM1⟩)
    | (go_at_call 6; refine (entry_any S HF.out _).mono ?_; rintro e w2 ⟨rfl, hM2⟩)
    | (go_at_call 7; refine (request_any S HF.out _).mono ?_; rintro e w3 ⟨rfl, hM3⟩)
    | (go_at_call 8; refine (reply_any S HF.out _).mono ?_; rintro e w4 ⟨rfl, hM4⟩)
    | (go_at_call 9; refine (message_any S HF.out _).mono ?_; rintro e w5 ⟨rfl, hM5⟩)
    | (go_at_call 10; refine (small_any S HG.out _).mono ?_; rintro e w6 ⟨rfl, hM6⟩))
  go_ret
  exact ⟨rfl, ((((hM1.then hM2 (fun _ _ h => h)).then hM3 (fun _ _ h => h)).then hM4 (fun _ _ h => h)).then hM5 (fun _ _ h => h)).then hM6 (fun _ _ h => h)⟩

theorem reads_contract {H : Type} {enc : TypeId × Value → H} (W : World) (base : Nat) (v0 : Value) (d0 : DataW H) (p0 : List MemPlace)
    (k0 : DataW.Trod enc Tryz.prog W 0 (fun _ => true) true 9 v0 d0 p0) (o0 : Value.okWide Tryz.prog W .any base 9 v0)
    (hsz : (DataW.weightsEach Tryz.prog [9] [d0]).all (· ≤ reachBytes) = true) :
    Calls Tryz.prog 3 #[v0] W (ValPost (.bool true) W) := by
  have hw : ∀ x ∈ d0.weights Tryz.prog 9, x ≤ reachBytes := fun x hx => by
    have := List.all_eq_true.1 hsz x (by simp [DataW.weightsEach, hx])
    simpa using this
  obtain ⟨s, rfl, _, h2⟩ := open_str k0 o0 hw
  exact wireReads_walk s (by unfold bfits; omega) W
end Go.Proofs.YtmbkbkfcbloafaaGreat
