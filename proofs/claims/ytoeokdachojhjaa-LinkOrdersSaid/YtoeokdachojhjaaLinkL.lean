/-
  The chapter's example is true (awake).
  No condition.
-/
import Derived.Test.YtoeokdachojhjaaLinkK
namespace Go.Proofs.Ytoeokdachojhjaa
open Go.RowKit
set_option linter.unusedSectionVars false
set_option linter.unusedSimpArgs false
set_option linter.unusedVariables false

def AwakePost (w : World) (e : Ending) (w' : World) : Prop := e = .returned (.bool true) ∧ Mod (fun _ => False) w w'

/-- The text of the example. -/
def sx : ByteArray := ⟨#[120]⟩
def La : Lk := (Lk.new 1 2 5).send sx
def Lb : Lk := Lk.new 2 1 7
def pa : Pk := ⟨1, 2, 2, 5, 0, 1, 0, sx⟩
theorem la_err : (Lk.new 1 2 5).sendErr = 0 := rfl
theorem la_out : La.out La.sent = [pa] := by decide +kernel
theorem lb_heard : Lb.heard pa = [sx] := by decide +kernel
theorem lb_ends : Lb.ends pa = false := by decide +kernel

set_option maxHeartbeats 1000000 in
theorem awake_any (w : World) : Calls Try.prog 6 #[] w (AwakePost w) := by
  go_enter Try.func6, Try.ntmps6
  go_wp2_with fail
  refine (lnew_st (St.start w) 1 2 5).mono ?_
  rintro e w1 ⟨pb, rfl, hS⟩
  go_wp2_with fail
  refine (lnew_st hS 2 1 7).mono ?_
  clear hS
  rintro e w2 ⟨qb, rfl, hS⟩
  go_wp2_with fail
  refine (lSend_st (hS.perm (.swap _ _ _)) sx (by simp [Lk.new]) (by simp [Lk.new]) (by simp [Lk.new])).mono ?_
  clear hS
  rw [la_err]
  rintro e w3 ⟨rfl, hS⟩
  go_wp2_with fail
  refine (lFlush_st (L := La) hS (by decide +kernel)).mono ?_
  clear hS
  rw [la_out]
  rintro e w4 ⟨a4, cap4, rfl, hS⟩
  obtain ⟨b, o, rfl, h8⟩ := (hS.slice 0 rfl).rd.at8 (k := 0) (p := pa) rfl
  have hbl := (hS.slice 0 rfl).lt b rfl
  obtain ⟨c0, c1, c2, c3, c4, c5, c6, c7⟩ := h8
  rw [Nat.zero_mul, Nat.add_zero] at c0 c1 c2 c3 c4 c5 c6 c7
  have HS := Lib.hid hS
  clear hS
  simp only [pa, sx] at c0 c1 c2 c3 c4 c5 c6 c7
  simp only [List.length_singleton]
  go_wp2_with fail
  refine (lHear_st (L := Lb) (HS.out.perm (List.perm_append_comm (l₁ := [_, _]) (l₂ := [_]))) pa (Lk.ok_new 2 1 7) (by unfold maxLen; decide) (by decide) (by decide)).mono ?_
  rw [lb_heard, lb_ends]
  rintro e w5 ⟨a5, cap5, rfl, hS⟩
  have hT := hS.box1 #[.string sx] 9
  have HT := Lib.hid hT
  clear hS hT
  go_wp2_with fail
  refine (texts_yes a5 (some ⟨w5.heap.size, 0, none⟩) cap5 1 [sx] _ (HT.out.slice 1 rfl).rd (Sl.new (E := 9) (k := 1) (n := 1) (c := #[.string sx]) (HT.out.box 0 rfl) rfl (by unfold maxLen; omega)).rd).mono ?_
  rintro e w6 ⟨d, rfl, rfl⟩
  go_wp2
  go_ret
  exact ⟨rfl, (HT.out.1).drewN d⟩
end Go.Proofs.Ytoeokdachojhjaa
