/-
  The first calls of every law of paths.
  Conditions: the cell of bytealg.MaxLen holds an int; the table of powers of ten lies in the world.
-/
import Derived.Test.YtfdlllpjempjoaaDoorPathF
namespace Go.Proofs.YtfdlllpjempjoaaDoor
open Go.RowKit
set_option linter.unusedSectionVars false
set_option linter.unusedSimpArgs false
set_option linter.unusedVariables false
set_option maxRecDepth 100000

/-- What is asked of the world. -/
def Ready (w : World) : Prop := (∃ mx : Int, w.cell? ⟨0, 0, none⟩ = some (.int .i64 mx)) ∧ Tab w
theorem Ready.old {w w' : World} (h : Ready w) (k : Old w w') : Ready w' := ⟨h.1.imp fun _ hc => k.cell hc (fun h => h), h.2.old k⟩
theorem check_any (s : ByteArray) (hs : s.size ≤ 4000000000) (w : World) (h : Ready w) : Calls Tryd.prog 9 #[.string s] w (CopyPost (.int .i64 (checkL s.data.toList)) w) := by
  obtain ⟨⟨mx, hm⟩, _⟩ := h
  exact Check_any s hs mx w hm

set_option maxHeartbeats 1000000 in
theorem awake_any (w : World) (hR : Ready w) : Calls Tryd.prog 8 #[] w (CopyPost (.bool true) w) := by
  have c1 := check_any ⟨#[47, 97, 46, 98, 47, 67, 95, 45, 48]⟩ (by decide) w hR
  rw [show checkL (⟨#[47, 97, 46, 98, 47, 67, 95, 45, 48]⟩ : ByteArray).data.toList = 0 by decide] at c1
  have c2 := fun W (h : Old w W) => check_any ⟨#[47, 97, 47]⟩ (by decide) W (hR.old h)
  simp only [show checkL (⟨#[47, 97, 47]⟩ : ByteArray).data.toList = 40 by decide] at c2
  have c3 := fun W (h : Old w W) => check_any ⟨#[47, 97, 47, 98, 47, 99, 47, 100, 47, 101, 47, 102, 47, 103]⟩ (by decide) W (hR.old h)
  simp only [show checkL (⟨#[47, 97, 47, 98, 47, 99, 47, 100, 47, 101, 47, 102, 47, 103]⟩ : ByteArray).data.toList = 41 by decide] at c3
  have c4 := fun W => Parent_any ⟨#[47, 97, 47, 98]⟩ (by decide) W
  simp only [show bs (parentL (⟨#[47, 97, 47, 98]⟩ : ByteArray).data.toList) = ⟨#[47, 97]⟩ by decide] at c4
  have c5 := fun W => Base_any ⟨#[47, 97, 47, 98]⟩ (by decide) W
  simp only [show bs (baseL (⟨#[47, 97, 47, 98]⟩ : ByteArray).data.toList) = ⟨#[98]⟩ by decide] at c5
  have c6 := fun W (h : Old w W) => Numbered_any ⟨#[47, 113, 45]⟩ 7 (by decide) (by decide) (by decide) W (hR.old h).2
  simp only [show bs (numL (⟨#[47, 113, 45]⟩ : ByteArray).data.toList 7) = ⟨#[47, 113, 45, 48, 48, 48, 48, 48, 48, 48, 48, 48, 55]⟩ by decide] at c6
  clear hR
  go_enter Tryd.func8, Tryd.ntmps8
  go_wp2_with (first
    | (go_at_call 9; refine c1.mono ?_; rintro e w1 ⟨rfl, hO1⟩; clear c1)
    | (go_at_call 9; refine (c2 w1 hO1).mono ?_; rintro e w2 ⟨rfl, hO2⟩; have hO2' := hO1.join hO2; clear c2)
    | (go_at_call 9; refine (c3 w2 hO2').mono ?_; rintro e w3 ⟨rfl, hO3⟩; have hO3' := hO2'.join hO3; clear c3)
    | (go_at_call 11; refine (c4 w3).mono ?_; rintro e w4 ⟨rfl, hO4⟩; have hO4' := hO3'.join hO4; clear c4)
    | (go_at_call 13; refine (c5 w4).mono ?_; rintro e w5 ⟨rfl, hO5⟩; have hO5' := hO4'.join hO5; clear c5)
    | (go_at_call 19; refine (c6 w5 hO5').mono ?_; rintro e w6 ⟨rfl, hO6⟩; have hO6' := hO5'.join hO6; clear c6))
  go_ret
  exact ⟨rfl, hO6'⟩

theorem checks_any (s : ByteArray) (hs : s.size ≤ 4000000000) (w : World) (hR : Ready w) : Calls Tryd.prog 3 #[.string s] w (CopyPost (.bool true) w) := by
  have cA := awake_any w hR
  have c1 := fun W (h : Old w W) => check_any s hs W (hR.old h)
  have c2 := fun W => refCheck_any s hs W
  generalize checkL s.data.toList = V at c1 c2
  have hVV : (V == V) = true := by simp
  have C1 := Lib.hid c1
  have C2 := Lib.hid c2
  clear c1 c2 hR
  go_enter Tryd.func3, Tryd.ntmps3
  go_wp2_with (first
    | (go_at_call 8; refine cA.mono ?_; rintro e w1 ⟨rfl, hO1⟩; clear cA)
    | (go_at_call 9; refine (C1.out w1 hO1).mono ?_; rintro e w2 ⟨rfl, hO2⟩; have hO2' := hO1.join hO2; clear C1)
    | (go_at_call 10; refine (C2.out w2).mono ?_; rintro e w3 ⟨rfl, hO3⟩; have hO3' := hO2'.join hO3; clear C2))
  all_goals
    go_ret
    exact ⟨by first | rfl | simp, hO3'⟩
end Go.Proofs.YtfdlllpjempjoaaDoor
