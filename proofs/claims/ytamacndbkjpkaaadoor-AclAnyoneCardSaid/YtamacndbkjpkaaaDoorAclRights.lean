/-
  AclRights, walked.
  Conditions: the rows lie in the world; the table of math/bits lies in the world.
-/
import Derived.Test.YtamacndbkjpkaaaDoorAclAwake
namespace Go.Proofs.YtamacndbkjpkaaaDoor
open Go.RowKit
set_option linter.unusedSectionVars false
set_option linter.unusedSimpArgs false
set_option linter.unusedVariables false

theorem rights_any (a : Option Addr) (n cap : Nat) (l : List ARow) (w : World) (hT : Tab w) (hr : Rd w 2 a n cap (l.flatMap ARow.cells)) (hn : l.length = n) (hf : ∀ r ∈ l, r.fit) :
    Calls Tryd.prog 3 #[.slice a n cap] w (CopyPost (.bool true) w) := by
  have cA := awake_any w hT
  have hR : ∀ W, Old w W → Calls Tryd.prog 9 #[.slice a n cap] W (CopyPost (.bool (rightL l)) W) := fun W h => right_any a n cap l W (hr.mod h (fun _ _ h => h)) hn hf
  have hD : ∀ W, Old w W → Calls Tryd.prog 10 #[.slice a n cap] W (CopyPost (.bool (rightL l)) W) := fun W h => refRight_any a n cap l W (hr.mod h (fun _ _ h => h)) hn hf
  have HR := Lib.hid hR
  have HD := Lib.hid hD
  clear hT hr hn hf hR hD
  generalize rightL l = V at HR HD
  go_enter Tryd.func3, Tryd.ntmps3
  go_wp2_with (first
    | (go_at_call 8; refine cA.mono ?_; rintro e w1 ⟨rfl, hO1⟩; clear cA)
    | (go_at_call 9; refine (HR.out w1 hO1).mono ?_; rintro e w2 ⟨rfl, hO2⟩; have hO2' := hO1.join hO2)
    | (go_at_call 10; refine (HD.out w2 hO2').mono ?_; rintro e w3 ⟨rfl, hO3⟩))
  all_goals
    go_ret
    exact ⟨by cases V <;> rfl, hO2'.join hO3⟩
end Go.Proofs.YtamacndbkjpkaaaDoor
