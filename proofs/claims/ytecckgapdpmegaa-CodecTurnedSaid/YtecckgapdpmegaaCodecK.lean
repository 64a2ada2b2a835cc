/-
  pick: which of n things a raw number speaks of.
  Condition: there is one.
-/
import Derived.Test.YtecckgapdpmegaaCodecW
namespace Go.Proofs.Ytecckgapdpmegaa
open Go.RowKit
set_option linter.unusedVariables false
set_option linter.unusedSimpArgs false

def PickPost (n : Nat) (w : World) (e : Ending) (w' : World) : Prop := ∃ r : Nat, e = .returned (.int .i64 r) ∧ r < n ∧ w' = w

theorem pick_any (c : Int) (n : Nat) (h0 : -9223372036854775808 ≤ c) (h1 : c ≤ 9223372036854775807) (hn : 0 < n) (hnl : n ≤ 2 ^ 63 - 1) (w : World) : Calls Try.prog 28 #[.int .i64 c, .int .i64 n] w (PickPost n w) := by
  by_cases hc : c < 0
  · go_enter Try.func28, Try.ntmps28
    go_wp2
    go_ret
    have e1 : -(c + 1).tmod n = (((-(c + 1)).toNat % n : Nat) : Int) := by
      rw [← Int.neg_tmod, Int.tmod_eq_emod_of_nonneg (by omega), Int.natCast_emod, Int.toNat_of_nonneg (by omega)]
    exact ⟨(-(c + 1)).toNat % n, by rw [← e1]; rfl, Nat.mod_lt _ hn, rfl⟩
  · go_enter Try.func28, Try.ntmps28
    go_wp2
    go_ret
    have e1 : c % n = ((c.toNat % n : Nat) : Int) := by
      rw [Int.natCast_emod, Int.toNat_of_nonneg (by omega)]
    exact ⟨c.toNat % n, by rw [← e1]; rfl, Nat.mod_lt _ hn, rfl⟩
end Go.Proofs.Ytecckgapdpmegaa
