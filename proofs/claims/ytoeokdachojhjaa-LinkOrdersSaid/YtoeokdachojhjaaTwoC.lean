/-
  Two ends: pick exactly; lemmas for move.
  No condition.
-/
import Derived.Test.YtoeokdachojhjaaTwoB
import Derived.Test.YtoeokdachojhjaaConv
import Derived.Deep.CutBlock
namespace Go.Proofs.Ytoeokdachojhjaa
open Go.RowKit
set_option linter.unusedSectionVars false
set_option linter.unusedSimpArgs false
set_option linter.unusedVariables false

/-- pick, plain. -/
def pickN (c n : Int) : Int := if c < 0 then (-(c + 1)) % n else c % n
theorem pickN_range (c n : Int) (hn : 1 ≤ n) : 0 ≤ pickN c n ∧ pickN c n < n := by
  unfold pickN
  split
  · exact ⟨Int.emod_nonneg _ (by omega), Int.emod_lt_of_pos _ (by omega)⟩
  · exact ⟨Int.emod_nonneg _ (by omega), Int.emod_lt_of_pos _ (by omega)⟩
def RetN (v : Value) (w : World) (e : Ending) (w' : World) : Prop := e = .returned v ∧ w = w'
theorem pick_is (c n : Int) (w : World) (h0 : -9223372036854775808 ≤ c) (h1 : c ≤ 9223372036854775807) (hn : 1 ≤ n) (hn2 : n ≤ 9223372036854775807) :
    Calls Try.prog 8 #[.int .i64 c, .int .i64 n] w (RetN (.int .i64 (pickN c n)) w) := by
  by_cases hc : c < 0
  · have hb : decide (c < 0) = true := by simpa using hc
    have hnz : (n == 0) = false := by simp; omega
    have e0 : 0 ≤ -(c + 1) := by omega
    have HR : Hid (-((c + 1).tmod n) = pickN c n) := Lib.hid (by unfold pickN; rw [if_pos hc, ← Int.neg_tmod, Int.tmod_eq_emod_of_nonneg e0])
    go_enter Try.func8, Try.ntmps8
    go_wp2
    go_ret
    refine ⟨?_, rfl⟩
    show Ending.returned (.int .i64 (-((c + 1).tmod n))) = _
    rw [HR.out]
  · have hb : decide (c < 0) = false := by simpa using hc
    have hnz : (n == 0) = false := by simp; omega
    have e0 : 0 ≤ c := by omega
    have HR : Hid (c % n = pickN c n) := Lib.hid (by unfold pickN; rw [if_neg hc])
    go_enter Try.func8, Try.ntmps8
    go_wp2
    go_ret
    refine ⟨?_, rfl⟩
    show Ending.returned (.int .i64 (c % n)) = _
    rw [HR.out]

theorem twc_set_sent (pb : Nat → Nat) (sa ga : Nat → Option Addr) (sc gc : Nat → Nat) (S G : Nat → List ByteArray) (pa : Option Addr) (pl pc : Nat) {k : Nat} (h : k < 2) (X : List ByteArray) (n : Nat) (hn : X.length = n) (a : Option Addr) (c : Nat) :
    (twc pb sa ga sc gc S G pa pl pc).setIfInBounds (4 + k) (.slice a n c) = twc pb (upd2 sa k a) ga (upd2 sc k c) gc (upd2 S k X) G pa pl pc := by
  subst hn
  rcases two_cases h with rfl | rfl <;> rfl
theorem twc_set_post (pb : Nat → Nat) (sa ga : Nat → Option Addr) (sc gc : Nat → Nat) (S G : Nat → List ByteArray) (pa pa' : Option Addr) (pl pc pl' pc' : Nat) :
    (twc pb sa ga sc gc S G pa pl pc).setIfInBounds 8 (.slice pa' pl' pc') = twc pb sa ga sc gc S G pa' pl' pc' := rfl

/-- A move, raw. -/
structure Mv where
  what : Int
  n : Int
  second : Bool
def Mv.cells (x : Mv) : List Value := [.int .i64 x.what, .int .i64 x.n, .bool x.second]
def Mv.agg (x : Mv) : Value := .agg #[.int .i64 x.what, .int .i64 x.n, .bool x.second]
attribute [go_sem] Mv.agg
def Mv.wf (x : Mv) : Prop := (-9223372036854775808 ≤ x.what ∧ x.what ≤ 9223372036854775807) ∧ (-9223372036854775808 ≤ x.n ∧ x.n ≤ 9223372036854775807)
theorem mvlen (x : Mv) : x.cells.length = 3 := rfl

/-- The text of a move's number. -/
theorem two_bytes (i : Nat) (h : i < 400) : ∃ a b : UInt8, (i : Int) % 251 = (a.toNat : Int) ∧ (i : Int) / 251 = (b.toNat : Int) := by
  refine ⟨UInt8.ofNat (i % 251), UInt8.ofNat (i / 251), ?_, ?_⟩
  · have e : (UInt8.ofNat (i % 251)).toNat = i % 251 := by simp; omega
    rw [e]
    omega
  · have e : (UInt8.ofNat (i / 251)).toNat = i / 251 := by simp; omega
    rw [e]
    omega
end Go.Proofs.Ytoeokdachojhjaa
