/-
  awake of the law: a voter's first calls.
  No condition.
-/
import Derived.Test.YtmikenagaihoiaaVoteH
namespace Go.Proofs.Ytmikenagaihoiaa
open Go.RowKit
set_option linter.unusedSectionVars false
set_option linter.unusedSimpArgs false
set_option linter.unusedVariables false

theorem look_ok (me servers ep zx : Int) (h1 : 1 ≤ me) (h2 : me ≤ servers) (h3 : servers ≤ 1000) : (Vr.look me servers 1 ep zx).counted.ok := by
  obtain ⟨x, hx⟩ := counted_eq (Vr.look me servers 1 ep zx)
  rw [hx]
  refine ⟨h1, h2, h3, fun i y hy => ?_, fun i y hy => ?_⟩
  · have hy' : put1 (fun _ => none) me (⟨ep, zx, me⟩ : Vt) i = some y := hy
    unfold put1 at hy'
    split at hy'
    · show 1 ≤ i ∧ i ≤ servers; omega
    · cases hy'
  · have hy' : (none : Option No) = some y := hy
    cases hy'

def aw1 : Vr := (Vr.look 1 3 1 1 7).counted
def aw2 : Vr := aw1.hear ⟨2, 0, 1, 2, 1, 9⟩
def awC1 : Cs := ⟨2, ⟨1, 0, 1, 1, 1, 7⟩⟩
def awC2 : Cs := ⟨3, ⟨1, 0, 1, 1, 1, 7⟩⟩
theorem aw_casts : (Vr.look 1 3 1 1 7).casts = [awC1, awC2] := by decide
theorem aw_len : (aw1.hearCs ⟨2, 0, 1, 2, 1, 9⟩).length = 2 := by decide
theorem aw_wait : aw2.wait = 2 ∧ aw2.servers = 3 ∧ aw2.tick.wait = 1 ∧ aw2.tick.servers = 3 := by decide
theorem aw_leads : aw2.tick.tick.does = 2 ∧ aw2.tick.tick.vote.l = 2 := by decide

set_option maxHeartbeats 1000000 in
theorem awake_any (w : World) : Calls Try.prog 6 #[] w (CopyPost (.bool true) w) := by
  go_enter Try.func6, Try.ntmps6
  go_wp2_with fail
  refine (vnew_st (St.start w) 1 3).mono ?_
  rintro e w1 ⟨pb, rfl, hS1⟩
  go_wp2_with fail
  refine (look_st 1 3 hS1 1 7 (by unfold wf64; omega) (by omega) (by omega) (by omega)).mono ?_
  rintro e w2 ⟨a2, cap2, rfl, hS2⟩
  have hc := aw_casts
  obtain ⟨C, hC⟩ : ∃ C, (Vr.look 1 3 1 1 7).casts = C := ⟨_, rfl⟩
  rw [hC] at hS2 hc
  clear hC
  subst hc
  have hS2 : St w w2 (vr pb aw1 :: sl 41 7 a2 2 cap2 ([awC1, awC2].flatMap Cs.cells) :: []) := hS2.perm (.swap _ _ _)
  have HS2 := Lib.hid hS2
  clear hS1 hS2
  go_wp2_with fail
  refine (hear_st HS2.out ⟨2, 0, 1, 2, 1, 9⟩ (look_ok 1 3 1 7 (by omega) (by omega) (by omega)) (by decide) (by decide)).mono ?_
  rintro e w3 ⟨a3, cap3, rfl, hS3⟩
  rw [aw_len] at hS3
  have hS3 : St w w3 (vr pb aw2 :: sl 41 7 a3 2 cap3 _ :: sl 41 7 a2 2 cap2 ([awC1, awC2].flatMap Cs.cells) :: []) := hS3.perm (.swap _ _ _)
  have HS3 := Lib.hid hS3
  clear HS2 hS3
  go_wp2_with fail
  refine (tick_st HS3.out (by rw [aw_wait.2.1]; omega) (by rw [aw_wait.2.1]; omega) (by rw [aw_wait.1]; omega) (by rw [aw_wait.1]; omega)).mono ?_
  rintro e w4 ⟨a4, cap4, rfl, hS4⟩
  have HS4 := Lib.hid hS4.tail
  clear HS3 hS4
  go_wp2_with fail
  refine (tick_st HS4.out (by rw [aw_wait.2.2.2]; omega) (by rw [aw_wait.2.2.2]; omega) (by rw [aw_wait.2.2.1]; omega) (by rw [aw_wait.2.2.1]; omega)).mono ?_
  rintro e w5 ⟨a5, cap5, rfl, hS5⟩
  have HS5 := Lib.hid hS5.tail
  clear HS4 hS5
  go_wp2_with fail
  refine (leader_st HS5.out).mono ?_
  rintro e w6 ⟨rfl, hS6⟩
  rw [show aw2.tick.tick.leads = .tuple #[.int .i64 2, .bool true] by rw [Vr.leads, if_pos aw_leads.1, aw_leads.2]]
  obtain ⟨b, off, c, rfl, hc1, hc2⟩ := (hS6.slice 2 rfl).block (by omega)
  have hrd := (hS6.slice 2 rfl).rd
  have HC : Hid (∀ j u, ([.int .i64 2, .int .i64 1, .int .i64 0, .int .i64 1, .int .i64 1, .int .i64 1, .int .i64 7] : List Value)[j]? = some u → w6.cell? ((⟨b, off, none⟩ : Addr).add j) = some u) := Lib.hid (fun j u hu => by
    rcases hrd.2.2.2 with ⟨h, _⟩ | ⟨x, hx, h⟩
    · cases h
    · injection hx with hx
      rw [hx]
      refine h j u ?_
      have hj : j < awC1.cells.length := (List.getElem?_eq_some_iff.1 hu).1
      show (awC1.cells ++ ([awC2].flatMap Cs.cells))[j]? = some u
      rw [List.getElem?_append_left hj]
      exact hu)
  have hb6 := heap_lt hc1
  have HS6 := Lib.hid hS6
  clear hrd hc1 hc2 hS6 HS5
  have e0 : w6.cell? ⟨b, off, none⟩ = some (.int .i64 2) := HC.out 0 _ rfl
  have e1 : w6.cell? ⟨b, off + 1, none⟩ = some (.int .i64 1) := HC.out 1 _ rfl
  have e2 : w6.cell? ⟨b, off + 2, none⟩ = some (.int .i64 0) := HC.out 2 _ rfl
  have e3 : w6.cell? ⟨b, off + 3, none⟩ = some (.int .i64 1) := HC.out 3 _ rfl
  have e4 : w6.cell? ⟨b, off + 4, none⟩ = some (.int .i64 1) := HC.out 4 _ rfl
  have e5 : w6.cell? ⟨b, off + 5, none⟩ = some (.int .i64 1) := HC.out 5 _ rfl
  have e6 : w6.cell? ⟨b, off + 6, none⟩ = some (.int .i64 7) := HC.out 6 _ rfl
  go_wp2
  go_ret
  exact ⟨rfl, HS6.out.1⟩
end Go.Proofs.Ytmikenagaihoiaa
