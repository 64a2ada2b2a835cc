/-
  VoteOrder: being better is an order, of any three notes.
  No condition.
-/
import Derived.Test.YtmikenagaihoiaaVoteI
namespace Go.Proofs.Ytmikenagaihoiaa
open Go.RowKit
set_option linter.unusedSectionVars false
set_option linter.unusedSimpArgs false
set_option linter.unusedVariables false

theorem Vt.better_iff (a b : Vt) : a.better b = true ↔ (b.e < a.e ∨ (a.e = b.e ∧ (b.z < a.z ∨ (a.z = b.z ∧ b.l < a.l)))) := by
  unfold Vt.better
  simp only [Bool.or_eq_true, Bool.and_eq_true, decide_eq_true_eq, beq_iff_eq]

theorem Vt.better_self (a : Vt) : a.better a = false := by
  rw [Bool.eq_false_iff]
  intro h
  rw [Vt.better_iff] at h
  omega

theorem Vt.better_trans (a b c : Vt) (h1 : a.better b = true) (h2 : b.better c = true) : a.better c = true := by
  rw [Vt.better_iff] at *
  omega

/-- Of two votes: the first is better, the second is, or they are the same. -/
theorem Vt.better_three (a b : Vt) : (a.better b = true ∧ b.better a = false ∧ ¬ (a.e = b.e ∧ a.z = b.z ∧ a.l = b.l)) ∨ (a.better b = false ∧ b.better a = true ∧ ¬ (a.e = b.e ∧ a.z = b.z ∧ a.l = b.l))
    ∨ (a.better b = false ∧ b.better a = false ∧ (a.e = b.e ∧ a.z = b.z ∧ a.l = b.l)) := by
  have h1 := Vt.better_iff a b
  have h2 := Vt.better_iff b a
  cases g1 : a.better b <;> cases g2 : b.better a <;> simp only [g1, g2, true_iff, Bool.false_eq_true, false_iff] at h1 h2 <;> simp only [Bool.true_eq_false, Bool.false_eq_true, true_and, false_and, false_or, or_false, and_true] <;> omega

def same3 (a b : No) : Bool := a.ep == b.ep && a.zx == b.zx && a.le == b.le

set_option maxHeartbeats 4000000 in
theorem order_walk (a b c : No) (w : World) : Calls Try.prog 3 #[a.agg, b.agg, c.agg] w (CopyPost (.bool true) w) := by
  have hS := (((St.start w).box1 a.cells.toArray 23).box1 b.cells.toArray 23).box1 c.cells.toArray 23
  simp only [World.size_alloc] at hS
  rw [show w.heap.size + 1 + 1 = w.heap.size + 2 from rfl] at hS
  simp only [No.agg]
  go_enter Try.func3, Try.ntmps3
  go_wp2_with fail
  change Calls _ _ _ (((w.alloc (.cells a.cells.toArray 23)).alloc (.cells b.cells.toArray 23)).alloc (.cells c.cells.toArray 23)) _
  generalize ((w.alloc (.cells a.cells.toArray 23)).alloc (.cells b.cells.toArray 23)).alloc (.cells c.cells.toArray 23) = W at *
  generalize w.heap.size = rb at *
  refine (awake_any W).mono ?_
  rintro e u0 ⟨rfl, hM⟩
  have hS := hS.mod hM
  clear hM
  have cc0 : u0.cell? ⟨rb + 2, 0, none⟩ = some (.int .i64 c.fr) := blk_cell (hS.box 0 rfl) 0 _ rfl
  have cc1 : u0.cell? ⟨rb + 2, 1, none⟩ = some (.int .i64 c.st) := blk_cell (hS.box 0 rfl) 1 _ rfl
  have cc2 : u0.cell? ⟨rb + 2, 2, none⟩ = some (.int .i64 c.ro) := blk_cell (hS.box 0 rfl) 2 _ rfl
  have cc3 : u0.cell? ⟨rb + 2, 3, none⟩ = some (.int .i64 c.le) := blk_cell (hS.box 0 rfl) 3 _ rfl
  have cc4 : u0.cell? ⟨rb + 2, 4, none⟩ = some (.int .i64 c.ep) := blk_cell (hS.box 0 rfl) 4 _ rfl
  have cc5 : u0.cell? ⟨rb + 2, 5, none⟩ = some (.int .i64 c.zx) := blk_cell (hS.box 0 rfl) 5 _ rfl
  have z0 := heap_lt (hS.box 0 rfl)
  have bb0 : u0.cell? ⟨rb + 1, 0, none⟩ = some (.int .i64 b.fr) := blk_cell (hS.box 1 rfl) 0 _ rfl
  have bb1 : u0.cell? ⟨rb + 1, 1, none⟩ = some (.int .i64 b.st) := blk_cell (hS.box 1 rfl) 1 _ rfl
  have bb2 : u0.cell? ⟨rb + 1, 2, none⟩ = some (.int .i64 b.ro) := blk_cell (hS.box 1 rfl) 2 _ rfl
  have bb3 : u0.cell? ⟨rb + 1, 3, none⟩ = some (.int .i64 b.le) := blk_cell (hS.box 1 rfl) 3 _ rfl
  have bb4 : u0.cell? ⟨rb + 1, 4, none⟩ = some (.int .i64 b.ep) := blk_cell (hS.box 1 rfl) 4 _ rfl
  have bb5 : u0.cell? ⟨rb + 1, 5, none⟩ = some (.int .i64 b.zx) := blk_cell (hS.box 1 rfl) 5 _ rfl
  have z1 := heap_lt (hS.box 1 rfl)
  have aa0 : u0.cell? ⟨rb, 0, none⟩ = some (.int .i64 a.fr) := blk_cell (hS.box 2 rfl) 0 _ rfl
  have aa1 : u0.cell? ⟨rb, 1, none⟩ = some (.int .i64 a.st) := blk_cell (hS.box 2 rfl) 1 _ rfl
  have aa2 : u0.cell? ⟨rb, 2, none⟩ = some (.int .i64 a.ro) := blk_cell (hS.box 2 rfl) 2 _ rfl
  have aa3 : u0.cell? ⟨rb, 3, none⟩ = some (.int .i64 a.le) := blk_cell (hS.box 2 rfl) 3 _ rfl
  have aa4 : u0.cell? ⟨rb, 4, none⟩ = some (.int .i64 a.ep) := blk_cell (hS.box 2 rfl) 4 _ rfl
  have aa5 : u0.cell? ⟨rb, 5, none⟩ = some (.int .i64 a.zx) := blk_cell (hS.box 2 rfl) 5 _ rfl
  have z2 := heap_lt (hS.box 2 rfl)
  have HS := Lib.hid hS
  clear hS
  go_wp2_with fail
  refine (Better_any a b _).mono ?_
  rintro e u1 ⟨rfl, hM⟩
  have hS := HS.out.mod hM
  clear hM HS
  clear cc0 cc1 cc2 cc3 cc4 cc5 bb0 bb1 bb2 bb3 bb4 bb5 aa0 aa1 aa2 aa3 aa4 aa5 z0 z1 z2
  have cc0 : u1.cell? ⟨rb + 2, 0, none⟩ = some (.int .i64 c.fr) := blk_cell (hS.box 0 rfl) 0 _ rfl
  have cc1 : u1.cell? ⟨rb + 2, 1, none⟩ = some (.int .i64 c.st) := blk_cell (hS.box 0 rfl) 1 _ rfl
  have cc2 : u1.cell? ⟨rb + 2, 2, none⟩ = some (.int .i64 c.ro) := blk_cell (hS.box 0 rfl) 2 _ rfl
  have cc3 : u1.cell? ⟨rb + 2, 3, none⟩ = some (.int .i64 c.le) := blk_cell (hS.box 0 rfl) 3 _ rfl
  have cc4 : u1.cell? ⟨rb + 2, 4, none⟩ = some (.int .i64 c.ep) := blk_cell (hS.box 0 rfl) 4 _ rfl
  have cc5 : u1.cell? ⟨rb + 2, 5, none⟩ = some (.int .i64 c.zx) := blk_cell (hS.box 0 rfl) 5 _ rfl
  have z0 := heap_lt (hS.box 0 rfl)
  have bb0 : u1.cell? ⟨rb + 1, 0, none⟩ = some (.int .i64 b.fr) := blk_cell (hS.box 1 rfl) 0 _ rfl
  have bb1 : u1.cell? ⟨rb + 1, 1, none⟩ = some (.int .i64 b.st) := blk_cell (hS.box 1 rfl) 1 _ rfl
  have bb2 : u1.cell? ⟨rb + 1, 2, none⟩ = some (.int .i64 b.ro) := blk_cell (hS.box 1 rfl) 2 _ rfl
  have bb3 : u1.cell? ⟨rb + 1, 3, none⟩ = some (.int .i64 b.le) := blk_cell (hS.box 1 rfl) 3 _ rfl
  have bb4 : u1.cell? ⟨rb + 1, 4, none⟩ = some (.int .i64 b.ep) := blk_cell (hS.box 1 rfl) 4 _ rfl
  have bb5 : u1.cell? ⟨rb + 1, 5, none⟩ = some (.int .i64 b.zx) := blk_cell (hS.box 1 rfl) 5 _ rfl
  have z1 := heap_lt (hS.box 1 rfl)
  have aa0 : u1.cell? ⟨rb, 0, none⟩ = some (.int .i64 a.fr) := blk_cell (hS.box 2 rfl) 0 _ rfl
  have aa1 : u1.cell? ⟨rb, 1, none⟩ = some (.int .i64 a.st) := blk_cell (hS.box 2 rfl) 1 _ rfl
  have aa2 : u1.cell? ⟨rb, 2, none⟩ = some (.int .i64 a.ro) := blk_cell (hS.box 2 rfl) 2 _ rfl
  have aa3 : u1.cell? ⟨rb, 3, none⟩ = some (.int .i64 a.le) := blk_cell (hS.box 2 rfl) 3 _ rfl
  have aa4 : u1.cell? ⟨rb, 4, none⟩ = some (.int .i64 a.ep) := blk_cell (hS.box 2 rfl) 4 _ rfl
  have aa5 : u1.cell? ⟨rb, 5, none⟩ = some (.int .i64 a.zx) := blk_cell (hS.box 2 rfl) 5 _ rfl
  have z2 := heap_lt (hS.box 2 rfl)
  have HS := Lib.hid hS
  clear hS
  go_wp2_with fail
  refine (Better_any b a _).mono ?_
  rintro e u2 ⟨rfl, hM⟩
  have hS := HS.out.mod hM
  clear hM HS
  clear cc0 cc1 cc2 cc3 cc4 cc5 bb0 bb1 bb2 bb3 bb4 bb5 aa0 aa1 aa2 aa3 aa4 aa5 z0 z1 z2
  have cc0 : u2.cell? ⟨rb + 2, 0, none⟩ = some (.int .i64 c.fr) := blk_cell (hS.box 0 rfl) 0 _ rfl
  have cc1 : u2.cell? ⟨rb + 2, 1, none⟩ = some (.int .i64 c.st) := blk_cell (hS.box 0 rfl) 1 _ rfl
  have cc2 : u2.cell? ⟨rb + 2, 2, none⟩ = some (.int .i64 c.ro) := blk_cell (hS.box 0 rfl) 2 _ rfl
  have cc3 : u2.cell? ⟨rb + 2, 3, none⟩ = some (.int .i64 c.le) := blk_cell (hS.box 0 rfl) 3 _ rfl
  have cc4 : u2.cell? ⟨rb + 2, 4, none⟩ = some (.int .i64 c.ep) := blk_cell (hS.box 0 rfl) 4 _ rfl
  have cc5 : u2.cell? ⟨rb + 2, 5, none⟩ = some (.int .i64 c.zx) := blk_cell (hS.box 0 rfl) 5 _ rfl
  have z0 := heap_lt (hS.box 0 rfl)
  have bb0 : u2.cell? ⟨rb + 1, 0, none⟩ = some (.int .i64 b.fr) := blk_cell (hS.box 1 rfl) 0 _ rfl
  have bb1 : u2.cell? ⟨rb + 1, 1, none⟩ = some (.int .i64 b.st) := blk_cell (hS.box 1 rfl) 1 _ rfl
  have bb2 : u2.cell? ⟨rb + 1, 2, none⟩ = some (.int .i64 b.ro) := blk_cell (hS.box 1 rfl) 2 _ rfl
  have bb3 : u2.cell? ⟨rb + 1, 3, none⟩ = some (.int .i64 b.le) := blk_cell (hS.box 1 rfl) 3 _ rfl
  have bb4 : u2.cell? ⟨rb + 1, 4, none⟩ = some (.int .i64 b.ep) := blk_cell (hS.box 1 rfl) 4 _ rfl
  have bb5 : u2.cell? ⟨rb + 1, 5, none⟩ = some (.int .i64 b.zx) := blk_cell (hS.box 1 rfl) 5 _ rfl
  have z1 := heap_lt (hS.box 1 rfl)
  have aa0 : u2.cell? ⟨rb, 0, none⟩ = some (.int .i64 a.fr) := blk_cell (hS.box 2 rfl) 0 _ rfl
  have aa1 : u2.cell? ⟨rb, 1, none⟩ = some (.int .i64 a.st) := blk_cell (hS.box 2 rfl) 1 _ rfl
  have aa2 : u2.cell? ⟨rb, 2, none⟩ = some (.int .i64 a.ro) := blk_cell (hS.box 2 rfl) 2 _ rfl
  have aa3 : u2.cell? ⟨rb, 3, none⟩ = some (.int .i64 a.le) := blk_cell (hS.box 2 rfl) 3 _ rfl
  have aa4 : u2.cell? ⟨rb, 4, none⟩ = some (.int .i64 a.ep) := blk_cell (hS.box 2 rfl) 4 _ rfl
  have aa5 : u2.cell? ⟨rb, 5, none⟩ = some (.int .i64 a.zx) := blk_cell (hS.box 2 rfl) 5 _ rfl
  have z2 := heap_lt (hS.box 2 rfl)
  have HS := Lib.hid hS
  clear hS
  go_wp2_with fail
  refine (Better_any b c _).mono ?_
  rintro e u3 ⟨rfl, hM⟩
  have hS := HS.out.mod hM
  clear hM HS
  clear cc0 cc1 cc2 cc3 cc4 cc5 bb0 bb1 bb2 bb3 bb4 bb5 aa0 aa1 aa2 aa3 aa4 aa5 z0 z1 z2
  have cc0 : u3.cell? ⟨rb + 2, 0, none⟩ = some (.int .i64 c.fr) := blk_cell (hS.box 0 rfl) 0 _ rfl
  have cc1 : u3.cell? ⟨rb + 2, 1, none⟩ = some (.int .i64 c.st) := blk_cell (hS.box 0 rfl) 1 _ rfl
  have cc2 : u3.cell? ⟨rb + 2, 2, none⟩ = some (.int .i64 c.ro) := blk_cell (hS.box 0 rfl) 2 _ rfl
  have cc3 : u3.cell? ⟨rb + 2, 3, none⟩ = some (.int .i64 c.le) := blk_cell (hS.box 0 rfl) 3 _ rfl
  have cc4 : u3.cell? ⟨rb + 2, 4, none⟩ = some (.int .i64 c.ep) := blk_cell (hS.box 0 rfl) 4 _ rfl
  have cc5 : u3.cell? ⟨rb + 2, 5, none⟩ = some (.int .i64 c.zx) := blk_cell (hS.box 0 rfl) 5 _ rfl
  have z0 := heap_lt (hS.box 0 rfl)
  have bb0 : u3.cell? ⟨rb + 1, 0, none⟩ = some (.int .i64 b.fr) := blk_cell (hS.box 1 rfl) 0 _ rfl
  have bb1 : u3.cell? ⟨rb + 1, 1, none⟩ = some (.int .i64 b.st) := blk_cell (hS.box 1 rfl) 1 _ rfl
  have bb2 : u3.cell? ⟨rb + 1, 2, none⟩ = some (.int .i64 b.ro) := blk_cell (hS.box 1 rfl) 2 _ rfl
  have bb3 : u3.cell? ⟨rb + 1, 3, none⟩ = some (.int .i64 b.le) := blk_cell (hS.box 1 rfl) 3 _ rfl
  have bb4 : u3.cell? ⟨rb + 1, 4, none⟩ = some (.int .i64 b.ep) := blk_cell (hS.box 1 rfl) 4 _ rfl
  have bb5 : u3.cell? ⟨rb + 1, 5, none⟩ = some (.int .i64 b.zx) := blk_cell (hS.box 1 rfl) 5 _ rfl
  have z1 := heap_lt (hS.box 1 rfl)
  have aa0 : u3.cell? ⟨rb, 0, none⟩ = some (.int .i64 a.fr) := blk_cell (hS.box 2 rfl) 0 _ rfl
  have aa1 : u3.cell? ⟨rb, 1, none⟩ = some (.int .i64 a.st) := blk_cell (hS.box 2 rfl) 1 _ rfl
  have aa2 : u3.cell? ⟨rb, 2, none⟩ = some (.int .i64 a.ro) := blk_cell (hS.box 2 rfl) 2 _ rfl
  have aa3 : u3.cell? ⟨rb, 3, none⟩ = some (.int .i64 a.le) := blk_cell (hS.box 2 rfl) 3 _ rfl
  have aa4 : u3.cell? ⟨rb, 4, none⟩ = some (.int .i64 a.ep) := blk_cell (hS.box 2 rfl) 4 _ rfl
  have aa5 : u3.cell? ⟨rb, 5, none⟩ = some (.int .i64 a.zx) := blk_cell (hS.box 2 rfl) 5 _ rfl
  have z2 := heap_lt (hS.box 2 rfl)
  have HS := Lib.hid hS
  clear hS
  go_wp2_with fail
  refine (Better_any a c _).mono ?_
  rintro e u4 ⟨rfl, hM⟩
  have hS := HS.out.mod hM
  clear hM HS
  clear cc0 cc1 cc2 cc3 cc4 cc5 bb0 bb1 bb2 bb3 bb4 bb5 aa0 aa1 aa2 aa3 aa4 aa5 z0 z1 z2
  have cc0 : u4.cell? ⟨rb + 2, 0, none⟩ = some (.int .i64 c.fr) := blk_cell (hS.box 0 rfl) 0 _ rfl
  have cc1 : u4.cell? ⟨rb + 2, 1, none⟩ = some (.int .i64 c.st) := blk_cell (hS.box 0 rfl) 1 _ rfl
  have cc2 : u4.cell? ⟨rb + 2, 2, none⟩ = some (.int .i64 c.ro) := blk_cell (hS.box 0 rfl) 2 _ rfl
  have cc3 : u4.cell? ⟨rb + 2, 3, none⟩ = some (.int .i64 c.le) := blk_cell (hS.box 0 rfl) 3 _ rfl
  have cc4 : u4.cell? ⟨rb + 2, 4, none⟩ = some (.int .i64 c.ep) := blk_cell (hS.box 0 rfl) 4 _ rfl
  have cc5 : u4.cell? ⟨rb + 2, 5, none⟩ = some (.int .i64 c.zx) := blk_cell (hS.box 0 rfl) 5 _ rfl
  have z0 := heap_lt (hS.box 0 rfl)
  have bb0 : u4.cell? ⟨rb + 1, 0, none⟩ = some (.int .i64 b.fr) := blk_cell (hS.box 1 rfl) 0 _ rfl
  have bb1 : u4.cell? ⟨rb + 1, 1, none⟩ = some (.int .i64 b.st) := blk_cell (hS.box 1 rfl) 1 _ rfl
  have bb2 : u4.cell? ⟨rb + 1, 2, none⟩ = some (.int .i64 b.ro) := blk_cell (hS.box 1 rfl) 2 _ rfl
  have bb3 : u4.cell? ⟨rb + 1, 3, none⟩ = some (.int .i64 b.le) := blk_cell (hS.box 1 rfl) 3 _ rfl
  have bb4 : u4.cell? ⟨rb + 1, 4, none⟩ = some (.int .i64 b.ep) := blk_cell (hS.box 1 rfl) 4 _ rfl
  have bb5 : u4.cell? ⟨rb + 1, 5, none⟩ = some (.int .i64 b.zx) := blk_cell (hS.box 1 rfl) 5 _ rfl
  have z1 := heap_lt (hS.box 1 rfl)
  have aa0 : u4.cell? ⟨rb, 0, none⟩ = some (.int .i64 a.fr) := blk_cell (hS.box 2 rfl) 0 _ rfl
  have aa1 : u4.cell? ⟨rb, 1, none⟩ = some (.int .i64 a.st) := blk_cell (hS.box 2 rfl) 1 _ rfl
  have aa2 : u4.cell? ⟨rb, 2, none⟩ = some (.int .i64 a.ro) := blk_cell (hS.box 2 rfl) 2 _ rfl
  have aa3 : u4.cell? ⟨rb, 3, none⟩ = some (.int .i64 a.le) := blk_cell (hS.box 2 rfl) 3 _ rfl
  have aa4 : u4.cell? ⟨rb, 4, none⟩ = some (.int .i64 a.ep) := blk_cell (hS.box 2 rfl) 4 _ rfl
  have aa5 : u4.cell? ⟨rb, 5, none⟩ = some (.int .i64 a.zx) := blk_cell (hS.box 2 rfl) 5 _ rfl
  have z2 := heap_lt (hS.box 2 rfl)
  have HS := Lib.hid hS
  clear hS
  go_upto_region 6 with (fail)
  go_cut [12] (fun v wx => v = .bool (same3 a b) ∧ wx = u4)
  case first =>
    by_cases h1 : a.ep = b.ep
    · by_cases h2 : a.zx = b.zx
      · by_cases h3 : a.le = b.le
        · have hs : same3 a b = true := by unfold same3; simp [h1, h2, h3]
          have HH := Lib.hid hs
          clear hs
          have g1 : (a.ep == b.ep) = true := by simpa using h1
          have g2 : (a.zx == b.zx) = true := by simpa using h2
          have g3 : (a.le == b.le) = true := by simpa using h3
          clear h1 h2 h3
          go_wp2
          go_meet
          exact ⟨by rw [HH.out], rfl⟩
        · have hs : same3 a b = false := by unfold same3; simp [h1, h2, h3]
          have HH := Lib.hid hs
          clear hs
          have g1 : (a.ep == b.ep) = true := by simpa using h1
          have g2 : (a.zx == b.zx) = true := by simpa using h2
          have g3 : (a.le == b.le) = false := by simpa using h3
          clear h1 h2 h3
          go_wp2
          go_meet
          exact ⟨by rw [HH.out], rfl⟩
      · have hs : same3 a b = false := by unfold same3; simp [h1, h2]
        have HH := Lib.hid hs
        clear hs
        have g1 : (a.ep == b.ep) = true := by simpa using h1
        have g2 : (a.zx == b.zx) = false := by simpa using h2
        clear h1 h2
        go_wp2
        go_meet
        exact ⟨by rw [HH.out], rfl⟩
    · have hs : same3 a b = false := by unfold same3; simp [h1]
      have HH := Lib.hid hs
      clear hs
      have g1 : (a.ep == b.ep) = false := by simpa using h1
      clear h1
      go_wp2
      go_meet
      exact ⟨by rw [HH.out], rfl⟩
  case rest =>
  obtain ⟨rfl, rfl⟩ := hcut
  go_wp2_with fail
  refine (Better_any a a _).mono ?_
  rintro e u5 ⟨rfl, hM⟩
  have hS := HS.out.mod hM
  have HM := Lib.hid hS.1
  clear hM HS hS
  clear cc0 cc1 cc2 cc3 cc4 cc5 bb0 bb1 bb2 bb3 bb4 bb5 aa0 aa1 aa2 aa3 aa4 aa5 z0 z1 z2
  have h0 := Vt.better_self a.of
  rcases Vt.better_three a.of b.of with ⟨h1, h2, h3⟩ | ⟨h1, h2, h3⟩ | ⟨h1, h2, h3⟩
  · have h4 : same3 a b = false := by
      unfold same3
      rw [Bool.eq_false_iff]
      intro h
      simp only [Bool.and_eq_true, beq_iff_eq] at h
      exact h3 ⟨h.1.1, h.1.2, h.2⟩
    clear h3
    cases h5 : b.of.better c.of
    · rw [h0, h1, h2, h4]
      go_wp2
      go_ret
      exact ⟨rfl, HM.out⟩
    · rw [h0, h1, h2, h4, Vt.better_trans _ _ _ h1 h5]
      go_wp2
      go_ret
      exact ⟨rfl, HM.out⟩
  · have h4 : same3 a b = false := by
      unfold same3
      rw [Bool.eq_false_iff]
      intro h
      simp only [Bool.and_eq_true, beq_iff_eq] at h
      exact h3 ⟨h.1.1, h.1.2, h.2⟩
    clear h3
    rw [h0, h1, h2, h4]
    go_wp2
    go_ret
    exact ⟨rfl, HM.out⟩
  · have h4 : same3 a b = true := by
      unfold same3
      have g1 : a.ep = b.ep := h3.1
      have g2 : a.zx = b.zx := h3.2.1
      have g3 : a.le = b.le := h3.2.2
      simp [g1, g2, g3]
    clear h3
    rw [h0, h1, h2, h4]
    go_wp2
    go_ret
    exact ⟨rfl, HM.out⟩
end Go.Proofs.Ytmikenagaihoiaa
