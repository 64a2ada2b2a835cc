/-
  Votes and notes; which vote is better: cmp.Compare, cmp.Or, of, better, Better.
  No condition.
-/
import Derived.Test.YtmikenagaihoiaaRows
import Derived.Test.YtmikenagaihoiaaMapR
import Derived.Test.YtmikenagaihoiaaGrp
import Derived.Test.YtmikenagaihoiaaFlat
import Derived.Test.YtmikenagaihoiaaStep
import Derived.BigRegion
import Derived.Deep.RegionHeld3
import Derived.Deep.LoopGhost
import Derived.Deep.DeepCutAuto
import Derived.LoopN
namespace Go.Proofs.Ytmikenagaihoiaa
open Go.RowKit
set_option linter.unusedSectionVars false
set_option linter.unusedSimpArgs false
set_option linter.unusedVariables false

structure Vt where
  e : Int
  z : Int
  l : Int
deriving DecidableEq
def Vt.cells (v : Vt) : List Value := [.int .i64 v.e, .int .i64 v.z, .int .i64 v.l]
def Vt.agg (v : Vt) : Value := .agg #[.int .i64 v.e, .int .i64 v.z, .int .i64 v.l]
attribute [go_sem] Vt.agg

structure No where
  fr : Int
  st : Int
  ro : Int
  le : Int
  ep : Int
  zx : Int
deriving DecidableEq
def No.cells (n : No) : List Value := [.int .i64 n.fr, .int .i64 n.st, .int .i64 n.ro, .int .i64 n.le, .int .i64 n.ep, .int .i64 n.zx]
def No.agg (n : No) : Value := .agg #[.int .i64 n.fr, .int .i64 n.st, .int .i64 n.ro, .int .i64 n.le, .int .i64 n.ep, .int .i64 n.zx]
attribute [go_sem] No.agg
def No.of (n : No) : Vt := ⟨n.ep, n.zx, n.le⟩

theorem sizeV : (Try.prog.info? 45).map (·.size) = some 3 := by kernel_rfl
theorem sizeN : (Try.prog.info? 23).map (·.size) = some 6 := by kernel_rfl

def cmp3 (x y : Int) : Int := if x < y then -1 else if y < x then 1 else 0
def Vt.better (a b : Vt) : Bool := decide (b.e < a.e) || (a.e == b.e && (decide (b.z < a.z) || (a.z == b.z && decide (b.l < a.l))))
def or3 (x y z : Int) : Int := if x = 0 then if y = 0 then z else y else x

def RetPost (v : Value) (w : World) (e : Ending) (w' : World) : Prop := e = .returned v ∧ w = w'
def CopyPost (v : Value) (w : World) (e : Ending) (w' : World) : Prop := e = .returned v ∧ Mod (fun _ => False) w w'

theorem isNaN_any (x : Int) (w : World) : Calls Try.prog 26 #[.int .i64 x] w (RetPost (.bool false) w) := by
  go_enter Try.func26, Try.ntmps26
  go_wp2
  go_ret
  exact ⟨by simp, rfl⟩

theorem Compare_any (x y : Int) (w : World) : Calls Try.prog 25 #[.int .i64 x, .int .i64 y] w (RetPost (.int .i64 (cmp3 x y)) w) := by
  by_cases h1 : x < y
  · have g1 : decide (x < y) = true := by simpa using h1
    have HE : Hid (cmp3 x y = -1) := by show _ = _; rw [cmp3, if_pos h1]
    clear h1
    go_enter Try.func25, Try.ntmps25
    go_wp2_with fail
    refine (isNaN_any x w).mono ?_
    rintro e w1 ⟨rfl, rfl⟩
    go_wp2_with fail
    refine (isNaN_any y w).mono ?_
    rintro e w1 ⟨rfl, rfl⟩
    go_wp2
    go_ret
    rw [HE.out]
    exact ⟨rfl, rfl⟩
  · have g1 : decide (x < y) = false := by simpa using h1
    have HE : Hid (cmp3 x y = if y < x then 1 else 0) := by show _ = _; rw [cmp3, if_neg h1]
    clear h1
    by_cases h2 : y < x
    · have g2 : decide (y < x) = true := by simpa using h2
      have HE2 : Hid (cmp3 x y = 1) := by show _ = _; rw [HE.out, if_pos h2]
      clear h2
      go_enter Try.func25, Try.ntmps25
      go_wp2_with fail
      refine (isNaN_any x w).mono ?_
      rintro e w1 ⟨rfl, rfl⟩
      go_wp2_with fail
      refine (isNaN_any y w).mono ?_
      rintro e w1 ⟨rfl, rfl⟩
      go_wp2
      go_ret
      rw [HE2.out]
      exact ⟨rfl, rfl⟩
    · have g2 : decide (y < x) = false := by simpa using h2
      have HE2 : Hid (cmp3 x y = 0) := by show _ = _; rw [HE.out, if_neg h2]
      clear h2
      go_enter Try.func25, Try.ntmps25
      go_wp2_with fail
      refine (isNaN_any x w).mono ?_
      rintro e w1 ⟨rfl, rfl⟩
      go_wp2_with fail
      refine (isNaN_any y w).mono ?_
      rintro e w1 ⟨rfl, rfl⟩
      go_wp2
      go_ret
      rw [HE2.out]
      exact ⟨rfl, rfl⟩

theorem Or_any (b : Nat) (x y z : Int) (w : World) (h : w.heap[b]? = some (.cells #[.int .i64 x, .int .i64 y, .int .i64 z] 3 (0, 0))) :
    Calls Try.prog 24 #[.slice (some ⟨b, 0, none⟩) 3 3] w (RetPost (.int .i64 (or3 x y z)) w) := by
  have e0 := blk_cell h 0 (.int .i64 x) rfl
  have e1 := blk_cell h 1 (.int .i64 y) rfl
  have e2 := blk_cell h 2 (.int .i64 z) rfl
  have hb := heap_lt h
  clear h
  have key : ∀ v, or3 x y z = v → Calls Try.prog 24 #[.slice (some ⟨b, 0, none⟩) 3 3] w (RetPost (.int .i64 v) w) := by
    intro v hv
    have HE := Lib.hid hv
    clear hv
    by_cases hx : x = 0
    · subst hx
      by_cases hy : y = 0
      · subst hy
        by_cases hz : z = 0
        · subst hz
          have HV : Hid (v = 0) := Lib.hid HE.out.symm
          clear HE
          go_enter Try.func24, Try.ntmps24
          go_wp2
          refine wp_loop_rounds 4 ?_
          rw [rounds_succ]; go_wp2
          rw [rounds_succ]; go_wp2
          rw [rounds_succ]; go_wp2
          rw [rounds_succ]; go_wp2
          go_ret
          rw [HV.out]
          exact ⟨rfl, rfl⟩
        · have gz : (z != 0) = true := by simpa using hz
          have HV : Hid (v = z) := Lib.hid HE.out.symm
          clear HE hz
          go_enter Try.func24, Try.ntmps24
          go_wp2
          refine wp_loop_rounds 3 ?_
          rw [rounds_succ]; go_wp2
          rw [rounds_succ]; go_wp2
          rw [rounds_succ]; go_wp2
          go_ret
          rw [HV.out]
          exact ⟨rfl, rfl⟩
      · have gy : (y != 0) = true := by simpa using hy
        have HV : Hid (v = y) := Lib.hid (by rw [← HE.out, or3, if_pos rfl, if_neg hy])
        clear HE hy
        go_enter Try.func24, Try.ntmps24
        go_wp2
        refine wp_loop_rounds 2 ?_
        rw [rounds_succ]; go_wp2
        rw [rounds_succ]; go_wp2
        go_ret
        rw [HV.out]
        exact ⟨rfl, rfl⟩
    · have gx : (x != 0) = true := by simpa using hx
      have HV : Hid (v = x) := Lib.hid (by rw [← HE.out, or3, if_neg hx])
      clear HE hx
      go_enter Try.func24, Try.ntmps24
      go_wp2
      refine wp_loop_rounds 1 ?_
      rw [rounds_succ]; go_wp2
      go_ret
      rw [HV.out]
      exact ⟨rfl, rfl⟩
  exact key _ rfl

theorem better_or (a b : Vt) : decide (0 < or3 (cmp3 a.e b.e) (cmp3 a.z b.z) (cmp3 a.l b.l)) = a.better b := by
  unfold or3 cmp3 Vt.better
  by_cases h1 : a.e < b.e
  · simp [h1, show ¬ b.e < a.e by omega, show ¬ a.e = b.e by omega]
  · by_cases h2 : b.e < a.e
    · simp [h1, h2]
    · have h3 : a.e = b.e := by omega
      by_cases h4 : a.z < b.z
      · simp [h3, h4, show ¬ b.z < a.z by omega, show ¬ a.z = b.z by omega]
      · by_cases h5 : b.z < a.z
        · simp [h3, h4, h5]
        · have h6 : a.z = b.z := by omega
          by_cases h7 : a.l < b.l
          · simp [h3, h6, h7, show ¬ b.l < a.l by omega]
          · by_cases h8 : b.l < a.l
            · simp [h3, h6, h7, h8]
            · simp [h3, h6, h7, h8]

theorem better_any (a b : Vt) (w : World) : Calls Try.prog 16 #[a.agg, b.agg] w (CopyPost (.bool (a.better b)) w) := by
  have hS := ((St.start w).box1 a.cells.toArray 45).box1 b.cells.toArray 45
  rw [World.size_alloc] at hS
  simp only [Vt.agg]
  go_enter Try.func16, Try.ntmps16
  go_upto_region 1 with (fail)
  change Code.wp _ _ _ _ ((w.alloc (.cells a.cells.toArray 45)).alloc (.cells b.cells.toArray 45))
  generalize (w.alloc (.cells a.cells.toArray 45)).alloc (.cells b.cells.toArray 45) = W at hS ⊢
  generalize hta : w.heap.size = ta at hS ⊢
  have a0 := blk_cell (hS.box 1 rfl) 0 (.int .i64 a.e) rfl
  have a1 := blk_cell (hS.box 1 rfl) 1 (.int .i64 a.z) rfl
  have a2 := blk_cell (hS.box 1 rfl) 2 (.int .i64 a.l) rfl
  have b0 := blk_cell (hS.box 0 rfl) 0 (.int .i64 b.e) rfl
  have b1 := blk_cell (hS.box 0 rfl) 1 (.int .i64 b.z) rfl
  have b2 := blk_cell (hS.box 0 rfl) 2 (.int .i64 b.l) rfl
  have hlt := heap_lt (hS.box 0 rfl)
  have HS := Lib.hid hS
  have HB := Lib.hid (better_or a b)
  clear hS hta
  go_cut [4] (fun v wx => v = .bool (a.better b) ∧ Mod (fun _ => False) w wx)
  case first =>
    go_region_held3 (fun w' => w'.cell? ⟨ta, 0, none⟩ = some (.int .i64 a.e) ∧ w'.cell? ⟨ta, 1, none⟩ = some (.int .i64 a.z) ∧ w'.cell? ⟨ta, 2, none⟩ = some (.int .i64 a.l) ∧ w'.cell? ⟨ta + 1, 0, none⟩ = some (.int .i64 b.e) ∧ w'.cell? ⟨ta + 1, 1, none⟩ = some (.int .i64 b.z) ∧ w'.cell? ⟨ta + 1, 2, none⟩ = some (.int .i64 b.l))
      (first | exact ⟨a0, a1, a2, b0, b1, b2⟩ | go_keep)
      ((first
        | (go_at_call 25; refine (Compare_any _ _ _).mono ?_; rintro e w2 ⟨rfl, rfl⟩)
        | (go_at_call 24; refine (Or_any W.heap.size (cmp3 a.e b.e) (cmp3 a.z b.z) (cmp3 a.l b.l) _ (by first | exact heap_alloc_new W.drew _ | exact heap_alloc_new W _ | (simp [heap_alloc_new]; done))).mono ?_; rintro e w3 ⟨rfl, rfl⟩)))
    all_goals
      (try go_wp2_with fail)
      go_meet
      exact ⟨by rw [HB.out], ((HS.out.1).alloc _).drew⟩
  case rest =>
    obtain ⟨rfl, hm⟩ := hcut
    go_wp2
    go_ret
    exact ⟨rfl, hm⟩

theorem results_cell {P : Program} {fn : Func} {p : Tmp} {ty : TypeId} (h : fn.results = #[.cell p ty]) (tmps : Array Value) (w : World) (g : Nat) (T : TypeId) (cs : Array Value) (fr : Nat × Nat) (d : TypeDesc)
    (hp : tmps.getD p undef = .pointer (some ⟨g, 0, none⟩)) (hg : w.heap[g]? = some (.cells cs T fr))
    (hu : P.underlying ty = some d) (hd : (match d with | .struct _ | .array _ _ => true | _ => false) = true) (hi : (P.info? ty).map (·.size) = some cs.size) :
    (results fn tmps).run P w = .ok (.agg cs) w := by
  have hp' : tmps[p]?.getD undef = .pointer (some ⟨g, 0, none⟩) := by simpa using hp
  simp [results, h, hp', asAddr, run_loadVar_row w g T ty cs fr d hg hu hd hi]

theorem of_any (n : No) (w : World) : Calls Try.prog 15 #[n.agg] w (CopyPost n.of.agg w) := by
  have hS := ((St.start w).box1 n.cells.toArray 23).box1 #[.int .i64 0, .int .i64 0, .int .i64 0] 45
  rw [World.size_alloc] at hS
  have a3 := blk_cell (hS.box 1 rfl) 3 (.int .i64 n.le) rfl
  have a4 := blk_cell (hS.box 1 rfl) 4 (.int .i64 n.ep) rfl
  have a5 := blk_cell (hS.box 1 rfl) 5 (.int .i64 n.zx) rfl
  have HS := Lib.hid hS
  clear hS
  simp only [No.agg]
  go_enter Try.func15, Try.ntmps15
  go_wp2_with (refine wpList_store_whole 3 sizeV (w.heap.size + 1) rfl _ _ (HS.out.box 0 rfl) rfl n.of.cells rfl rfl (by kernel_rfl) ?_; intro w5 hg5 hM5 hz5)
  refine bodyPost_ret (results_cell rfl _ w5 (w.heap.size + 1) _ _ _ _ rfl hg5 Try.underlying45 rfl sizeV) rfl ?_
  exact ⟨rfl, (HS.out.rebox 0 rfl hg5 hM5).1⟩

set_option maxHeartbeats 4000000 in
theorem Better_any (a b : No) (w : World) : Calls Try.prog 7 #[a.agg, b.agg] w (CopyPost (.bool (a.of.better b.of)) w) := by
  have hS := ((St.start w).box1 a.cells.toArray 23).box1 b.cells.toArray 23
  rw [World.size_alloc] at hS
  simp only [No.agg]
  go_enter Try.func7, Try.ntmps7
  go_upto_region 1 with (fail)
  change Code.wp _ _ _ _ ((w.alloc (.cells a.cells.toArray 23)).alloc (.cells b.cells.toArray 23))
  generalize (w.alloc (.cells a.cells.toArray 23)).alloc (.cells b.cells.toArray 23) = W at hS ⊢
  generalize hta : w.heap.size = ta at hS ⊢
  have hlt := heap_lt (hS.box 0 rfl)
  have q0 := blk_cell (hS.box 1 rfl) 0 (.int .i64 a.fr) rfl
  have q1 := blk_cell (hS.box 1 rfl) 1 (.int .i64 a.st) rfl
  have q2 := blk_cell (hS.box 1 rfl) 2 (.int .i64 a.ro) rfl
  have q3 := blk_cell (hS.box 1 rfl) 3 (.int .i64 a.le) rfl
  have q4 := blk_cell (hS.box 1 rfl) 4 (.int .i64 a.ep) rfl
  have q5 := blk_cell (hS.box 1 rfl) 5 (.int .i64 a.zx) rfl
  have q6 := blk_cell (hS.box 0 rfl) 0 (.int .i64 b.fr) rfl
  have q7 := blk_cell (hS.box 0 rfl) 1 (.int .i64 b.st) rfl
  have q8 := blk_cell (hS.box 0 rfl) 2 (.int .i64 b.ro) rfl
  have q9 := blk_cell (hS.box 0 rfl) 3 (.int .i64 b.le) rfl
  have q10 := blk_cell (hS.box 0 rfl) 4 (.int .i64 b.ep) rfl
  have q11 := blk_cell (hS.box 0 rfl) 5 (.int .i64 b.zx) rfl
  have HS := Lib.hid hS
  clear hS hta
  go_cut [4] (fun v wx => v = .bool (a.of.better b.of) ∧ Mod (fun _ => False) w wx)
  case first =>
    go_region_held3 (fun w' => w'.cell? ⟨ta, 0, none⟩ = some (.int .i64 a.fr) ∧ w'.cell? ⟨ta, 1, none⟩ = some (.int .i64 a.st) ∧ w'.cell? ⟨ta, 2, none⟩ = some (.int .i64 a.ro) ∧ w'.cell? ⟨ta, 3, none⟩ = some (.int .i64 a.le) ∧ w'.cell? ⟨ta, 4, none⟩ = some (.int .i64 a.ep) ∧ w'.cell? ⟨ta, 5, none⟩ = some (.int .i64 a.zx) ∧ w'.cell? ⟨ta + 1, 0, none⟩ = some (.int .i64 b.fr) ∧ w'.cell? ⟨ta + 1, 1, none⟩ = some (.int .i64 b.st) ∧ w'.cell? ⟨ta + 1, 2, none⟩ = some (.int .i64 b.ro) ∧ w'.cell? ⟨ta + 1, 3, none⟩ = some (.int .i64 b.le) ∧ w'.cell? ⟨ta + 1, 4, none⟩ = some (.int .i64 b.ep) ∧ w'.cell? ⟨ta + 1, 5, none⟩ = some (.int .i64 b.zx))
      (first | exact ⟨q0, q1, q2, q3, q4, q5, q6, q7, q8, q9, q10, q11⟩ | exact ⟨r0, r1, r2, r3, r4, r5, r6, r7, r8, r9, r10, r11⟩ | exact ⟨s0, s1, s2, s3, s4, s5, s6, s7, s8, s9, s10, s11⟩ | exact ⟨t0, t1, t2, t3, t4, t5, t6, t7, t8, t9, t10, t11⟩ | go_keep)
      ((first
        | (go_at_call 15; refine (of_any a _).mono ?_; rintro e w2 ⟨rfl, hm2⟩; have r0 := hm2.cell q0 id; have r1 := hm2.cell q1 id; have r2 := hm2.cell q2 id; have r3 := hm2.cell q3 id; have r4 := hm2.cell q4 id; have r5 := hm2.cell q5 id; have r6 := hm2.cell q6 id; have r7 := hm2.cell q7 id; have r8 := hm2.cell q8 id; have r9 := hm2.cell q9 id; have r10 := hm2.cell q10 id; have r11 := hm2.cell q11 id)
        | (go_at_call 15; refine (of_any b _).mono ?_; rintro e w3 ⟨rfl, hm3⟩; have s0 := hm3.cell r0 id; have s1 := hm3.cell r1 id; have s2 := hm3.cell r2 id; have s3 := hm3.cell r3 id; have s4 := hm3.cell r4 id; have s5 := hm3.cell r5 id; have s6 := hm3.cell r6 id; have s7 := hm3.cell r7 id; have s8 := hm3.cell r8 id; have s9 := hm3.cell r9 id; have s10 := hm3.cell r10 id; have s11 := hm3.cell r11 id)
        | (go_at_call 16; refine (better_any a.of b.of _).mono ?_; rintro e w4 ⟨rfl, hm4⟩; have t0 := hm4.cell s0 id; have t1 := hm4.cell s1 id; have t2 := hm4.cell s2 id; have t3 := hm4.cell s3 id; have t4 := hm4.cell s4 id; have t5 := hm4.cell s5 id; have t6 := hm4.cell s6 id; have t7 := hm4.cell s7 id; have t8 := hm4.cell s8 id; have t9 := hm4.cell s9 id; have t10 := hm4.cell s10 id; have t11 := hm4.cell s11 id)))
    all_goals
      (try go_wp2_with fail)
      go_meet
      exact ⟨rfl, ((HS.out.1.drew.trans hm2 (fun _ _ h => h) (fun _ _ h => h)).trans hm3 (fun _ _ h => h) (fun _ _ h => h)).trans hm4 (fun _ _ h => h) (fun _ _ h => h)⟩
  case rest =>
    obtain ⟨rfl, hm⟩ := hcut
    go_wp2
    go_ret
    exact ⟨rfl, hm⟩
end Go.Proofs.Ytmikenagaihoiaa
