/-
  do: one step on the program's post and on the document's: they answer alike, and hold the same list.
  Conditions: both hold one list, of at most 400.
-/
import Derived.Test.YtnggolgpnbdghaaPostY
namespace Go.Proofs.Ytnggolgpnbdghaa
open Go.RowKit
set_option linter.unusedSectionVars false
set_option linter.unusedSimpArgs false
set_option linter.unusedVariables false

def DoPost (w0 : World) (pb rb : Nat) (l : List Thing) (e : Ending) (w' : World) : Prop :=
  e = .returned (.bool true) ∧ ∃ ys : List Pk, ys.length ≤ 400 ∧ St w0 w' (pst 47 pb ys :: pst 51 rb ys :: l)

theorem taken_len (xs : List Pk) (k : Int) : (taken xs k).length ≤ xs.length := by
  unfold taken; split
  · exact Nat.le_refl _
  · exact List.length_eraseIdx_le _ _

theorem ans_cases (xs : List Pk) (k : Int) : ∃ (p : Pk) (s : Bool), ans xs k = .tuple #[p.agg, .bool s] := by
  unfold ans
  split
  · exact ⟨_, _, rfl⟩
  · exact ⟨_, _, rfl⟩

set_option maxRecDepth 100000 in
set_option maxHeartbeats 2000000 in
theorem do_st {w0 w : World} {pb rb : Nat} {xs : List Pk} {l : List Thing} (h : St w0 w (pst 47 pb xs :: pst 51 rb xs :: l)) (hx : xs.length ≤ 400) (what num : Int) (hw0 : -9223372036854775808 ≤ what) (hw1 : what ≤ 9223372036854775807)
    (s : Option Addr) (n sc : Nat) (ys : List Pk) (hn : ys.length = n) (hs : Rd w0 8 s n sc (flat ys)) (hf : fits (400 + n)) :
    Calls Try.prog 14 #[.pointer (some ⟨pb, 0, none⟩), .pointer (some ⟨rb, 0, none⟩), .agg #[.int .i64 what, .int .i64 num, .slice s n sc]] w (DoPost w0 pb rb l) := by
  have hS := h.box1 #[.int .i64 what, .int .i64 num, .slice s n sc] 43
  have b0 := blk_cell (hS.box 0 rfl) 0 (.int .i64 what) rfl
  have b1 := blk_cell (hS.box 0 rfl) 1 (.int .i64 num) rfl
  have b2 := blk_cell (hS.box 0 rfl) 2 (.slice s n sc) rfl
  have hzb := heap_lt (hS.box 0 rfl)
  have HR := Lib.hid hs
  have HN := Lib.hid hn
  have HF := Lib.hid hf
  clear h hs hn hf
  go_enter Try.func14, Try.ntmps14
  go_wp2_with fail
  generalize w.alloc (.cells #[.int .i64 what, .int .i64 num, .slice s n sc] 43) = W at hS b0 b1 b2 hzb ⊢
  generalize w.heap.size = tb at hS b0 b1 b2 hzb ⊢
  refine (pick_any what 5 W hw0 hw1 (by omega) (by omega)).mono ?_
  rintro e w1 ⟨k, hk, rfl, rfl⟩
  by_cases k2 : k = 2
  · subst k2
    obtain ⟨p, is, hA⟩ := ans_cases xs num
    have HA := Lib.hid hA
    clear hA
    go_wp2_with fail
    refine (take_st hS 1 rfl num).mono ?_
    rw [HA.out]
    clear hS
    rintro e w2 ⟨rfl, hS⟩
    simp only [List.set_cons_succ, List.set_cons_zero] at hS
    have c1 := blk_cell (hS.box 0 rfl) 1 (.int .i64 num) rfl
    have hz1 := heap_lt (hS.box 0 rfl)
    have hT := Lib.hid (hS.box1 p.cells.toArray 32)
    clear hS
    go_wp2_with fail
    refine (rtake_st hT.out 3 rfl num).mono ?_
    rw [HA.out]
    rintro e w3 ⟨rfl, hS⟩
    simp only [List.set_cons_succ, List.set_cons_zero] at hS
    obtain ⟨⟨q0, q1, q2, q3, q4, q5, q6, q7⟩, qf⟩ := res8 (p := p) (hS.box 0 rfl)
    have hz3 := heap_lt (hS.box 0 rfl)
    have HS := Lib.hid hS
    clear hS hT
    go_wp2
    go_ret
    exact ⟨by simp, taken xs num, Nat.le_trans (taken_len xs num) hx, (HS.out.tail.tail).mod ((Mod.refl _ _).alloc _)⟩
  by_cases k3 : k = 3
  · subst k3
    obtain ⟨p, is, hA⟩ := ans_cases xs num
    have HA := Lib.hid hA
    clear hA
    go_wp2_with fail
    refine (copy_st hS 1 rfl num).mono ?_
    rw [HA.out]
    clear hS
    rintro e w2 ⟨rfl, hS⟩
    have c1 := blk_cell (hS.box 0 rfl) 1 (.int .i64 num) rfl
    have hz1 := heap_lt (hS.box 0 rfl)
    have hT := Lib.hid (hS.box1 p.cells.toArray 32)
    clear hS
    go_wp2_with fail
    refine (rcopy_st hT.out 3 rfl num).mono ?_
    rw [HA.out]
    rintro e w3 ⟨rfl, hS⟩
    obtain ⟨⟨q0, q1, q2, q3, q4, q5, q6, q7⟩, qf⟩ := res8 (p := p) (hS.box 0 rfl)
    have hz3 := heap_lt (hS.box 0 rfl)
    have HS := Lib.hid hS
    clear hS hT
    go_wp2
    go_ret
    exact ⟨by simp, xs, hx, (HS.out.tail.tail).mod ((Mod.refl _ _).alloc _)⟩
  by_cases k4 : k = 4
  · subst k4
    have HS := Lib.hid hS
    clear hS
    go_wp2
    go_region_held3 (fun w' => w'.cell? ⟨tb, 1, none⟩ = some (.int .i64 num)) (first | exact b1 | exact c5 | exact c6 | go_keep)
      ((first
        | (go_at_call 23; refine (drop_st (HS.out.mod ((Mod.refl _ _).drewN _)) 1 rfl num).mono ?_; rintro e w5 ⟨rfl, hS5⟩; have c5 := blk_cell (hS5.box 0 rfl) 1 (.int .i64 num) rfl)
        | (go_at_call 24; refine (rdrop_st hS5 2 rfl num).mono ?_; rintro e w6 ⟨rfl, hS6⟩; have c6 := blk_cell (hS6.box 0 rfl) 1 (.int .i64 num) rfl)))
    go_wp2
    go_ret
    simp only [List.set_cons_succ, List.set_cons_zero] at hS6
    exact ⟨by simp, _, Nat.le_trans (List.length_filter_le _ _) hx, hS6.tail⟩
  · have g2 : ((k : Int) == 2) = false := by simp; omega
    have g3 : ((k : Int) == 3) = false := by simp; omega
    have g4 : ((k : Int) == 4) = false := by simp; omega
    clear k2 k3 k4
    go_wp2_with fail
    refine (send_st hS 1 rfl s n sc ys HN.out HR.out (HF.out.mono (by omega))).mono ?_
    clear hS
    rintro e w2 ⟨rfl, hS⟩
    simp only [List.set_cons_succ, List.set_cons_zero] at hS
    have c2 := blk_cell (hS.box 0 rfl) 2 (.slice s n sc) rfl
    have hz2 := heap_lt (hS.box 0 rfl)
    go_wp2_with fail
    refine (rsend_st hS 2 rfl hx s n sc ys HN.out HR.out (HF.out.mono (by omega))).mono ?_
    clear hS
    rintro e w3 ⟨rfl, hS⟩
    simp only [List.set_cons_succ, List.set_cons_zero] at hS
    go_wp2
    go_ret
    exact ⟨rfl, _, last400_len _, hS.tail⟩
end Go.Proofs.Ytnggolgpnbdghaa
