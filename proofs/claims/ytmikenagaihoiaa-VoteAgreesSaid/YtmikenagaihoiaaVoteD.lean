/-
  A voter: Look, Tick, Leader.
  Conditions: at most 1000 servers; what is heard is from servers that there are.
-/
import Derived.Test.YtmikenagaihoiaaVoteC
namespace Go.Proofs.Ytmikenagaihoiaa
open Go.RowKit
set_option linter.unusedSectionVars false
set_option linter.unusedSimpArgs false
set_option linter.unusedVariables false

/-- Behind Look. -/
def Vr.look (me servers round ep zx : Int) : Vr := (⟨me, servers, 1, round, 0, ⟨ep, zx, me⟩, ⟨ep, zx, me⟩, put1 (fun _ => none) me ⟨ep, zx, me⟩, fun _ => none, 1, 0⟩ : Vr)

set_option maxHeartbeats 1000000 in
theorem look_st {w0 w : World} {pb : Nat} {l : List Thing} (me servers : Int) (h : St w0 w (bx pb ((Vr.new me servers).cells none none) 51 :: l)) (ep zx : Int) (hme : wf64 me) (hm1 : 1 ≤ me) (hms : me ≤ servers) (hs1 : servers ≤ 1000) :
    Calls Try.prog 10 #[.pointer (some ⟨pb, 0, none⟩), .int .i64 ep, .int .i64 zx] w (StCs w0 (Vr.look me servers 1 ep zx).casts (vr pb (Vr.look me servers 1 ep zx).counted :: l)) := by
  have hmm := @run_makeMap Try.prog
  have hbx := h.box 0 rfl
  have c0 := blk_cell hbx 0 (.int .i64 me) rfl
  have c2 := blk_cell hbx 2 (.int .i64 0) rfl
  have c3 := blk_cell hbx 3 (.int .i64 0) rfl
  have c5 := blk_cell hbx 5 (.int .i64 0) rfl
  have c6 := blk_cell hbx 6 (.int .i64 0) rfl
  have c7 := blk_cell hbx 7 (.int .i64 0) rfl
  have c11 := blk_cell hbx 11 (.map none) rfl
  have c12 := blk_cell hbx 12 (.map none) rfl
  have fr := blk_free hbx
  have hpb := heap_lt hbx
  have H1 : Hid (St w0 (((((w.setCell ⟨pb, 2, none⟩ (.int .i64 1)).setCell ⟨pb, 3, none⟩ (.int .i64 1)).setCell ⟨pb, 5, none⟩ (.int .i64 ep)).setCell ⟨pb, 6, none⟩ (.int .i64 zx)).setCell ⟨pb, 7, none⟩ (.int .i64 me)) (bx pb ((⟨me, servers, 1, 1, 0, ⟨ep, zx, me⟩, ⟨0, 0, 0⟩, fun _ => none, fun _ => none, 0, 0⟩ : Vr).cells none none) 51 :: l)) :=
    Lib.hid (((((h.set 0 rfl 2 (.int .i64 1)).set 0 rfl 3 (.int .i64 1)).set 0 rfl 5 (.int .i64 ep)).set 0 rfl 6 (.int .i64 zx)).set 0 rfl 7 (.int .i64 me))
  clear h hbx
  go_enter Try.func10, Try.ntmps10
  go_upto_region 4 with (fail)
  generalize ((((w.setCell ⟨pb, 2, none⟩ (.int .i64 1)).setCell ⟨pb, 3, none⟩ (.int .i64 1)).setCell ⟨pb, 5, none⟩ (.int .i64 ep)).setCell ⟨pb, 6, none⟩ (.int .i64 zx)).setCell ⟨pb, 7, none⟩ (.int .i64 me) = W at H1 ⊢
  clear c0 c2 c3 c5 c6 c7 c11 c12 fr hpb
  have hbx := H1.out.box 0 rfl
  have c11 := blk_cell hbx 11 (.map none) rfl
  have c12 := blk_cell hbx 12 (.map none) rfl
  have f11 := blk_free hbx 11
  have f12 := blk_free hbx 12
  have hpb := heap_lt hbx
  have H2 : Hid (St w0 ((((W.setCell ⟨pb, 11, none⟩ (.map (some W.heap.size))).setCell ⟨pb, 12, none⟩ (.map (some (W.heap.size + 1)))).alloc (.map #[] 0)).alloc (.map #[] 0)) (bx pb ((⟨me, servers, 1, 1, 0, ⟨ep, zx, me⟩, ⟨0, 0, 0⟩, fun _ => none, fun _ => none, 0, 0⟩ : Vr).cells (some W.heap.size) (some (W.heap.size + 1))) 51 :: mp Try.prog 3 W.heap.size 0 (fun _ => none) :: mp Try.prog 3 (W.heap.size + 1) 0 (fun _ => none) :: l)) := by
    have h2 := (((H1.out.set 0 rfl 11 (.map (some W.heap.size))).set 0 rfl 12 (.map (some (W.heap.size + 1)))).map1 Try.prog 3).map1 Try.prog 3
    rw [World.size_alloc, World.size_setCell, World.size_setCell] at h2
    exact Lib.hid ((h2.perm (List.perm_append_comm_assoc [_, _] [_] l)).perm (.cons _ (.swap _ _ _)))
  clear H1 hbx
  go_upto_region 5 with (fail)
  generalize (((W.setCell ⟨pb, 11, none⟩ (.map (some W.heap.size))).setCell ⟨pb, 12, none⟩ (.map (some (W.heap.size + 1)))).alloc (.map #[] 0)).alloc (.map #[] 0) = X at H2 ⊢
  clear c11 c12 f11 f12 hpb
  have hbx := H2.out.box 0 rfl
  have c5 := blk_cell hbx 5 (.int .i64 ep) rfl
  have c6 := blk_cell hbx 6 (.int .i64 zx) rfl
  have c7 := blk_cell hbx 7 (.int .i64 me) rfl
  have hpb := heap_lt hbx
  have H3 : Hid (St w0 X (vr pb ⟨me, servers, 1, 1, 0, ⟨ep, zx, me⟩, ⟨0, 0, 0⟩, fun _ => none, fun _ => none, 0, 0⟩ :: l)) := Lib.hid (St.revr ⟨me, servers, 1, 1, 0, ⟨ep, zx, me⟩, ⟨0, 0, 0⟩, fun _ => none, fun _ => none, 0, 0⟩ H2.out)
  clear H2 hbx hmm
  go_wp2_with fail
  refine (takes_st H3.out ⟨ep, zx, me⟩ hme (by show 0 < maxLen; unfold maxLen; decide)).mono ?_
  rintro e w5 ⟨rfl, hS⟩
  have hS5 : St w0 w5 (vr pb (Vr.look me servers 1 ep zx) :: l) := hS
  obtain ⟨hb, sb, hS6⟩ := hS5.unvr
  have HS6 := Lib.hid hS6
  clear hS hS5 hS6 H3 c5 c6 c7 hpb
  go_wp2_with fail
  refine (casts_bx HS6.out 0 rfl (by show 0 ≤ servers; omega) hs1).mono ?_
  rintro e w6 ⟨a6, cap6, rfl, hS7⟩
  have HS7 := Lib.hid ((hS7.perm (List.perm_append_comm_assoc [_] [_, _, _] l)).revr (V := Vr.look me servers 1 ep zx))
  clear hS7 HS6
  go_wp2_with fail
  refine (counts_st HS7.out (by show 0 ≤ servers; omega) hs1 (fun i x hx => ?_)).mono ?_
  · show 1 ≤ i ∧ i ≤ servers
    have hx' : put1 (fun _ => none) me (⟨ep, zx, me⟩ : Vt) i = some x := hx
    unfold put1 at hx'
    split at hx'
    · omega
    · cases hx'
  rintro e w7 ⟨rfl, hS8⟩
  go_wp2
  go_ret
  exact ⟨a6, cap6, rfl, hS8.perm (.swap _ _ _)⟩

/-! ### Tick, Leader -/
def Vr.tick (V : Vr) : Vr := if V.does ≠ 1 then V else if V.wait = 0 then V else if V.wait - 1 = 0 then { V with wait := V.wait - 1, does := 2 } else { V with wait := V.wait - 1 }
def Vr.ticked (V : Vr) : List Cs := if V.does ≠ 1 then [] else if V.wait = 0 then V.casts else []

set_option maxHeartbeats 1000000 in
theorem tick_st {w0 w : World} {pb : Nat} {V : Vr} {l : List Thing} (h : St w0 w (vr pb V :: l)) (hs0 : 0 ≤ V.servers) (hs1 : V.servers ≤ 1000) (hw0 : 0 ≤ V.wait) (hw1 : V.wait ≤ 2) :
    Calls Try.prog 14 #[.pointer (some ⟨pb, 0, none⟩)] w (StCs w0 V.ticked (vr pb V.tick :: l)) := by
  obtain ⟨hb, sb, hS⟩ := h.unvr
  have hbx := hS.box 0 rfl
  have c2 := blk_cell hbx 2 (.int .i64 V.does) rfl
  have c4 := blk_cell hbx 4 (.int .i64 V.wait) rfl
  have f2 := blk_free hbx 2
  have f4 := blk_free hbx 4
  have hpb := heap_lt hbx
  have HS := Lib.hid hS
  have H0 := Lib.hid h
  clear h hS hbx
  by_cases h1 : V.does = 1
  · have g1 : (V.does != 1) = false := by simpa using h1
    by_cases h2 : V.wait = 0
    · have g2 : (V.wait == 0) = true := by simpa using h2
      have HE : Hid (V.ticked = V.casts ∧ V.tick = V) := Lib.hid ⟨by rw [Vr.ticked, if_neg (by simpa using h1), if_pos h2], by rw [Vr.tick, if_neg (by simpa using h1), if_pos h2]⟩
      clear h1 h2
      go_enter Try.func14, Try.ntmps14
      go_wp2_with fail
      refine (casts_bx HS.out 0 rfl hs0 hs1).mono ?_
      rintro e w6 ⟨a6, cap6, rfl, hS7⟩
      go_wp2
      go_ret
      rw [HE.out.1, HE.out.2]
      exact ⟨a6, cap6, rfl, (St.revr V (hS7.perm (List.perm_append_comm_assoc [_] [_, _, _] l))).perm (.swap _ _ _)⟩
    · have g2 : (V.wait == 0) = false := by simpa using h2
      have hwr : IntKind.i64.wrap (V.wait - 1) = V.wait - 1 := IntWalk.i64_in _ (by omega)
      by_cases h3 : V.wait - 1 = 0
      · have g3 : (V.wait - 1 == 0) = true := by simpa using h3
        have HE : Hid (V.ticked = [] ∧ V.tick = { V with wait := V.wait - 1, does := 2 }) := Lib.hid ⟨by rw [Vr.ticked, if_neg (by simpa using h1), if_neg h2], by rw [Vr.tick, if_neg (by simpa using h1), if_neg h2, if_pos h3]⟩
        clear h1 h2 h3
        go_enter Try.func14, Try.ntmps14
        go_wp2
        go_ret
        rw [HE.out.1, HE.out.2]
        exact ⟨none, 0, rfl, (St.revr { V with wait := V.wait - 1, does := 2 } ((HS.out.set 0 rfl 4 (.int .i64 (V.wait - 1))).set 0 rfl 2 (.int .i64 2))).nilSlice _ _⟩
      · have g3 : (V.wait - 1 == 0) = false := by simpa using h3
        have HE : Hid (V.ticked = [] ∧ V.tick = { V with wait := V.wait - 1 }) := Lib.hid ⟨by rw [Vr.ticked, if_neg (by simpa using h1), if_neg h2], by rw [Vr.tick, if_neg (by simpa using h1), if_neg h2, if_neg h3]⟩
        clear h1 h2 h3
        go_enter Try.func14, Try.ntmps14
        go_wp2
        go_ret
        rw [HE.out.1, HE.out.2]
        exact ⟨none, 0, rfl, (St.revr { V with wait := V.wait - 1 } (HS.out.set 0 rfl 4 (.int .i64 (V.wait - 1)))).nilSlice _ _⟩
  · have g1 : (V.does != 1) = true := by simpa using h1
    have HE : Hid (V.ticked = [] ∧ V.tick = V) := Lib.hid ⟨by rw [Vr.ticked, if_pos h1], by rw [Vr.tick, if_pos h1]⟩
    clear h1
    go_enter Try.func14, Try.ntmps14
    go_wp2
    go_ret
    rw [HE.out.1, HE.out.2]
    exact ⟨none, 0, rfl, H0.out.nilSlice _ _⟩

def Vr.leads (V : Vr) : Value := if V.does = 2 then .tuple #[.int .i64 V.vote.l, .bool true] else .tuple #[.int .i64 0, .bool false]
theorem leader_st {w0 w : World} {pb : Nat} {V : Vr} {l : List Thing} (h : St w0 w (vr pb V :: l)) :
    Calls Try.prog 12 #[.pointer (some ⟨pb, 0, none⟩)] w (StPost V.leads w0 (vr pb V :: l)) := by
  obtain ⟨hb, sb, hS⟩ := h.unvr
  have hbx := hS.box 0 rfl
  have c2 := blk_cell hbx 2 (.int .i64 V.does) rfl
  have c10 := blk_cell hbx 10 (.int .i64 V.vote.l) rfl
  have hpb := heap_lt hbx
  have H0 := Lib.hid h
  clear h hS hbx
  by_cases h1 : V.does = 2
  · have g1 : (V.does != 2) = false := by simpa using h1
    have HE : Hid (V.leads = .tuple #[.int .i64 V.vote.l, .bool true]) := by show _ = _; rw [Vr.leads, if_pos h1]
    clear h1
    go_enter Try.func12, Try.ntmps12
    go_wp2
    go_ret2
    rw [HE.out]
    exact ⟨rfl, H0.out⟩
  · have g1 : (V.does != 2) = true := by simpa using h1
    have HE : Hid (V.leads = .tuple #[.int .i64 0, .bool false]) := by show _ = _; rw [Vr.leads, if_neg h1]
    clear h1
    go_enter Try.func12, Try.ntmps12
    go_wp2
    go_ret2
    rw [HE.out]
    exact ⟨rfl, H0.out⟩
end Go.Proofs.Ytmikenagaihoiaa
