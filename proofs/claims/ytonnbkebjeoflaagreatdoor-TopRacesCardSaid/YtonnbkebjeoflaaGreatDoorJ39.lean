/-
  Laws of WalG, WalH, LedB.
  Conditions: each law states its own.
-/
import Derived.Defers
import Derived.BigQuiet
import Derived.Test.YtonnbkebjeoflaaGreatDoorJ16
import Derived.Test.YtonnbkebjeoflaaGreatDoorJ24
import Derived.Test.YtonnbkebjeoflaaGreatDoorJ38
set_option maxHeartbeats 16000000
set_option linter.unusedSectionVars false
set_option linter.unusedSimpArgs false
set_option linter.unusedVariables false
set_option maxRecDepth 100000
namespace Go.Proofs.YtonnbkebjeoflaaGreatDoor
open Go.RowKit Go.Maps
theorem doubts_any (lb eb : Nat) (v : Int) (hv : v ≠ 2) (u : FrameMode) (w : World) (h : w.cell? ⟨eb, 0, none⟩ = some (.int .i64 v)) :
 CallsD Tryz.prog 93 #[.pointer (some ⟨lb, 0, none⟩), .pointer (some ⟨eb, 0, none⟩)] u w (fun e u' w' => u' = u ∧ (e = .returned (.tuple #[]) ∧ w' = w)) := by
 have hv2 : (v == 2) = false := by simpa using hv
 have zb : eb < w.heap.size := World.block_lt_of_cell? w _ h
 go_enter_d Tryz.func93, Tryz.ntmps93
 go_wp2
 go_end0
 exact ⟨rfl, rfl⟩
def NoP (Q : Exit → Act → World → Prop) : Exit → Act → World → Prop
 | .panic _, _, _ => False
 | e, a, w => Q e a w
theorem NoP.out {Q : Exit → Act → World → Prop} : ∀ e a w, NoP Q e a w → Q e a w := fun e _ _ h => by cases e <;> first | exact h | exact h.elim
theorem NoP.n {Q : Exit → Act → World → Prop} {a : Act} {w : World} (h : Q .normal a w) : NoP Q .normal a w := h
theorem wpAny_pop {P : Program} {n : Nat} {ops ops' : Array Oper} {a : Act} {w : World} {Q : Exit → Act → World → Prop} (hn : ops.size = n + 1) (hp : ops.pop = ops') (hd : edgesDown .any ops = true)
 (hc : ((List.range n).all fun k => (aheadAll .any ops n (aheadOf .any ops [n])).contains k) = true)
 (h : wpAny P .any ops' (LastQ P ops n Q) n (Array.replicate n false) a w) : wpAny P .any ops Q (n + 1) (Array.replicate (n + 1) false) a w := by
 have hs : ops'.size = n := by rw [← hp, Array.size_pop]; omega
 obtain ⟨o, ho⟩ : ∃ o, ops = ops'.push o := by
  subst hp
  refine ⟨ops[ops.size - 1], Array.ext_getElem? fun k => ?_⟩
  rw [Array.getElem?_push, Array.getElem?_pop, Array.size_pop]
  split
  ·rename_i h; rw [h, Array.getElem?_eq_getElem (by omega)]
  ·rename_i h
   split
   ·rfl
   ·rw [Array.getElem?_eq_none (by omega)]
 subst ho
 subst hs
 rw [Array.replicate_succ]
 refine wpAny_push hd hc ops'.size _ a _ (by simp) ?_ h
 intro j oj hj hl
 exfalso
 rw [push_getD, Array.getD_eq_getD_getElem?, Array.getElem?_replicate] at hl
 split at hl <;> cases hl
theorem wp_region_last2 {P : Program} {id n : Nat} {ops ops' ops'' : Array Oper} {S : World → Prop} {a : Act} {w : World} {Q : Exit → Act → World → Prop} (hm : P.follows .mixedOrders = true) (hn : ops.size = n + 2) (hp : ops.pop = ops') (hp' : ops'.pop = ops'') (hd : edgesDown .any ops = true) (hd' : edgesDown .any ops' = true)
 (hc : ((List.range (n + 1)).all fun k => (aheadAll .any ops (n + 1) (aheadOf .any ops [n + 1])).contains k) = true)
 (hc' : ((List.range n).all fun k => (aheadAll .any ops' n (aheadOf .any ops' [n])).contains k) = true) (hS : S w.drew)
 (h : S w.drew → wpAnyH P .any ops'' (LastQ P ops' n (LastQ P ops (n + 1) (NoP Q))) S n (Array.replicate n false) a w.drew) : (Code.region id ops true).wp P Q a w := by
 refine wp_mono ?_ NoP.out
 have hs : ops'.size = n + 1 := by rw [← hp, Array.size_pop]; omega
 refine wp_region_any hm ?_
 rw [hn]
 exact wpAny_pop hn hp hd hc (wpAny_pop hs hp' hd' hc' (wpAny_of_held _ _ _ _ (h hS)))
theorem results_cell1 {P : Program} {fn : Func} {p : Tmp} {ty : TypeId} (h : fn.results = #[.cell p ty]) (tmps : Array Value) (w : World) (q : Addr) (v : Value)
 (hp : tmps.getD p undef = .pointer (some q)) (hl : (loadVar ty q).run P w = .ok v w) : (results fn tmps).run P w = .ok v w := by
 have hp' : tmps[p]?.getD undef = .pointer (some q) := by simpa using hp
 simp [results, h, hp', asAddr, hl]
theorem wsync_st {w0 w : World} {l : List Thing} (lb : Nat) (x : WlP) (hx : x.n = 64) (hm : x.m ≤ 900000) (hc : x.ct ≤ 1000000) (hr : x.nr ≤ 1000000 ∧ x.nb ≤ 1000000) (hns : x.ns ≠ x.nr) (h : St w0 w (wlg lb x :: l)) :
 Calls Tryz.prog 50 #[.pointer (some ⟨lb, 0, none⟩)] w (StPost (.int .i64 0) w0 (wlg lb { x with m := x.m + 1, ns := x.nr, ct := x.ct + 1 } :: l)) := by
 obtain ⟨n, m, nr, nb, ns, ct⟩ := x
 simp only at hx hm hc hr hns ⊢
 subst hx
 obtain ⟨d, hS⟩ := h.openL
 have hS1 := hS.box1 #[.int .i64 0] 27
 have HS := Lib.hid hS1
 have l8 := blk_cell (hS.box 0 rfl) 8 (.bool false) rfl
 have l2 := blk_cell (hS.box 0 rfl) 2 (.int .i64 ns) rfl
 have l1 := blk_cell (hS.box 0 rfl) 1 (.slice d.ra nr d.rc) rfl
 have l5 := blk_cell (hS.box 0 rfl) 5 (.int .i64 ct) rfl
 have zl := heap_lt (hS.box 0 rfl)
 have hne : ((ns : Int) == (nr : Int)) = false := by simp; omega
 have hct : ((ct : Int) == 4294967295) = false := by simp; omega
 have HM := Lib.hid (And.intro hm (And.intro hc hr))
 clear h hS hS1 hm hc hr hns
 go_enter_defers Tryz.func50, Tryz.ntmps50
 go_upto_region 4 with (fail)
 go_quiet (fail)
 go_upto_region 8 with (fail)
 have HA := Lib.hid (HS.out.drewN nq).drew
 clear HS l8 l2 l1 l5 zl hne hct
 generalize w.heap.size = eb at HA ⊢
 have zl := heap_lt (HA.out.box 1 rfl)
 have ze := heap_lt (HA.out.box 0 rfl)
 refine wp_region_last2 (n := 13) (S := fun w' => w'.cell? ⟨lb, 4, none⟩ = some (.int .i64 0) ∧ w'.cell? ⟨lb, 1, none⟩ = some (.slice d.ra nr d.rc) ∧ w'.cell? ⟨lb, 3, none⟩ = some (.slice d.ba nb d.bcap)) (by kernel_rfl) rfl (by simp only [List.pop_toArray, List.dropLast_cons_cons, List.dropLast_singleton]; rfl) (by simp only [List.pop_toArray, List.dropLast_cons_cons, List.dropLast_singleton]; rfl) (by kernel_rfl) (by kernel_rfl) (by kernel_rfl) (by kernel_rfl) ⟨blk_cell (HA.out.box 1 rfl) 4 _ rfl, blk_cell (HA.out.box 1 rfl) 1 _ rfl, blk_cell (HA.out.box 1 rfl) 3 _ rfl⟩ (fun hHeld => ?_)
 generalize World.drew _ = V at HA hHeld ⊢
 refine tk 0 (some 26) ?_ rfl rfl hHeld ?_ ?_
 rotate_left
 ·intro wq hSw; (try dsimp only at hSw); go_simp; try with_reducible rfl
 refine tk 1 (some 27) ?_ rfl rfl hHeld ?_ ?_
 rotate_left
 ·intro wq hSw; (try dsimp only at hSw); go_simp; try with_reducible rfl
 refine tk 2 (some 28) ?_ rfl rfl hHeld ?_ ?_
 rotate_left
 ·intro wq hSw; (try dsimp only at hSw); go_simp; try with_reducible rfl
 refine tk 3 (some 29) ?_ rfl rfl hHeld ?_ ?_
 rotate_left
 ·intro wq hSw; (try dsimp only at hSw); go_simp; try with_reducible rfl
 refine tk 4 (some 30) ?_ rfl rfl hHeld ?_ ?_
 rotate_left
 ·intro wq hSw; (try dsimp only at hSw); go_simp; try with_reducible rfl
 refine tk 5 (some 31) ?_ rfl rfl hHeld ?_ ?_
 rotate_left
 ·intro wq hSw; (try dsimp only at hSw); go_simp; try with_reducible rfl
 refine tk 6 (some 32) ?_ rfl rfl hHeld ?_ ?_
 rotate_left
 ·intro wq hSw; (try dsimp only at hSw); go_simp; try with_reducible rfl
 refine tk 7 (some 33) ?_ rfl rfl hHeld ?_ ?_
 rotate_left
 ·intro wq hSw; (try dsimp only at hSw); go_simp; try with_reducible rfl
 refine tk 8 (some 34) ?_ rfl rfl hHeld ?_ ?_
 rotate_left
 ·intro wq hSw; (try dsimp only at hSw); go_simp; try with_reducible rfl
 refine tk 9 (some 35) ?_ rfl rfl hHeld ?_ ?_
 rotate_left
 ·intro wq hSw; (try dsimp only at hSw); go_simp; try with_reducible rfl
 refine tk 10 (some 36) ?_ rfl rfl hHeld ?_ ?_
 rotate_left
 ·intro wq hSw; (try dsimp only at hSw); go_simp; try with_reducible rfl
 refine tk 11 (some 37) ?_ rfl rfl hHeld ?_ ?_
 rotate_left
 ·intro wq hSw; (try dsimp only at hSw); go_simp; try with_reducible rfl
 refine tk 12 (some 38) ?_ rfl rfl hHeld ?_ ?_
 rotate_left
 ·intro wq hSw; (try dsimp only at hSw); go_simp; try with_reducible rfl
 try simp only [Act.put, Nat.zero_add, zA, zB, zC]
 refine wpAnyH_done (by kernel_rfl) ?_ _
 refine LastQ.listP rfl ?_
 clear hHeld
 go_wp2_with (go_at_call 102; refine (seal_st lb ⟨64, m, nr, nb, ns, ct⟩ rfl HM.out.1 HM.out.2.1 HM.out.2.2 d (HA.out.perm (List.perm_append_comm_assoc [_] (d.things lb ⟨64, m, nr, nb, ns, ct⟩) _))).mono ?_; rintro e w5 ⟨rfl, hS5⟩; have e5 := blk_cell (hS5.box 1 rfl) 0 (.int .i64 0) rfl; have z5 := heap_lt (hS5.box 1 rfl); have f5 := blk_free (hS5.box 1 rfl) 0; have H5 := Lib.hid hS5; clear hS5)
 refine LastQ.listP rfl ?_
 go_wp2
 refine NoP.n ?_
 go_wp2
 have H6 := Lib.hid (H5.out.set 1 rfl 0 (.int .i64 0))
 have c6 := blk_cell (H6.out.box 1 rfl) 0 (.int .i64 0) rfl
 refine leaves_cons (f := 93) (args := #[.pointer (some ⟨lb, 0, none⟩), .pointer (some ⟨eb, 0, none⟩)]) (by simp) (by simp [go_sem]) ?_
 refine (doubts_any lb eb 0 (by decide) _ _ c6).mono ?_
 rintro e u' w'' ⟨rfl, rfl, rfl⟩
 refine ⟨.int .i64 0, results_cell1 rfl _ _ ⟨eb, 0, none⟩ _ rfl ?_, rfl, H6.out.sub ((List.sublist_cons_self _ _).cons_cons _)⟩
 go_simp
theorem wappend_st {w0 w : World} {l : List Thing} (lb : Nat) (x : WlP) (s : ByteArray) (hs : s.size ≤ 4000) (hx : x.n = 64) (hm : x.m ≤ 900000) (hc : x.ct ≤ 1000000) (hr : x.nr ≤ 1000000) (hb : x.nb + s.size + 6 ≤ 1978) (h : St w0 w (wlg lb x :: l)) :
 Calls Tryz.prog 48 #[.pointer (some ⟨lb, 0, none⟩), .string s] w (StPost (.int .i64 0) w0 (wlg lb { x with m := x.m + 32, nr := x.nr + 1, nb := x.nb + s.size + 6 } :: l)) := by
 obtain ⟨n, m, nr, nb, ns, ct⟩ := x
 simp only at hx hm hc hr hb ⊢
 subst hx
 obtain ⟨d, hS⟩ := h.openL
 have hS1 := hS.box1 #[.int .i64 0] 27
 have HS := Lib.hid hS1
 have l8 := blk_cell (hS.box 0 rfl) 8 (.bool false) rfl
 have l3 := blk_cell (hS.box 0 rfl) 3 (.slice d.ba nb d.bcap) rfl
 have zl := heap_lt (hS.box 0 rfl)
 have HM := Lib.hid (And.intro hm (And.intro hc (And.intro hr hb)))
 clear h hS hS1 hm hc hr
 obtain ⟨ip, iz, hi1, hi2, hi3, hi4, hi5⟩ := info_rowT infoU8R
 have HI := Lib.hid (And.intro hi1 (And.intro hi2 (And.intro hi3 (And.intro hi4 hi5))))
 clear hi1 hi2 hi3 hi4 hi5
 obtain ⟨jp, jz, hj1, hj2, hj3, hj4, hj5⟩ := info_rowT infoStrR
 have HJ := Lib.hid (And.intro hj1 (And.intro hj2 (And.intro hj3 (And.intro hj4 hj5))))
 clear hj1 hj2 hj3 hj4 hj5
 go_enter_defers Tryz.func48, Tryz.ntmps48
 have eN : Hid (((nb : Int) + (s.size : Int) + 6) = ((nb + s.size + 6 : Nat) : Int)) := Lib.hid (by push_cast; rfl)
 go_wp2_with (first
  | (go_at_call 94; rw [eN.out]; refine (fits_any lb ⟨64, m, nr, nb, ns, ct⟩ rfl (St.shutL d HS.out.tail) (nb + s.size + 6) (by omega)).mono ?_; rintro e _ ⟨rfl, rfl⟩)
  | (go_at_call 95; refine (cloneU8_any d.ba nb d.bcap (bc d.bs) _ (HS.out.slice 4 rfl).rd (bc_one _) (by omega)).mono ?_; rintro e w3 ⟨a1, k1, rfl, hs1, hf1, hM1⟩; have H3 := Lib.hid (HS.out.newSlice hM1 hs1 hf1); clear hs1 hf1 hM1)
  | (go_at_call 96; refine (record_st s hs H3.out).mono ?_; rintro e w4 ⟨a2, k2, bs2, hbl2, rfl, hS4⟩; have H4 := Lib.hid hS4; clear hS4)
  | (at_builtin; refine wpList_append 5 ip iz 1 1 (by kernel_rfl) HI.out.1 HI.out.2.1 HI.out.2.2.1 HI.out.2.2.2.1 HI.out.2.2.2.2 a1 nb k1 (bc d.bs) rfl (H4.out.slice 1 rfl) a2 (s.size + 6) k2 (bc bs2) rfl (H4.out.slice 0 rfl).rd (bc_one _) (by unfold maxLen; omega) (by omega) ?_; intro a9 cap9 w9 hS9 hM9 hF9 hN9 hR9; have H5 := Lib.hid (H4.out.regrow 1 rfl hS9 hM9 hF9); clear hS9 hM9 hF9 hN9 hR9))
 have HA := Lib.hid H5.out.drew
 clear HS H3 H4 H5 l8 l3 zl
 generalize w.heap.size = eb at HA ⊢
 have zl := heap_lt (HA.out.box 3 rfl)
 refine wp_region_last2 (n := 11) (S := fun w' => w'.cell? ⟨lb, 4, none⟩ = some (.int .i64 0) ∧ w'.cell? ⟨lb, 3, none⟩ = some (.slice d.ba nb d.bcap)) (by kernel_rfl) rfl (by simp only [List.pop_toArray, List.dropLast_cons_cons, List.dropLast_singleton]; rfl) (by simp only [List.pop_toArray, List.dropLast_cons_cons, List.dropLast_singleton]; rfl) (by kernel_rfl) (by kernel_rfl) (by kernel_rfl) (by kernel_rfl) ⟨blk_cell (HA.out.box 3 rfl) 4 _ rfl, blk_cell (HA.out.box 3 rfl) 3 _ rfl⟩ (fun hHeld => ?_)
 generalize World.drew _ = V at HA hHeld ⊢
 refine tk 0 (some 38) ?_ rfl rfl hHeld ?_ ?_
 rotate_left
 ·intro wq hSw; (try dsimp only at hSw); go_simp; try with_reducible rfl
 refine tk 1 (some 39) ?_ rfl rfl hHeld ?_ ?_
 rotate_left
 ·intro wq hSw; (try dsimp only at hSw); go_simp; try with_reducible rfl
 refine tk 2 (some 40) ?_ rfl rfl hHeld ?_ ?_
 rotate_left
 ·intro wq hSw; (try dsimp only at hSw); go_simp; try with_reducible rfl
 refine tk 3 (some 41) ?_ rfl rfl hHeld ?_ ?_
 rotate_left
 ·intro wq hSw; (try dsimp only at hSw); go_simp; try with_reducible rfl
 refine tk 4 (some 42) ?_ rfl rfl hHeld ?_ ?_
 rotate_left
 ·intro wq hSw; (try dsimp only at hSw); go_simp; try with_reducible rfl
 refine tk 5 (some 43) ?_ rfl rfl hHeld ?_ ?_
 rotate_left
 ·intro wq hSw; (try dsimp only at hSw); go_simp; try with_reducible rfl
 refine tk 6 (some 44) ?_ rfl rfl hHeld ?_ ?_
 rotate_left
 ·intro wq hSw; (try dsimp only at hSw); go_simp; try with_reducible rfl
 refine tk 7 (some 45) ?_ rfl rfl hHeld ?_ ?_
 rotate_left
 ·intro wq hSw; (try dsimp only at hSw); go_simp; try with_reducible rfl
 refine tk 8 (some 46) ?_ rfl rfl hHeld ?_ ?_
 rotate_left
 ·intro wq hSw; (try dsimp only at hSw); go_simp; try with_reducible rfl
 refine tk 9 (some 47) ?_ rfl rfl hHeld ?_ ?_
 rotate_left
 ·intro wq hSw; (try dsimp only at hSw); go_simp; try with_reducible rfl
 refine tk 10 (some 48) ?_ rfl rfl hHeld ?_ ?_
 rotate_left
 ·intro wq hSw; (try dsimp only at hSw); go_simp; try with_reducible rfl
 try simp only [Act.put, Nat.zero_add, zA, zB, zC]
 refine wpAnyH_done (by kernel_rfl) ?_ _
 refine LastQ.listP rfl ?_
 clear hHeld
 have H6 := Lib.hid (St.shutL (lb := lb) (x := ⟨64, m, nr, nb, ns, ct⟩) d (HA.out.perm (List.perm_append_comm_assoc [_, _, _] (d.things lb ⟨64, m, nr, nb, ns, ct⟩) _)))
 have eB : bc d.bs ++ bc bs2 = bc (d.bs ++ bs2) := (List.map_append).symm
 have H7 := Lib.hid ((eB ▸ H6.out.sub ((List.sublist_cons_self _ _).cons_cons _) : St w0 V (wlg lb ⟨64, m, nr, nb, ns, ct⟩ :: sl 5 1 a9 (nb + (s.size + 6)) cap9 (bc (d.bs ++ bs2)) :: bx eb #[.int .i64 0] 27 :: l)))
 clear H6
 go_wp2_with (go_at_call 97; refine (lay_st lb ⟨64, m, nr, nb, ns, ct⟩ rfl HM.out.1 a9 (nb + (s.size + 6)) cap9 (d.bs ++ bs2) (by omega) nb (by omega) H7.out).mono ?_; rintro e wL ⟨rfl, hSL⟩; have H8 := Lib.hid hSL; clear hSL)
 refine LastQ.listP rfl ?_
 go_wp2
 refine NoP.n ?_
 clear HA H7 zl
 obtain ⟨d2, hS9⟩ := H8.out.openL
 have H9 := Lib.hid (hS9.perm ((List.perm_append_comm_assoc (d2.things lb _) [_, _] l)))
 clear H8 hS9
 have c1 := blk_cell (H9.out.box 2 rfl) 1 (.slice d2.ra nr d2.rc) rfl
 have zl := heap_lt (H9.out.box 2 rfl)
 have HNS := Lib.hid (H9.out.slice1' #[.string s] 9 1 1 rfl (by unfold maxLen; omega))
 go_wp2_with (at_builtin; refine wpList_append 9 jp jz 1 16 (by kernel_rfl) HJ.out.1 HJ.out.2.1 HJ.out.2.2.1 HJ.out.2.2.2.1 HJ.out.2.2.2.2 d2.ra nr d2.rc (d2.rs.map Value.string) rfl (HNS.out.slice 5 rfl) (some ⟨wL.heap.size, 0, none⟩) 1 1 [.string s] rfl (HNS.out.slice 0 rfl).rd (fun u hu => by rw [List.mem_singleton.1 hu]; rfl) (by have := HM.out.2.2.1; unfold maxLen; omega) (by have := HM.out.2.2.1; omega) ?_; intro a8 cap8 w8 hS8 hM8 hF8 hN8 hR8; have H10 := Lib.hid (HNS.out.regrow 5 rfl hS8 hM8 hF8); have l1 := blk_cell (H10.out.box 3 rfl) 1 (.slice d2.ra nr d2.rc) rfl; have l3 := blk_cell (H10.out.box 3 rfl) 3 (.slice d2.ba nb d2.bcap) rfl; have f1 := blk_free (H10.out.box 3 rfl) 1; have f3 := blk_free (H10.out.box 3 rfl) 3; have zl8 := heap_lt (H10.out.box 3 rfl); have e8 := blk_cell (H10.out.box 2 rfl) 0 (.int .i64 0) rfl; have z8 := heap_lt (H10.out.box 2 rfl); have g8 := blk_free (H10.out.box 2 rfl) 0; clear hS8 hM8 hF8 hN8 hR8)
 have H11 := Lib.hid (((H10.out.set 3 rfl 1 (.slice a8 (nr + 1) cap8)).set 3 rfl 3 (.slice a9 (nb + (s.size + 6)) cap9)).set 2 rfl 0 (.int .i64 0))
 have c6 := blk_cell (H11.out.box 2 rfl) 0 (.int .i64 0) rfl
 clear l1 l3 f1 f3 zl8 e8 z8 g8 H10
 refine leaves_cons (f := 93) (args := #[.pointer (some ⟨lb, 0, none⟩), .pointer (some ⟨eb, 0, none⟩)]) (by simp) (by simp [go_sem]) ?_
 refine (doubts_any lb eb 0 (by decide) _ _ c6).mono ?_
 rintro e u' w'' ⟨rfl, rfl, rfl⟩
 refine ⟨.int .i64 0, results_cell1 rfl _ _ ⟨eb, 0, none⟩ _ rfl ?_, rfl, ?_⟩
 ·go_simp
 ·have h9 := H11.out
  simp only [WlD.things, List.cons_append, List.nil_append, zB, zC, zA] at h9
  have h10 := h9.tail.perm (List.perm_append_comm_assoc [_, _] [_, _, _] _)
  have h11 := h10.sub ((((((List.Sublist.refl _).cons _).cons _).cons_cons _).cons_cons _ |>.cons_cons _).cons_cons _)
  have h12 := St.shutL (lb := lb) (x := ⟨64, m + 32, nr + 1, nb + (s.size + 6), ns, ct⟩) ⟨d2.db, a8, cap8, d2.rs ++ [s], a9, cap9, d.bs ++ bs2⟩ (l := l) (by
   unfold WlD.things
   simp only [List.map_append, List.map_cons, List.map_nil, List.cons_append, List.nil_append]
   exact h11)
  rw [← Nat.add_assoc] at h12
  exact h12
theorem lformat_st {w0 w : World} {l : List Thing} (db m : Nat) (hm : m ≤ 800000) (h : St w0 w (dsk db 64 m :: l)) :
 Calls Tryz.prog 25 #[.pointer (some ⟨db, 0, none⟩)] w (fun e w' => ∃ gb lb, e = .returned (.tuple #[.pointer (some ⟨gb, 0, none⟩), .int .i64 0]) ∧
  St w0 w' (bx gb #[.int .i64 0, .int .i64 0, .pointer (some ⟨lb, 0, none⟩), .int .i64 0, .string ⟨#[]⟩, .slice none 0 0, .slice none 0 0, .bool false] 129 :: wlg lb ⟨64, m + 36, 1, 8, 1, 2⟩ :: l)) := by
 have HS := Lib.hid h
 have hh := headB_size
 have HH := Lib.hid hh
 have HM := Lib.hid hm
 clear h hh hm
 go_enter Tryz.func25, Tryz.ntmps25
 go_wp2_with (first
  | (go_at_call 47; refine (wformat_st db 64 m (by omega) (Nat.le_trans HM.out (by omega)) HS.out).mono ?_; rintro e w1 ⟨lb, rfl, hS1⟩; have H1 := Lib.hid hS1; clear hS1 HS)
  | (go_at_call 49; refine (ahead_any H1.out).mono ?_; rintro e w2 ⟨b, rfl, hS2⟩; have H2 := Lib.hid hS2; have cb := blk_cell (hS2.box 0 rfl) 0 (.string headB) rfl; clear hS2 H1)
  | (go_at_call 48; refine (wappend_st lb ⟨64, m + 3, 0, 0, 0, 1⟩ headB (by rw [HH.out]; omega) rfl (by have := HM.out; show m + 3 ≤ 900000; omega) (by show (1 : Nat) ≤ 1000000; omega) (by show (0 : Nat) ≤ 1000000; omega) (by rw [HH.out]; show (0 + 2 + 6 : Nat) ≤ 1978; omega) (H2.out.perm (List.Perm.swap _ _ _))).mono ?_; rintro e w3 ⟨rfl, hS3⟩; have H3 : Hid (St w0 w3 (wlg lb ⟨64, m + 35, 1, 8, 0, 1⟩ :: bx b #[.string headB] 9 :: l)) := Lib.hid (by rw [HH.out] at hS3; exact hS3); clear hS3 H2 cb)
  | (go_at_call 50; refine (wsync_st lb ⟨64, m + 35, 1, 8, 0, 1⟩ rfl (by have := HM.out; show m + 35 ≤ 900000; omega) (by show (1 : Nat) ≤ 1000000; omega) (by show (1 : Nat) ≤ 1000000 ∧ (8 : Nat) ≤ 1000000; omega) (by show (0 : Nat) ≠ 1; omega) H3.out).mono ?_; rintro e w4 ⟨rfl, hS4⟩; have H4 : Hid (St w0 w4 (wlg lb ⟨64, m + 36, 1, 8, 1, 2⟩ :: bx b #[.string headB] 9 :: l)) := Lib.hid hS4; clear hS4 H3))
 refine bodyPost_ret (results_tmp2 rfl _ _ _) rfl ?_
 exact ⟨_, _, rfl, (H4.out.box1 _ _).sub (((List.sublist_cons_self _ _).cons_cons _).cons_cons _)⟩
theorem met0_any (gb : Nat) (w : World) : Calls Tryz.prog 54 #[.pointer (some ⟨gb, 0, none⟩), .int .i64 0] w (fun e w' => e = .returned (.int .i64 0) ∧ w' = w) := by
 go_enter Tryz.func54, Tryz.ntmps54
 go_wp2
 go_ret
 exact ⟨rfl, rfl⟩
theorem last0_any {w0 w : World} {l : List Thing} (gb : Nat) (v2 v4 v5 v7 : Value) (h : St w0 w (bx gb #[.int .i64 0, .int .i64 0, v2, .int .i64 0, v4, v5, .slice none 0 0, v7] 129 :: l)) :
 Calls Tryz.prog 28 #[.pointer (some ⟨gb, 0, none⟩)] w (fun e w' => e = .returned (.int .i64 0) ∧ w' = w) := by
 have c6 := blk_cell (h.box 0 rfl) 6 (.slice none 0 0) rfl
 have c3 := blk_cell (h.box 0 rfl) 3 (.int .i64 0) rfl
 have zb := heap_lt (h.box 0 rfl)
 clear h
 go_enter Tryz.func28, Tryz.ntmps28
 go_wp2
 go_ret
 exact ⟨rfl, rfl⟩
theorem last5_any {w0 w : World} {l : List Thing} (i gb : Nat) (v0 v1 v2 v3 v4 v5 v7 : Value) (a : Option Addr) (k : Nat) (h : St w0 w l) (hi : l[i]? = some (bx gb #[v0, v1, v2, v3, v4, v5, .slice a 1 k, v7] 129)) (j : Nat) (hj : l[j]? = some (sl 3 1 a 1 k [.int .i64 5])) :
 Calls Tryz.prog 28 #[.pointer (some ⟨gb, 0, none⟩)] w (fun e w' => e = .returned (.int .i64 5) ∧ Mod (fun _ => False) w w') := by
 obtain ⟨b, o, rfl, hbl, hc⟩ := (h.slice j hj).rd.elem (k := 1) (l := [(5 : Int)]) (fun z : Int => [Value.int .i64 z]) (fun _ => rfl) (by omega) (i := 0) (x := 5) rfl
 have c6 := blk_cell (h.box i hi) 6 (.slice (some ⟨b, o, none⟩) 1 k) rfl
 have zb := heap_lt (h.box i hi)
 have h0 : w.cell? ⟨b, o, none⟩ = some (.int .i64 5) := by
  have := hc 0 _ rfl
  simpa using this
 clear h hc
 go_enter Tryz.func28, Tryz.ntmps28
 go_upto_region 3 with (fail)
 go_quiet (fail)
 go_wp2
 go_ret
 exact ⟨rfl, (Mod.refl _ _).drewN _⟩
theorem keep_st {w0 w : World} {l : List Thing} (gb lb : Nat) (s : ByteArray) (h : St w0 w (bx gb #[.int .i64 0, .int .i64 0, .pointer (some ⟨lb, 0, none⟩), .int .i64 0, .string ⟨#[]⟩, .slice none 0 0, .slice none 0 0, .bool false] 129 :: l)) :
 Calls Tryz.prog 55 #[.pointer (some ⟨gb, 0, none⟩), .string s, .int .i64 5] w (fun e w' => ∃ a1 k1 a2 k2, e = .returned (.tuple #[]) ∧
  St w0 w' (bx gb #[.int .i64 0, .int .i64 0, .pointer (some ⟨lb, 0, none⟩), .int .i64 0, .string ⟨#[]⟩, .slice a1 1 k1, .slice a2 1 k2, .bool false] 129 :: sl 3 1 a2 1 k2 [.int .i64 5] :: l)) := by
 obtain ⟨ip, iz, hi1, hi2, hi3, hi4, hi5⟩ := info_rowT infoIntR
 have HI := Lib.hid (And.intro hi1 (And.intro hi2 (And.intro hi3 (And.intro hi4 hi5))))
 obtain ⟨jp, jz, hj1, hj2, hj3, hj4, hj5⟩ := info_rowT infoStrR
 have HJ := Lib.hid (And.intro hj1 (And.intro hj2 (And.intro hj3 (And.intro hj4 hj5))))
 have HS := Lib.hid (((h.nilSlice 3 1).nilSlice 9 1).slice1' #[.string s] 9 1 1 rfl (by unfold maxLen; omega))
 have c5 := blk_cell (h.box 0 rfl) 5 (.slice none 0 0) rfl
 have zb := heap_lt (h.box 0 rfl)
 clear h hi1 hi2 hi3 hi4 hi5 hj1 hj2 hj3 hj4 hj5
 go_enter Tryz.func55, Tryz.ntmps55
 go_upto_region 1 with (at_builtin; refine wpList_append 9 jp jz 1 16 (by kernel_rfl) HJ.out.1 HJ.out.2.1 HJ.out.2.2.1 HJ.out.2.2.2.1 HJ.out.2.2.2.2 none 0 0 [] rfl (HS.out.slice 1 rfl) (some ⟨w.heap.size, 0, none⟩) 1 1 [.string s] rfl (HS.out.slice 0 rfl).rd (fun u hu => by rw [List.mem_singleton.1 hu]; rfl) (by unfold maxLen; omega) (by omega) ?_; intro a8 cap8 w8 hS8 hM8 hF8 hN8 hR8; have H8 := Lib.hid (HS.out.regrow 1 rfl hS8 hM8 hF8); have l5 := blk_cell (H8.out.box 3 rfl) 5 (.slice none 0 0) rfl; have f5 := blk_free (H8.out.box 3 rfl) 5; have z8 := heap_lt (H8.out.box 3 rfl); clear hS8 hM8 hF8 hN8 hR8)
 have H9 := Lib.hid (H8.out.set 3 rfl 5 (.slice a8 1 cap8))
 clear l5 f5 z8 H8 HS c5 zb
 generalize World.setCell w8 _ _ = W9 at H9 ⊢
 have c6 := blk_cell (H9.out.box 3 rfl) 6 (.slice none 0 0) rfl
 have zb := heap_lt (H9.out.box 3 rfl)
 have HT := Lib.hid (H9.out.slice1' #[.int .i64 5] 3 1 1 rfl (by unfold maxLen; omega))
 go_wp2_with (at_builtin; refine wpList_append 3 ip iz 1 8 (by kernel_rfl) HI.out.1 HI.out.2.1 HI.out.2.2.1 HI.out.2.2.2.1 HI.out.2.2.2.2 none 0 0 [] rfl (HT.out.slice 3 rfl) (some ⟨W9.heap.size, 0, none⟩) 1 1 [.int .i64 5] rfl (HT.out.slice 0 rfl).rd (fun u hu => by rw [List.mem_singleton.1 hu]; rfl) (by unfold maxLen; omega) (by omega) ?_; intro a7 cap7 w7 hS7 hM7 hF7 hN7 hR7; have H7 := Lib.hid (HT.out.regrow 3 rfl hS7 hM7 hF7); have l6 := blk_cell (H7.out.box 4 rfl) 6 (.slice none 0 0) rfl; have f6 := blk_free (H7.out.box 4 rfl) 6; have z7 := heap_lt (H7.out.box 4 rfl); clear hS7 hM7 hF7 hN7 hR7)
 have HX := (H7.out.set 4 rfl 6 (.slice a7 1 cap7))
 simp only [zB, zC, zA, Nat.zero_add, List.nil_append] at HX
 have HY := Lib.hid HX
 clear HX H7 l6 f6 z7
 go_end0
 have h5 := (HY.out.tail.tail.tail).perm (List.Perm.swap _ _ _)
 exact ⟨rfl, a8, cap8, a7, cap7, h5⟩
theorem lappend_st {w0 w : World} {l : List Thing} (gb lb m : Nat) (hm : m ≤ 800000) (h : St w0 w (bx gb #[.int .i64 0, .int .i64 0, .pointer (some ⟨lb, 0, none⟩), .int .i64 0, .string ⟨#[]⟩, .slice none 0 0, .slice none 0 0, .bool false] 129 :: wlg lb ⟨64, m, 1, 8, 1, 2⟩ :: l)) :
 Calls Tryz.prog 27 #[.pointer (some ⟨gb, 0, none⟩), .agg #[.int .i64 5, .int .i64 0, .int .i64 0, .int .i64 0, .string ⟨#[]⟩, .string ⟨#[]⟩, .slice none 0 0, .int .i64 0, .int .i64 0, .int .i64 0, .slice none 0 0]] w (fun e w' => ∃ a1 k1 a2 k2, e = .returned (.int .i64 0) ∧
  St w0 w' (bx gb #[.int .i64 0, .int .i64 0, .pointer (some ⟨lb, 0, none⟩), .int .i64 0, .string ⟨#[]⟩, .slice a1 1 k1, .slice a2 1 k2, .bool false] 129 :: sl 3 1 a2 1 k2 [.int .i64 5] :: l)) := by
 have HS := Lib.hid (h.box1 #[.int .i64 5, .int .i64 0, .int .i64 0, .int .i64 0, .string ⟨#[]⟩, .string ⟨#[]⟩, .slice none 0 0, .int .i64 0, .int .i64 0, .int .i64 0, .slice none 0 0] 63)
 have HM := Lib.hid hm
 have c7 := blk_cell (HS.out.box 1 rfl) 7 (.bool false) rfl
 have zg := heap_lt (HS.out.box 1 rfl)
 have zx := heap_lt (HS.out.box 0 rfl)
 have HC : Hid (∀ j u, ([.int .i64 5, .int .i64 0, .int .i64 0, .int .i64 0, .string ⟨#[]⟩, .string ⟨#[]⟩, .slice none 0 0, .int .i64 0, .int .i64 0, .int .i64 0, .slice none 0 0] : List Value)[j]? = some u → (w.alloc (.cells #[.int .i64 5, .int .i64 0, .int .i64 0, .int .i64 0, .string ⟨#[]⟩, .string ⟨#[]⟩, .slice none 0 0, .int .i64 0, .int .i64 0, .int .i64 0, .slice none 0 0] 63)).cell? ((⟨w.heap.size, 0, none⟩ : Addr).add j) = some u) := Lib.hid (fun j u hj => by rw [add_none, Nat.zero_add]; exact blk_cell (HS.out.box 0 rfl) j u (by rw [← hj]; exact List.getElem?_toArray))
 have hes := e5_size
 have HES := Lib.hid hes
 clear h hm hes
 go_enter Tryz.func27, Tryz.ntmps27
 go_upto_region 6 with (first
  | ((with_reducible refine at_list ?_); refine wpList_load_chunk 11 _ Tryz.underlying63 rfl W.sizeEnt ⟨w.heap.size, 0, none⟩ rfl ([.int .i64 5, .int .i64 0, .int .i64 0, .int .i64 0, .string ⟨#[]⟩, .string ⟨#[]⟩, .slice none 0 0, .int .i64 0, .int .i64 0, .int .i64 0, .slice none 0 0] : List Value) rfl HC.out ?_)
  | (go_at_call 52; refine (laid5_st HS.out).mono ?_; rintro e w1 ⟨rfl, hS1⟩; have H1 := Lib.hid hS1; clear hS1))
 clear c7 zg zx HC HS
 generalize w.heap.size = xb at H1 ⊢
 have HA := Lib.hid H1.out.drew
 have c0 := blk_cell (HA.out.box 0 rfl) 0 (.int .i64 5) rfl
 have zg := heap_lt (HA.out.box 1 rfl)
 have zx := heap_lt (HA.out.box 0 rfl)
 have CL := Lib.hid (last0_any gb _ _ _ _ (HA.out.pick 1 rfl))
 clear H1
 go_region_held3 (fun w' => w' = w1.drew) (rfl) ((go_at_call 28; refine CL.out.mono ?_; rintro e _ ⟨rfl, rfl⟩))
 clear CL
 generalize w1.drew = W1 at HA c0 zg zx ⊢
 have c4 := blk_cell (HA.out.box 1 rfl) 5 (.slice none 0 0) rfl
 have c1 := blk_cell (HA.out.box 1 rfl) 2 (.pointer (some ⟨lb, 0, none⟩)) rfl
 have hes := HES.out
 have hr1 : ((1978 : Int) - ((8 : Nat) : Int)) = 1970 := by omega
 have CR := room_any lb ⟨64, m, 1, 8, 1, 2⟩ rfl (HA.out.pick 2 rfl) (by show (8 : Nat) ≤ 1978; omega)
 simp only [hr1] at CR
 have HCR := Lib.hid CR
 clear CR hr1
 have HB := Lib.hid (HA.out.drew.pick 2 rfl)
 have d0 : W1.drew.cell? ⟨xb, 0, none⟩ = some (.int .i64 5) := c0
 have d1 : W1.drew.cell? ⟨gb, 2, none⟩ = some (.pointer (some ⟨lb, 0, none⟩)) := c1
 have CM := Lib.hid (fun w' => met0_any gb w')
 simp only [List.eraseIdx_cons_zero, List.eraseIdx_cons_succ] at HB
 go_wp2_with (first
  | (go_at_call 53; refine HCR.out.mono ?_; rintro e _ ⟨rfl, rfl⟩)
  | (go_at_call 48; refine (wappend_st lb ⟨64, m, 1, 8, 1, 2⟩ e5S (Nat.le_trans HES.out (by omega)) rfl (Nat.le_trans HM.out (by omega)) (by show (2 : Nat) ≤ 1000000; omega) (by show (1 : Nat) ≤ 1000000; omega) (by have := HES.out; show 8 + e5S.size + 6 ≤ 1978; omega) HB.out).mono ?_; rintro e w3 ⟨rfl, hS3⟩; have H3 := Lib.hid hS3; have f0 := blk_cell (hS3.box 1 rfl) 0 (.int .i64 5) rfl; have fx := heap_lt (hS3.box 1 rfl); have fg := heap_lt (hS3.box 2 rfl); clear hS3)
  | (go_at_call 54; refine (CM.out _).mono ?_; rintro e _ ⟨rfl, rfl⟩)
  | (go_at_call 55; refine (keep_st gb lb e5S (H3.out.tail.tail)).mono ?_; rintro e w4 ⟨a1, k1, a2, k2, rfl, hS4⟩; have H4 := Lib.hid hS4; clear hS4))
 go_ret
 exact ⟨a1, k1, a2, k2, rfl, H4.out⟩
end Go.Proofs.YtonnbkebjeoflaaGreatDoor
