/-
  Events, hellos, notes of bytes: the document's GetEvent, GetHello, GetNote.
  Conditions: the text fits.
-/
import Derived.Test.YtmbkbkfcbloafaaWireH
import Derived.StillTailTactics
namespace Go.Proofs.Ytmbkbkfcbloafaa
open Go.RowKit
set_option linter.unusedSectionVars false
set_option linter.unusedSimpArgs false
set_option linter.unusedVariables false
set_option maxRecDepth 100000

theorem St.asDr {w0 w : World} {l : List Thing} (h : St w0 w l) (i : Nat) {pb : Nat} (B : ByteArray) (hf : bfits B.size) (hi : l[i]? = some (bx pb #[.string B, .int .i64 0, .int .i64 0] 110)) :
    St w0 w (l.set i (drt pb B ⟨0, 0⟩)) := by
  obtain ⟨F1, ⟨hh, hF⟩, hz, hk⟩ := h.at i hi
  exact hk w _ F1 (Mod.refl _ _) ⟨⟨hh, ⟨Nat.zero_le _, .inl rfl⟩, hf⟩, hF⟩ (fun x hx => .inl hx)

theorem Rd.cellAt {w : World} {b : Nat} {n cap : Nat} {ns : List Int} (h : Rd w 1 (some ⟨b, 0, none⟩) n cap (ic ns)) (k : Nat) {t : Int} (ht : ns[k]? = some t) : w.cell? ⟨b, k, none⟩ = some (.int .i64 t) := by
  obtain ⟨b', o', e, hb, hc⟩ := h.int ht
  simp only [Option.some.injEq, Addr.mk.injEq, and_true] at e
  obtain ⟨rfl, rfl⟩ := e
  rwa [Nat.zero_add] at hc

set_option maxHeartbeats 2000000 in
theorem rGetEvent_any (S : ByteArray) (hf : bfits S.size) (w : World) :
    Calls Try.prog 38 #[.string S] w (ValPost (.tuple #[.agg (gEv S).1.cells.toArray, .int .i64 (gEv S).2]) w) := by
  have hS := ((St.start w).box1 #[.int .i64 0, .string ⟨#[]⟩, .int .i64 0] 23).box1 #[.string S, .int .i64 0, .int .i64 0] 110
  rw [World.size_alloc] at hS
  have HF := Lib.hid hf
  clear hf
  by_cases hq : (rend S.data.toList (evR S.data.toList ⟨0, 0⟩).2).wr = 0
  · have hb : ((rend S.data.toList (evR S.data.toList ⟨0, 0⟩).2).wr == 0) = true := by simpa using hq
    have HE : Hid (gEv S = ((evR S.data.toList ⟨0, 0⟩).1, 0)) := by show got _ _ _ = _; rw [got, if_pos hq]
    clear hq
    go_enter Try.func38, Try.ntmps38
    go_wp2_with fail
    generalize (w.alloc (.cells #[.int .i64 0, .string ⟨#[]⟩, .int .i64 0] 23)).alloc (.cells #[.string S, .int .i64 0, .int .i64 0] 110) = W at *
    generalize w.heap.size = rb at *
    have hS := hS.asDr 0 S HF.out rfl
    simp only [List.set_cons_succ, List.set_cons_zero] at hS
    refine (dnum_st hS 0 rfl).mono ?_
    clear hS
    rintro e w1 ⟨rfl, hS⟩
    simp only [List.set_cons_succ, List.set_cons_zero] at hS
    go_wp2_with fail
    refine (dtext_st hS 0 rfl 4096 (by omega)).mono ?_
    clear hS
    rintro e w2 ⟨rfl, hS⟩
    simp only [List.set_cons_succ, List.set_cons_zero] at hS
    go_wp2_with fail
    refine (dnum_st hS 0 rfl).mono ?_
    clear hS
    rintro e w3 ⟨rfl, hS⟩
    simp only [List.set_cons_succ, List.set_cons_zero] at hS
    have hS : St w w3 (drt (rb + 1) S (evR S.data.toList ⟨0, 0⟩).2 :: bx rb #[.int .i64 0, .string ⟨#[]⟩, .int .i64 0] 23 :: []) := hS
    go_wp2_with fail
    refine (dend_st hS 0 rfl).mono ?_
    clear hS
    rintro e w4 ⟨rfl, hS⟩
    simp only [List.set_cons_succ, List.set_cons_zero] at hS
    go_wp2_with ((with_reducible refine at_list ?_); refine wpList_store_whole 3 sizeEv rb rfl _ _ (hS.box 1 rfl) rfl (evR S.data.toList ⟨0, 0⟩).1.cells rfl rfl (by kernel_rfl) ?_; intro w5 hg5 hM5 hz5)
    refine bodyPost_ret (results_cell_tmp rfl _ w5 rb _ _ _ _ rfl hg5 Try.underlying23 rfl sizeEv) rfl ?_
    have hS2 := hS.rebox 1 rfl hg5 hM5
    refine ⟨?_, hS2.1⟩
    rw [HE.out]; rfl
  · have hb : ((rend S.data.toList (evR S.data.toList ⟨0, 0⟩).2).wr == 0) = false := by simpa using hq
    have HE : Hid (gEv S = (Ev.zero, 120)) := by show got _ _ _ = _; rw [got, if_neg hq]
    clear hq
    go_enter Try.func38, Try.ntmps38
    go_wp2_with fail
    generalize (w.alloc (.cells #[.int .i64 0, .string ⟨#[]⟩, .int .i64 0] 23)).alloc (.cells #[.string S, .int .i64 0, .int .i64 0] 110) = W at *
    generalize w.heap.size = rb at *
    have hS := hS.asDr 0 S HF.out rfl
    simp only [List.set_cons_succ, List.set_cons_zero] at hS
    refine (dnum_st hS 0 rfl).mono ?_
    clear hS
    rintro e w1 ⟨rfl, hS⟩
    simp only [List.set_cons_succ, List.set_cons_zero] at hS
    go_wp2_with fail
    refine (dtext_st hS 0 rfl 4096 (by omega)).mono ?_
    clear hS
    rintro e w2 ⟨rfl, hS⟩
    simp only [List.set_cons_succ, List.set_cons_zero] at hS
    go_wp2_with fail
    refine (dnum_st hS 0 rfl).mono ?_
    clear hS
    rintro e w3 ⟨rfl, hS⟩
    simp only [List.set_cons_succ, List.set_cons_zero] at hS
    have hS : St w w3 (drt (rb + 1) S (evR S.data.toList ⟨0, 0⟩).2 :: bx rb #[.int .i64 0, .string ⟨#[]⟩, .int .i64 0] 23 :: []) := hS
    go_wp2_with fail
    refine (dend_st hS 0 rfl).mono ?_
    clear hS
    rintro e w4 ⟨rfl, hS⟩
    simp only [List.set_cons_succ, List.set_cons_zero] at hS
    go_wp2_with ((with_reducible refine at_list ?_); refine wpList_store_whole 3 sizeEv rb rfl _ _ (hS.box 1 rfl) rfl Ev.zero.cells rfl rfl (by kernel_rfl) ?_; intro w5 hg5 hM5 hz5)
    refine bodyPost_ret (results_cell_tmp rfl _ w5 rb _ _ _ _ rfl hg5 Try.underlying23 rfl sizeEv) rfl ?_
    have hS2 := hS.rebox 1 rfl hg5 hM5
    refine ⟨?_, hS2.1⟩
    rw [HE.out]; rfl

set_option maxHeartbeats 2000000 in
theorem rGetHello_any (S : ByteArray) (hf : bfits S.size) (w : World) :
    Calls Try.prog 39 #[.string S] w (ValPost (.tuple #[.agg (gHe S).1.cells.toArray, .int .i64 (gHe S).2]) w) := by
  have hS := ((St.start w).box1 #[.int .i64 0, .int .i64 0, .int .i64 0, .string ⟨#[]⟩] 25).box1 #[.string S, .int .i64 0, .int .i64 0] 110
  rw [World.size_alloc] at hS
  have HF := Lib.hid hf
  clear hf
  by_cases hq : (rend S.data.toList (heR S.data.toList ⟨0, 0⟩).2).wr = 0
  · have hb : ((rend S.data.toList (heR S.data.toList ⟨0, 0⟩).2).wr == 0) = true := by simpa using hq
    have HE : Hid (gHe S = ((heR S.data.toList ⟨0, 0⟩).1, 0)) := by show got _ _ _ = _; rw [got, if_pos hq]
    clear hq
    go_enter Try.func39, Try.ntmps39
    go_wp2_with fail
    generalize (w.alloc (.cells #[.int .i64 0, .int .i64 0, .int .i64 0, .string ⟨#[]⟩] 25)).alloc (.cells #[.string S, .int .i64 0, .int .i64 0] 110) = W at *
    generalize w.heap.size = rb at *
    have hS := hS.asDr 0 S HF.out rfl
    simp only [List.set_cons_succ, List.set_cons_zero] at hS
    refine (rtake_st hS 0 rfl 3 3 rfl (by omega)).mono ?_
    clear hS
    rintro e w1 ⟨sb, rfl, hS⟩
    simp only [List.set_cons_succ, List.set_cons_zero] at hS
    go_wp2_with fail
    refine (dtext_st hS 1 rfl 4096 (by omega)).mono ?_
    clear hS
    rintro e w2 ⟨rfl, hS⟩
    simp only [List.set_cons_succ, List.set_cons_zero] at hS
    go_wp2_with fail
    have hS : St w w2 (sl 3 1 (some ⟨sb, 0, none⟩) 3 3 (ic (numsR S.data.toList ⟨0, 0⟩ 3)) :: drt (rb + 1) S (heR S.data.toList ⟨0, 0⟩).2 :: bx rb #[.int .i64 0, .int .i64 0, .int .i64 0, .string ⟨#[]⟩] 25 :: []) := hS
    refine (dend_st hS 1 rfl).mono ?_
    clear hS
    rintro e w4 ⟨rfl, hS⟩
    simp only [List.set_cons_succ, List.set_cons_zero] at hS
    have c0 := (hS.slice 0 rfl).rd.cellAt 0 (t := rv S.data.toList ⟨0, 0⟩ 0) rfl
    have c1 := (hS.slice 0 rfl).rd.cellAt 1 (t := rv S.data.toList ⟨0, 0⟩ 1) rfl
    have c2 := (hS.slice 0 rfl).rd.cellAt 2 (t := rv S.data.toList ⟨0, 0⟩ 2) rfl
    go_wp2
    go_still_tail 11, (by kernel_rfl)
    change wpList _ _ _ _ _ w4.drew
    have hS := hS.drew
    refine wpList_store_whole 4 sizeHe rb rfl _ _ (hS.box 2 rfl) rfl (heR S.data.toList ⟨0, 0⟩).1.cells rfl rfl (by kernel_rfl) ?_
    intro w5 hg5 hM5 hz5
    go_wp2
    refine bodyPost_ret (results_cell_tmp rfl _ w5 rb _ _ _ _ rfl hg5 Try.underlying25 rfl sizeHe) rfl ?_
    have hS2 := hS.rebox 2 rfl hg5 hM5
    refine ⟨?_, hS2.1⟩
    rw [HE.out]; rfl
  · have hb : ((rend S.data.toList (heR S.data.toList ⟨0, 0⟩).2).wr == 0) = false := by simpa using hq
    have HE : Hid (gHe S = (He.zero, 120)) := by show got _ _ _ = _; rw [got, if_neg hq]
    clear hq
    go_enter Try.func39, Try.ntmps39
    go_wp2_with fail
    generalize (w.alloc (.cells #[.int .i64 0, .int .i64 0, .int .i64 0, .string ⟨#[]⟩] 25)).alloc (.cells #[.string S, .int .i64 0, .int .i64 0] 110) = W at *
    generalize w.heap.size = rb at *
    have hS := hS.asDr 0 S HF.out rfl
    simp only [List.set_cons_succ, List.set_cons_zero] at hS
    refine (rtake_st hS 0 rfl 3 3 rfl (by omega)).mono ?_
    clear hS
    rintro e w1 ⟨sb, rfl, hS⟩
    simp only [List.set_cons_succ, List.set_cons_zero] at hS
    go_wp2_with fail
    refine (dtext_st hS 1 rfl 4096 (by omega)).mono ?_
    clear hS
    rintro e w2 ⟨rfl, hS⟩
    simp only [List.set_cons_succ, List.set_cons_zero] at hS
    go_wp2_with fail
    have hS : St w w2 (sl 3 1 (some ⟨sb, 0, none⟩) 3 3 (ic (numsR S.data.toList ⟨0, 0⟩ 3)) :: drt (rb + 1) S (heR S.data.toList ⟨0, 0⟩).2 :: bx rb #[.int .i64 0, .int .i64 0, .int .i64 0, .string ⟨#[]⟩] 25 :: []) := hS
    refine (dend_st hS 1 rfl).mono ?_
    clear hS
    rintro e w4 ⟨rfl, hS⟩
    simp only [List.set_cons_succ, List.set_cons_zero] at hS
    go_wp2_with ((with_reducible refine at_list ?_); refine wpList_store_whole 4 sizeHe rb rfl _ _ (hS.box 2 rfl) rfl He.zero.cells rfl rfl (by kernel_rfl) ?_; intro w5 hg5 hM5 hz5)
    refine bodyPost_ret (results_cell_tmp rfl _ w5 rb _ _ _ _ rfl hg5 Try.underlying25 rfl sizeHe) rfl ?_
    have hS2 := hS.rebox 2 rfl hg5 hM5
    refine ⟨?_, hS2.1⟩
    rw [HE.out]; rfl

set_option maxHeartbeats 2000000 in
theorem rGetNote_any (S : ByteArray) (hf : bfits S.size) (w : World) :
    Calls Try.prog 40 #[.string S] w (ValPost (.tuple #[.agg (gNo S).1.cells.toArray, .int .i64 (gNo S).2]) w) := by
  have hS := ((St.start w).box1 #[.int .i64 0, .int .i64 0, .int .i64 0, .int .i64 0, .int .i64 0, .int .i64 0] 27).box1 #[.string S, .int .i64 0, .int .i64 0] 110
  rw [World.size_alloc] at hS
  have HF := Lib.hid hf
  clear hf
  by_cases hq : (rend S.data.toList (noR S.data.toList ⟨0, 0⟩).2).wr = 0
  · have hb : ((rend S.data.toList (noR S.data.toList ⟨0, 0⟩).2).wr == 0) = true := by simpa using hq
    have HE : Hid (gNo S = ((noR S.data.toList ⟨0, 0⟩).1, 0)) := by show got _ _ _ = _; rw [got, if_pos hq]
    clear hq
    go_enter Try.func40, Try.ntmps40
    go_wp2_with fail
    generalize (w.alloc (.cells #[.int .i64 0, .int .i64 0, .int .i64 0, .int .i64 0, .int .i64 0, .int .i64 0] 27)).alloc (.cells #[.string S, .int .i64 0, .int .i64 0] 110) = W at *
    generalize w.heap.size = rb at *
    have hS := hS.asDr 0 S HF.out rfl
    simp only [List.set_cons_succ, List.set_cons_zero] at hS
    refine (rtake_st hS 0 rfl 6 6 rfl (by omega)).mono ?_
    clear hS
    rintro e w2 ⟨sb, rfl, hS⟩
    simp only [List.set_cons_succ, List.set_cons_zero] at hS
    go_wp2_with fail
    have hS : St w w2 (sl 3 1 (some ⟨sb, 0, none⟩) 6 6 (ic (numsR S.data.toList ⟨0, 0⟩ 6)) :: drt (rb + 1) S (noR S.data.toList ⟨0, 0⟩).2 :: bx rb #[.int .i64 0, .int .i64 0, .int .i64 0, .int .i64 0, .int .i64 0, .int .i64 0] 27 :: []) := hS
    refine (dend_st hS 1 rfl).mono ?_
    clear hS
    rintro e w4 ⟨rfl, hS⟩
    simp only [List.set_cons_succ, List.set_cons_zero] at hS
    have c0 := (hS.slice 0 rfl).rd.cellAt 0 (t := rv S.data.toList ⟨0, 0⟩ 0) rfl
    have c1 := (hS.slice 0 rfl).rd.cellAt 1 (t := rv S.data.toList ⟨0, 0⟩ 1) rfl
    have c2 := (hS.slice 0 rfl).rd.cellAt 2 (t := rv S.data.toList ⟨0, 0⟩ 2) rfl
    have c3 := (hS.slice 0 rfl).rd.cellAt 3 (t := rv S.data.toList ⟨0, 0⟩ 3) rfl
    have c4 := (hS.slice 0 rfl).rd.cellAt 4 (t := rv S.data.toList ⟨0, 0⟩ 4) rfl
    have c5 := (hS.slice 0 rfl).rd.cellAt 5 (t := rv S.data.toList ⟨0, 0⟩ 5) rfl
    go_wp2
    go_still_tail 19, (by kernel_rfl)
    change wpList _ _ _ _ _ w4.drew
    have hS := hS.drew
    refine wpList_store_whole 6 sizeNo rb rfl _ _ (hS.box 2 rfl) rfl (noR S.data.toList ⟨0, 0⟩).1.cells rfl rfl (by kernel_rfl) ?_
    intro w5 hg5 hM5 hz5
    go_wp2
    refine bodyPost_ret (results_cell_tmp rfl _ w5 rb _ _ _ _ rfl hg5 Try.underlying27 rfl sizeNo) rfl ?_
    have hS2 := hS.rebox 2 rfl hg5 hM5
    refine ⟨?_, hS2.1⟩
    rw [HE.out]; rfl
  · have hb : ((rend S.data.toList (noR S.data.toList ⟨0, 0⟩).2).wr == 0) = false := by simpa using hq
    have HE : Hid (gNo S = (No.zero, 120)) := by show got _ _ _ = _; rw [got, if_neg hq]
    clear hq
    go_enter Try.func40, Try.ntmps40
    go_wp2_with fail
    generalize (w.alloc (.cells #[.int .i64 0, .int .i64 0, .int .i64 0, .int .i64 0, .int .i64 0, .int .i64 0] 27)).alloc (.cells #[.string S, .int .i64 0, .int .i64 0] 110) = W at *
    generalize w.heap.size = rb at *
    have hS := hS.asDr 0 S HF.out rfl
    simp only [List.set_cons_succ, List.set_cons_zero] at hS
    refine (rtake_st hS 0 rfl 6 6 rfl (by omega)).mono ?_
    clear hS
    rintro e w2 ⟨sb, rfl, hS⟩
    simp only [List.set_cons_succ, List.set_cons_zero] at hS
    go_wp2_with fail
    have hS : St w w2 (sl 3 1 (some ⟨sb, 0, none⟩) 6 6 (ic (numsR S.data.toList ⟨0, 0⟩ 6)) :: drt (rb + 1) S (noR S.data.toList ⟨0, 0⟩).2 :: bx rb #[.int .i64 0, .int .i64 0, .int .i64 0, .int .i64 0, .int .i64 0, .int .i64 0] 27 :: []) := hS
    refine (dend_st hS 1 rfl).mono ?_
    clear hS
    rintro e w4 ⟨rfl, hS⟩
    simp only [List.set_cons_succ, List.set_cons_zero] at hS
    go_wp2_with ((with_reducible refine at_list ?_); refine wpList_store_whole 6 sizeNo rb rfl _ _ (hS.box 2 rfl) rfl No.zero.cells rfl rfl (by kernel_rfl) ?_; intro w5 hg5 hM5 hz5)
    refine bodyPost_ret (results_cell_tmp rfl _ w5 rb _ _ _ _ rfl hg5 Try.underlying27 rfl sizeNo) rfl ?_
    have hS2 := hS.rebox 2 rfl hg5 hM5
    refine ⟨?_, hS2.1⟩
    rw [HE.out]; rfl
end Go.Proofs.Ytmbkbkfcbloafaa
