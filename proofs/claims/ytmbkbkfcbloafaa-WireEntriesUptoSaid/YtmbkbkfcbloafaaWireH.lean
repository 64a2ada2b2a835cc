/-
  Events, hellos, notes of bytes: package wire's get and Get...
  Conditions: the text fits.
-/
import Derived.Test.YtmbkbkfcbloafaaWireG
namespace Go.Proofs.Ytmbkbkfcbloafaa
open Go.RowKit
set_option linter.unusedSectionVars false
set_option linter.unusedSimpArgs false
set_option linter.unusedVariables false
set_option maxRecDepth 100000

/-- What a reader's work is worth: the thing, or none. -/
def got {α : Type} (bs : List UInt8) (z : α) (r : α × RS) : α × Int := if (rend bs r.2).wr = 0 then (r.1, 0) else (z, 120)
def ValPost (v : Value) (w : World) (e : Ending) (w' : World) : Prop := e = .returned v ∧ Mod (fun _ => False) w w'
def Ev.zero : Ev := ⟨0, ⟨#[]⟩, 0⟩
def He.zero : He := ⟨0, 0, 0, ⟨#[]⟩⟩
def No.zero : No := ⟨0, 0, 0, 0, 0, 0⟩
/-- What package wire's Get.. answers. -/
def gEv (S : ByteArray) : Ev × Int := got S.data.toList Ev.zero (evR S.data.toList ⟨0, 0⟩)
def gHe (S : ByteArray) : He × Int := got S.data.toList He.zero (heR S.data.toList ⟨0, 0⟩)
def gNo (S : ByteArray) : No × Int := got S.data.toList No.zero (noR S.data.toList ⟨0, 0⟩)

set_option maxHeartbeats 2000000 in
theorem getEvent_any (S : ByteArray) (hf : bfits S.size) (w : World) :
    Calls Try.prog 58 #[.string S, .func (.func 59) #[] #[]] w (ValPost (.tuple #[.agg (gEv S).1.cells.toArray, .int .i64 (gEv S).2]) w) := by
  have hS := (St.start w).box1 #[.int .i64 0, .string ⟨#[]⟩, .int .i64 0] 23
  obtain ⟨r, hr⟩ : ∃ r, evR S.data.toList ⟨0, 0⟩ = r := ⟨_, rfl⟩
  have HF := Lib.hid hf
  have HR := Lib.hid hr
  clear hf hr
  by_cases hq : (rend S.data.toList r.2).wr = 0
  · have hb : ((rend S.data.toList r.2).wr == 0) = true := by simpa using hq
    have HE : Hid (gEv S = (r.1, 0)) := by show got _ _ _ = _; rw [HR.out, got, if_pos hq]
    clear hq
    go_enter Try.func58, Try.ntmps58
    go_wp2_with fail
    generalize w.alloc (.cells #[.int .i64 0, .string ⟨#[]⟩, .int .i64 0] 23) = W at *
    generalize w.heap.size = rb at *
    refine (rread_st hS S HF.out).mono ?_
    clear hS
    rintro e w1 ⟨pb, rfl, hS⟩
    go_wp2_with fail
    have hT := takeEvent_st hS
    rw [HR.out] at hT
    refine hT.mono ?_
    clear hS hT
    rintro e w2 ⟨rfl, hS⟩
    have hS := hS.box1 #[.int .i64 0, .string ⟨#[]⟩, .int .i64 0] 23
    go_wp2_with ((with_reducible refine at_list ?_); refine wpList_store_whole 3 sizeEv w2.heap.size rfl _ _ (hS.box 0 rfl) rfl r.1.cells rfl rfl (by kernel_rfl) ?_; intro w3 hg3 hM3 hz3; have hS := hS.rebox 0 rfl hg3 hM3; simp only [List.set_cons_zero] at hS; generalize w2.heap.size = tb at hS ⊢; clear hg3 hM3 hz3)
    refine (rend_st hS 1 rfl).mono ?_
    clear hS
    rintro e w4 ⟨rfl, hS⟩
    simp only [List.set_cons_succ, List.set_cons_zero] at hS
    go_wp2_with (first | ((with_reducible refine at_list ?_); refine wpList_load_chunk 3 _ Try.underlying23 rfl sizeEv ⟨tb, 0, none⟩ rfl r.1.cells rfl (box_chunk (hS.box 0 rfl)) ?_) | ((with_reducible refine at_list ?_); refine wpList_store_whole 3 sizeEv rb rfl _ _ (hS.box 2 rfl) rfl r.1.cells rfl rfl (by kernel_rfl) ?_; intro w5 hg5 hM5 hz5))
    refine bodyPost_ret (results_cell_tmp rfl _ w5 rb _ _ _ _ rfl hg5 Try.underlying23 rfl sizeEv) rfl ?_
    have hS2 := hS.rebox 2 rfl hg5 hM5
    refine ⟨?_, hS2.1⟩
    rw [HE.out]; rfl
  · have hb : ((rend S.data.toList r.2).wr == 0) = false := by simpa using hq
    have HE : Hid (gEv S = (Ev.zero, 120)) := by show got _ _ _ = _; rw [HR.out, got, if_neg hq]
    clear hq
    go_enter Try.func58, Try.ntmps58
    go_wp2_with fail
    generalize w.alloc (.cells #[.int .i64 0, .string ⟨#[]⟩, .int .i64 0] 23) = W at *
    generalize w.heap.size = rb at *
    refine (rread_st hS S HF.out).mono ?_
    clear hS
    rintro e w1 ⟨pb, rfl, hS⟩
    go_wp2_with fail
    have hT := takeEvent_st hS
    rw [HR.out] at hT
    refine hT.mono ?_
    clear hS hT
    rintro e w2 ⟨rfl, hS⟩
    have hS := hS.box1 #[.int .i64 0, .string ⟨#[]⟩, .int .i64 0] 23
    go_wp2_with ((with_reducible refine at_list ?_); refine wpList_store_whole 3 sizeEv w2.heap.size rfl _ _ (hS.box 0 rfl) rfl r.1.cells rfl rfl (by kernel_rfl) ?_; intro w3 hg3 hM3 hz3; have hS := hS.rebox 0 rfl hg3 hM3; simp only [List.set_cons_zero] at hS; generalize w2.heap.size = tb at hS ⊢; clear hg3 hM3 hz3)
    refine (rend_st hS 1 rfl).mono ?_
    clear hS
    rintro e w4 ⟨rfl, hS⟩
    simp only [List.set_cons_succ, List.set_cons_zero] at hS
    have hS := hS.box1 #[.int .i64 0, .string ⟨#[]⟩, .int .i64 0] 23
    go_wp2_with (first | ((with_reducible refine at_list ?_); refine wpList_load_chunk 3 _ Try.underlying23 rfl sizeEv ⟨w4.heap.size, 0, none⟩ rfl Ev.zero.cells rfl (box_chunk (hS.box 0 rfl)) ?_) | ((with_reducible refine at_list ?_); refine wpList_store_whole 3 sizeEv rb rfl _ _ (hS.box 3 rfl) rfl Ev.zero.cells rfl rfl (by kernel_rfl) ?_; intro w5 hg5 hM5 hz5))
    refine bodyPost_ret (results_cell_tmp rfl _ w5 rb _ _ _ _ rfl hg5 Try.underlying23 rfl sizeEv) rfl ?_
    have hS2 := hS.rebox 3 rfl hg5 hM5
    refine ⟨?_, hS2.1⟩
    rw [HE.out]; rfl

set_option maxHeartbeats 2000000 in
theorem GetEvent_any (S : ByteArray) (hf : bfits S.size) (w : World) :
    Calls Try.prog 26 #[.string S] w (ValPost (.tuple #[.agg (gEv S).1.cells.toArray, .int .i64 (gEv S).2]) w) := by
  have hS := (St.start w).box1 #[.int .i64 0, .string ⟨#[]⟩, .int .i64 0] 23
  go_enter Try.func26, Try.ntmps26
  go_wp2_with fail
  generalize w.alloc (.cells #[.int .i64 0, .string ⟨#[]⟩, .int .i64 0] 23) = W at *
  generalize w.heap.size = rb at *
  refine (getEvent_any S hf W).mono ?_
  generalize gEv S = r at *
  rintro e w1 ⟨rfl, hM⟩
  have hS := hS.mod hM
  go_wp2_with ((with_reducible refine at_list ?_); refine wpList_store_whole 3 sizeEv rb rfl _ _ (hS.box 0 rfl) rfl r.1.cells rfl rfl (by kernel_rfl) ?_; intro w2 hg2 hM2 hz2)
  refine bodyPost_ret (results_cell_tmp rfl _ w2 rb _ _ _ _ rfl hg2 Try.underlying23 rfl sizeEv) rfl ?_
  exact ⟨rfl, (hS.rebox 0 rfl hg2 hM2).1⟩

set_option maxHeartbeats 2000000 in
theorem getHello_any (S : ByteArray) (hf : bfits S.size) (w : World) :
    Calls Try.prog 67 #[.string S, .func (.func 68) #[] #[]] w (ValPost (.tuple #[.agg (gHe S).1.cells.toArray, .int .i64 (gHe S).2]) w) := by
  have hS := (St.start w).box1 #[.int .i64 0, .int .i64 0, .int .i64 0, .string ⟨#[]⟩] 25
  obtain ⟨r, hr⟩ : ∃ r, heR S.data.toList ⟨0, 0⟩ = r := ⟨_, rfl⟩
  have HF := Lib.hid hf
  have HR := Lib.hid hr
  clear hf hr
  by_cases hq : (rend S.data.toList r.2).wr = 0
  · have hb : ((rend S.data.toList r.2).wr == 0) = true := by simpa using hq
    have HE : Hid (gHe S = (r.1, 0)) := by show got _ _ _ = _; rw [HR.out, got, if_pos hq]
    clear hq
    go_enter Try.func67, Try.ntmps67
    go_wp2_with fail
    generalize w.alloc (.cells #[.int .i64 0, .int .i64 0, .int .i64 0, .string ⟨#[]⟩] 25) = W at *
    generalize w.heap.size = rb at *
    refine (rread_st hS S HF.out).mono ?_
    clear hS
    rintro e w1 ⟨pb, rfl, hS⟩
    go_wp2_with fail
    have hT := takeHello_st hS
    rw [HR.out] at hT
    refine hT.mono ?_
    clear hS hT
    rintro e w2 ⟨rfl, hS⟩
    have hS := hS.box1 #[.int .i64 0, .int .i64 0, .int .i64 0, .string ⟨#[]⟩] 25
    go_wp2_with ((with_reducible refine at_list ?_); refine wpList_store_whole 4 sizeHe w2.heap.size rfl _ _ (hS.box 0 rfl) rfl r.1.cells rfl rfl (by kernel_rfl) ?_; intro w3 hg3 hM3 hz3; have hS := hS.rebox 0 rfl hg3 hM3; simp only [List.set_cons_zero] at hS; generalize w2.heap.size = tb at hS ⊢; clear hg3 hM3 hz3)
    refine (rend_st hS 1 rfl).mono ?_
    clear hS
    rintro e w4 ⟨rfl, hS⟩
    simp only [List.set_cons_succ, List.set_cons_zero] at hS
    go_wp2_with (first | ((with_reducible refine at_list ?_); refine wpList_load_chunk 4 _ Try.underlying25 rfl sizeHe ⟨tb, 0, none⟩ rfl r.1.cells rfl (box_chunk (hS.box 0 rfl)) ?_) | ((with_reducible refine at_list ?_); refine wpList_store_whole 4 sizeHe rb rfl _ _ (hS.box 2 rfl) rfl r.1.cells rfl rfl (by kernel_rfl) ?_; intro w5 hg5 hM5 hz5))
    refine bodyPost_ret (results_cell_tmp rfl _ w5 rb _ _ _ _ rfl hg5 Try.underlying25 rfl sizeHe) rfl ?_
    have hS2 := hS.rebox 2 rfl hg5 hM5
    refine ⟨?_, hS2.1⟩
    rw [HE.out]; rfl
  · have hb : ((rend S.data.toList r.2).wr == 0) = false := by simpa using hq
    have HE : Hid (gHe S = (He.zero, 120)) := by show got _ _ _ = _; rw [HR.out, got, if_neg hq]
    clear hq
    go_enter Try.func67, Try.ntmps67
    go_wp2_with fail
    generalize w.alloc (.cells #[.int .i64 0, .int .i64 0, .int .i64 0, .string ⟨#[]⟩] 25) = W at *
    generalize w.heap.size = rb at *
    refine (rread_st hS S HF.out).mono ?_
    clear hS
    rintro e w1 ⟨pb, rfl, hS⟩
    go_wp2_with fail
    have hT := takeHello_st hS
    rw [HR.out] at hT
    refine hT.mono ?_
    clear hS hT
    rintro e w2 ⟨rfl, hS⟩
    have hS := hS.box1 #[.int .i64 0, .int .i64 0, .int .i64 0, .string ⟨#[]⟩] 25
    go_wp2_with ((with_reducible refine at_list ?_); refine wpList_store_whole 4 sizeHe w2.heap.size rfl _ _ (hS.box 0 rfl) rfl r.1.cells rfl rfl (by kernel_rfl) ?_; intro w3 hg3 hM3 hz3; have hS := hS.rebox 0 rfl hg3 hM3; simp only [List.set_cons_zero] at hS; generalize w2.heap.size = tb at hS ⊢; clear hg3 hM3 hz3)
    refine (rend_st hS 1 rfl).mono ?_
    clear hS
    rintro e w4 ⟨rfl, hS⟩
    simp only [List.set_cons_succ, List.set_cons_zero] at hS
    have hS := hS.box1 #[.int .i64 0, .int .i64 0, .int .i64 0, .string ⟨#[]⟩] 25
    go_wp2_with (first | ((with_reducible refine at_list ?_); refine wpList_load_chunk 4 _ Try.underlying25 rfl sizeHe ⟨w4.heap.size, 0, none⟩ rfl He.zero.cells rfl (box_chunk (hS.box 0 rfl)) ?_) | ((with_reducible refine at_list ?_); refine wpList_store_whole 4 sizeHe rb rfl _ _ (hS.box 3 rfl) rfl He.zero.cells rfl rfl (by kernel_rfl) ?_; intro w5 hg5 hM5 hz5))
    refine bodyPost_ret (results_cell_tmp rfl _ w5 rb _ _ _ _ rfl hg5 Try.underlying25 rfl sizeHe) rfl ?_
    have hS2 := hS.rebox 3 rfl hg5 hM5
    refine ⟨?_, hS2.1⟩
    rw [HE.out]; rfl

set_option maxHeartbeats 2000000 in
theorem GetHello_any (S : ByteArray) (hf : bfits S.size) (w : World) :
    Calls Try.prog 36 #[.string S] w (ValPost (.tuple #[.agg (gHe S).1.cells.toArray, .int .i64 (gHe S).2]) w) := by
  have hS := (St.start w).box1 #[.int .i64 0, .int .i64 0, .int .i64 0, .string ⟨#[]⟩] 25
  go_enter Try.func36, Try.ntmps36
  go_wp2_with fail
  generalize w.alloc (.cells #[.int .i64 0, .int .i64 0, .int .i64 0, .string ⟨#[]⟩] 25) = W at *
  generalize w.heap.size = rb at *
  refine (getHello_any S hf W).mono ?_
  generalize gHe S = r at *
  rintro e w1 ⟨rfl, hM⟩
  have hS := hS.mod hM
  go_wp2_with ((with_reducible refine at_list ?_); refine wpList_store_whole 4 sizeHe rb rfl _ _ (hS.box 0 rfl) rfl r.1.cells rfl rfl (by kernel_rfl) ?_; intro w2 hg2 hM2 hz2)
  refine bodyPost_ret (results_cell_tmp rfl _ w2 rb _ _ _ _ rfl hg2 Try.underlying25 rfl sizeHe) rfl ?_
  exact ⟨rfl, (hS.rebox 0 rfl hg2 hM2).1⟩

set_option maxHeartbeats 2000000 in
theorem getNote_any (S : ByteArray) (hf : bfits S.size) (w : World) :
    Calls Try.prog 69 #[.string S, .func (.func 70) #[] #[]] w (ValPost (.tuple #[.agg (gNo S).1.cells.toArray, .int .i64 (gNo S).2]) w) := by
  have hS := (St.start w).box1 #[.int .i64 0, .int .i64 0, .int .i64 0, .int .i64 0, .int .i64 0, .int .i64 0] 27
  obtain ⟨r, hr⟩ : ∃ r, noR S.data.toList ⟨0, 0⟩ = r := ⟨_, rfl⟩
  have HF := Lib.hid hf
  have HR := Lib.hid hr
  clear hf hr
  by_cases hq : (rend S.data.toList r.2).wr = 0
  · have hb : ((rend S.data.toList r.2).wr == 0) = true := by simpa using hq
    have HE : Hid (gNo S = (r.1, 0)) := by show got _ _ _ = _; rw [HR.out, got, if_pos hq]
    clear hq
    go_enter Try.func69, Try.ntmps69
    go_wp2_with fail
    generalize w.alloc (.cells #[.int .i64 0, .int .i64 0, .int .i64 0, .int .i64 0, .int .i64 0, .int .i64 0] 27) = W at *
    generalize w.heap.size = rb at *
    refine (rread_st hS S HF.out).mono ?_
    clear hS
    rintro e w1 ⟨pb, rfl, hS⟩
    go_wp2_with fail
    have hT := takeNote_st hS
    rw [HR.out] at hT
    refine hT.mono ?_
    clear hS hT
    rintro e w2 ⟨rfl, hS⟩
    have hS := hS.box1 #[.int .i64 0, .int .i64 0, .int .i64 0, .int .i64 0, .int .i64 0, .int .i64 0] 27
    go_wp2_with ((with_reducible refine at_list ?_); refine wpList_store_whole 6 sizeNo w2.heap.size rfl _ _ (hS.box 0 rfl) rfl r.1.cells rfl rfl (by kernel_rfl) ?_; intro w3 hg3 hM3 hz3; have hS := hS.rebox 0 rfl hg3 hM3; simp only [List.set_cons_zero] at hS; generalize w2.heap.size = tb at hS ⊢; clear hg3 hM3 hz3)
    refine (rend_st hS 1 rfl).mono ?_
    clear hS
    rintro e w4 ⟨rfl, hS⟩
    simp only [List.set_cons_succ, List.set_cons_zero] at hS
    go_wp2_with (first | ((with_reducible refine at_list ?_); refine wpList_load_chunk 6 _ Try.underlying27 rfl sizeNo ⟨tb, 0, none⟩ rfl r.1.cells rfl (box_chunk (hS.box 0 rfl)) ?_) | ((with_reducible refine at_list ?_); refine wpList_store_whole 6 sizeNo rb rfl _ _ (hS.box 2 rfl) rfl r.1.cells rfl rfl (by kernel_rfl) ?_; intro w5 hg5 hM5 hz5))
    refine bodyPost_ret (results_cell_tmp rfl _ w5 rb _ _ _ _ rfl hg5 Try.underlying27 rfl sizeNo) rfl ?_
    have hS2 := hS.rebox 2 rfl hg5 hM5
    refine ⟨?_, hS2.1⟩
    rw [HE.out]; rfl
  · have hb : ((rend S.data.toList r.2).wr == 0) = false := by simpa using hq
    have HE : Hid (gNo S = (No.zero, 120)) := by show got _ _ _ = _; rw [HR.out, got, if_neg hq]
    clear hq
    go_enter Try.func69, Try.ntmps69
    go_wp2_with fail
    generalize w.alloc (.cells #[.int .i64 0, .int .i64 0, .int .i64 0, .int .i64 0, .int .i64 0, .int .i64 0] 27) = W at *
    generalize w.heap.size = rb at *
    refine (rread_st hS S HF.out).mono ?_
    clear hS
    rintro e w1 ⟨pb, rfl, hS⟩
    go_wp2_with fail
    have hT := takeNote_st hS
    rw [HR.out] at hT
    refine hT.mono ?_
    clear hS hT
    rintro e w2 ⟨rfl, hS⟩
    have hS := hS.box1 #[.int .i64 0, .int .i64 0, .int .i64 0, .int .i64 0, .int .i64 0, .int .i64 0] 27
    go_wp2_with ((with_reducible refine at_list ?_); refine wpList_store_whole 6 sizeNo w2.heap.size rfl _ _ (hS.box 0 rfl) rfl r.1.cells rfl rfl (by kernel_rfl) ?_; intro w3 hg3 hM3 hz3; have hS := hS.rebox 0 rfl hg3 hM3; simp only [List.set_cons_zero] at hS; generalize w2.heap.size = tb at hS ⊢; clear hg3 hM3 hz3)
    refine (rend_st hS 1 rfl).mono ?_
    clear hS
    rintro e w4 ⟨rfl, hS⟩
    simp only [List.set_cons_succ, List.set_cons_zero] at hS
    have hS := hS.box1 #[.int .i64 0, .int .i64 0, .int .i64 0, .int .i64 0, .int .i64 0, .int .i64 0] 27
    go_wp2_with (first | ((with_reducible refine at_list ?_); refine wpList_load_chunk 6 _ Try.underlying27 rfl sizeNo ⟨w4.heap.size, 0, none⟩ rfl No.zero.cells rfl (box_chunk (hS.box 0 rfl)) ?_) | ((with_reducible refine at_list ?_); refine wpList_store_whole 6 sizeNo rb rfl _ _ (hS.box 3 rfl) rfl No.zero.cells rfl rfl (by kernel_rfl) ?_; intro w5 hg5 hM5 hz5))
    refine bodyPost_ret (results_cell_tmp rfl _ w5 rb _ _ _ _ rfl hg5 Try.underlying27 rfl sizeNo) rfl ?_
    have hS2 := hS.rebox 3 rfl hg5 hM5
    refine ⟨?_, hS2.1⟩
    rw [HE.out]; rfl

set_option maxHeartbeats 2000000 in
theorem GetNote_any (S : ByteArray) (hf : bfits S.size) (w : World) :
    Calls Try.prog 37 #[.string S] w (ValPost (.tuple #[.agg (gNo S).1.cells.toArray, .int .i64 (gNo S).2]) w) := by
  have hS := (St.start w).box1 #[.int .i64 0, .int .i64 0, .int .i64 0, .int .i64 0, .int .i64 0, .int .i64 0] 27
  go_enter Try.func37, Try.ntmps37
  go_wp2_with fail
  generalize w.alloc (.cells #[.int .i64 0, .int .i64 0, .int .i64 0, .int .i64 0, .int .i64 0, .int .i64 0] 27) = W at *
  generalize w.heap.size = rb at *
  refine (getNote_any S hf W).mono ?_
  generalize gNo S = r at *
  rintro e w1 ⟨rfl, hM⟩
  have hS := hS.mod hM
  go_wp2_with ((with_reducible refine at_list ?_); refine wpList_store_whole 6 sizeNo rb rfl _ _ (hS.box 0 rfl) rfl r.1.cells rfl rfl (by kernel_rfl) ?_; intro w2 hg2 hM2 hz2)
  refine bodyPost_ret (results_cell_tmp rfl _ w2 rb _ _ _ _ rfl hg2 Try.underlying27 rfl sizeNo) rfl ?_
  exact ⟨rfl, (hS.rebox 0 rfl hg2 hM2).1⟩
end Go.Proofs.Ytmbkbkfcbloafaa
