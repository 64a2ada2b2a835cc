/-
  The document's take: so many numbers.
  No condition: every law states its own.
  Events, hellos, notes of bytes: package wire's get and Get...
  Conditions: the text fits.
  Events, hellos, notes of bytes: the document's GetEvent, GetHello, GetNote.
  Conditions: the text fits.
  The law's awake: the chapter's examples are as the document says.
  No condition.
-/
import Derived.Test.YtmbkbkfcbloafabWireF
import Derived.Deep.OwnRows
import Derived.StillTailTactics
namespace Go.Proofs.Ytmbkbkfcbloafab
section
open Go.RowKit
set_option linter.unusedSectionVars false
set_option linter.unusedSimpArgs false
set_option linter.unusedVariables false
set_option maxRecDepth 100000

theorem infoInt : (Try.prog.info? 3).map (fun i => (i.zero, i.size, i.bytes)) = some (some (.int .i64 0), 1, 8) := by kernel_rfl

def numsR (bs : List UInt8) (s : RS) (n : Nat) : List Int := (List.range n).map (rv bs s)
/-- The row while it is filled: k of n. -/
def tk (bs : List UInt8) (s : RS) (n k : Nat) : Array Value := ((List.range n).map fun i => Value.int .i64 (if i < k then rv bs s i else 0)).toArray
theorem tk_size (bs : List UInt8) (s : RS) (n k : Nat) : (tk bs s n k).size = n := by simp [tk]
theorem tk_get (bs : List UInt8) (s : RS) (n k i : Nat) (h : i < n) : (tk bs s n k)[i]? = some (.int .i64 (if i < k then rv bs s i else 0)) := by
  simp [tk, h]
theorem tk_set (bs : List UInt8) (s : RS) (n k : Nat) : (tk bs s n k).setIfInBounds k (.int .i64 (rv bs s k)) = tk bs s n (k + 1) := by
  apply Array.ext_getElem?
  intro i
  rw [Array.getElem?_setIfInBounds]
  by_cases hi : i < n
  · rw [tk_get bs s n (k + 1) i hi, tk_get bs s n k i hi, tk_size]
    by_cases h : k = i
    · subst h; rw [if_pos rfl, if_pos hi, if_pos (Nat.lt_succ_self k)]
    · rw [if_neg h]
      by_cases h2 : i < k
      · rw [if_pos h2, if_pos (by omega)]
      · rw [if_neg h2, if_neg (by omega)]
  · have e : ∀ k, (tk bs s n k)[i]? = none := fun k => Array.getElem?_eq_none (by rw [tk_size]; omega)
    rw [e, e, tk_size]
    by_cases h : k = i
    · subst h; rw [if_pos rfl, if_neg hi]
    · rw [if_neg h]
theorem tk_zero (bs : List UInt8) (s : RS) (n : Nat) : madeCells #[.int .i64 0] n = tk bs s n 0 := by
  apply Array.ext_getElem?
  intro i
  by_cases hi : i < n
  · rw [tk_get bs s n 0 i hi]
    simp [madeCells, hi, Nat.mod_one]
  · rw [Array.getElem?_eq_none (by rw [size_madeCells]; omega), Array.getElem?_eq_none (by rw [tk_size]; omega)]
theorem tk_full (bs : List UInt8) (s : RS) (n : Nat) : (tk bs s n n).toList = ic (numsR bs s n) := by
  unfold tk ic numsR
  rw [List.map_map]
  simp only [List.map_inj_left]
  intro i hi
  rw [if_pos (List.mem_range.1 hi)]
  rfl

/-- A box of single cells is a slice. -/
theorem St.asSlice {w0 w : World} {l : List Thing} (h : St w0 w l) (i : Nat) {pb : Nat} {c : Array Value} {T : TypeId} (hi : l[i]? = some (bx pb c T)) (n k : Nat) (hn : c.size = n * k) (hm : n ≤ maxLen) :
    St w0 w (l.set i (sl T k (some ⟨pb, 0, none⟩) n n c.toList)) := by
  obtain ⟨F1, ⟨hh, hF⟩, hz, hk⟩ := h.at i hi
  refine hk w _ F1 (Mod.refl _ _) ⟨Sl.new hh hn hm, fun x => ?_⟩ (fun x hx => .inl hx)
  rw [hF]
  simp only [own, Option.map_some, Option.some.injEq]
  exact eq_comm

/-- What take answers. -/
def Took (w0 : World) (bs : List UInt8) (s : RS) (n : Nat) (l : List Thing) (e : Ending) (w' : World) : Prop :=
  ∃ sb, e = .returned (.slice (some ⟨sb, 0, none⟩) n n) ∧ St w0 w' (sl 3 1 (some ⟨sb, 0, none⟩) n n (ic (numsR bs s n)) :: l)

end

section
open Go.RowKit
set_option linter.unusedSectionVars false
set_option linter.unusedSimpArgs false
set_option linter.unusedVariables false
set_option maxRecDepth 100000

/-- What a reader's work is worth: the thing, or none. -/
def got {α : Type} (bs : List UInt8) (z : α) (r : α × RS) : α × Int := if (rend bs r.2).wr = 0 then (r.1, 0) else (z, 120)
def ValPost (v : Value) (w : World) (e : Ending) (w' : World) : Prop := e = .returned v ∧ Mod (fun _ => False) w w'
def Ev.zero : Ev := ⟨0, ⟨#[]⟩, 0⟩
def He.zero : He := ⟨0, 0, 0, ⟨#[]⟩⟩
def No.zero : No := ⟨0, 0, 0, 0, 0, 0⟩
/-- What package wire's Get.. answers. -/
def gEv (S : ByteArray) : Ev × Int := got S.data.toList Ev.zero (evR S.data.toList ⟨0, 0⟩)
def gHe (S : ByteArray) : He × Int := got S.data.toList He.zero (heR S.data.toList ⟨0, 0⟩)
def gNo (S : ByteArray) : No × Int := got S.data.toList No.zero (noR S.data.toList ⟨0, 0⟩)

set_option maxHeartbeats 2000000 in
theorem getEvent_any (S : ByteArray) (hf : bfits S.size) (w : World) :
    Calls Try.prog 33 #[.string S, .func (.func 34) #[] #[]] w (ValPost (.tuple #[.agg (gEv S).1.cells.toArray, .int .i64 (gEv S).2]) w) := by
  have hS := (St.start w).box1 #[.int .i64 0, .string ⟨#[]⟩, .int .i64 0] 57
  obtain ⟨r, hr⟩ : ∃ r, evR S.data.toList ⟨0, 0⟩ = r := ⟨_, rfl⟩
  have HF := Lib.hid hf
  have HR := Lib.hid hr
  clear hf hr
  by_cases hq : (rend S.data.toList r.2).wr = 0
  · have hb : ((rend S.data.toList r.2).wr == 0) = true := by simpa using hq
    have HE : Hid (gEv S = (r.1, 0)) := by show got _ _ _ = _; rw [HR.out, got, if_pos hq]
    clear hq
    go_enter Try.func33, Try.ntmps33
    go_wp2_with fail
    generalize w.alloc (.cells #[.int .i64 0, .string ⟨#[]⟩, .int .i64 0] 57) = W at *
    generalize w.heap.size = rb at *
    refine (rread_st hS S HF.out).mono ?_
    clear hS
    rintro e w1 ⟨pb, rfl, hS⟩
    go_wp2_with fail
    have hT := takeEvent_st hS
    rw [HR.out] at hT
    refine hT.mono ?_
    clear hS hT
    rintro e w2 ⟨rfl, hS⟩
    have hS := hS.box1 #[.int .i64 0, .string ⟨#[]⟩, .int .i64 0] 57
    go_wp2_with ((with_reducible refine at_list ?_); refine wpList_store_whole 3 sizeEv w2.heap.size rfl _ _ (hS.box 0 rfl) rfl r.1.cells rfl rfl (by kernel_rfl) ?_; intro w3 hg3 hM3 hz3; have hS := hS.rebox 0 rfl hg3 hM3; simp only [List.set_cons_zero] at hS; generalize w2.heap.size = tb at hS ⊢; clear hg3 hM3 hz3)
    refine (rend_st hS 1 rfl).mono ?_
    clear hS
    rintro e w4 ⟨rfl, hS⟩
    simp only [List.set_cons_succ, List.set_cons_zero] at hS
    go_wp2_with (first | ((with_reducible refine at_list ?_); refine wpList_load_chunk 3 _ Try.underlying57 rfl sizeEv ⟨tb, 0, none⟩ rfl r.1.cells rfl (box_chunk (hS.box 0 rfl)) ?_) | ((with_reducible refine at_list ?_); refine wpList_store_whole 3 sizeEv rb rfl _ _ (hS.box 2 rfl) rfl r.1.cells rfl rfl (by kernel_rfl) ?_; intro w5 hg5 hM5 hz5))
    refine bodyPost_ret (results_cell_tmp rfl _ w5 rb _ _ _ _ rfl hg5 Try.underlying57 rfl sizeEv) rfl ?_
    have hS2 := hS.rebox 2 rfl hg5 hM5
    refine ⟨?_, hS2.1⟩
    rw [HE.out]; rfl
  · have hb : ((rend S.data.toList r.2).wr == 0) = false := by simpa using hq
    have HE : Hid (gEv S = (Ev.zero, 120)) := by show got _ _ _ = _; rw [HR.out, got, if_neg hq]
    clear hq
    go_enter Try.func33, Try.ntmps33
    go_wp2_with fail
    generalize w.alloc (.cells #[.int .i64 0, .string ⟨#[]⟩, .int .i64 0] 57) = W at *
    generalize w.heap.size = rb at *
    refine (rread_st hS S HF.out).mono ?_
    clear hS
    rintro e w1 ⟨pb, rfl, hS⟩
    go_wp2_with fail
    have hT := takeEvent_st hS
    rw [HR.out] at hT
    refine hT.mono ?_
    clear hS hT
    rintro e w2 ⟨rfl, hS⟩
    have hS := hS.box1 #[.int .i64 0, .string ⟨#[]⟩, .int .i64 0] 57
    go_wp2_with ((with_reducible refine at_list ?_); refine wpList_store_whole 3 sizeEv w2.heap.size rfl _ _ (hS.box 0 rfl) rfl r.1.cells rfl rfl (by kernel_rfl) ?_; intro w3 hg3 hM3 hz3; have hS := hS.rebox 0 rfl hg3 hM3; simp only [List.set_cons_zero] at hS; generalize w2.heap.size = tb at hS ⊢; clear hg3 hM3 hz3)
    refine (rend_st hS 1 rfl).mono ?_
    clear hS
    rintro e w4 ⟨rfl, hS⟩
    simp only [List.set_cons_succ, List.set_cons_zero] at hS
    have hS := hS.box1 #[.int .i64 0, .string ⟨#[]⟩, .int .i64 0] 57
    go_wp2_with (first | ((with_reducible refine at_list ?_); refine wpList_load_chunk 3 _ Try.underlying57 rfl sizeEv ⟨w4.heap.size, 0, none⟩ rfl Ev.zero.cells rfl (box_chunk (hS.box 0 rfl)) ?_) | ((with_reducible refine at_list ?_); refine wpList_store_whole 3 sizeEv rb rfl _ _ (hS.box 3 rfl) rfl Ev.zero.cells rfl rfl (by kernel_rfl) ?_; intro w5 hg5 hM5 hz5))
    refine bodyPost_ret (results_cell_tmp rfl _ w5 rb _ _ _ _ rfl hg5 Try.underlying57 rfl sizeEv) rfl ?_
    have hS2 := hS.rebox 3 rfl hg5 hM5
    refine ⟨?_, hS2.1⟩
    rw [HE.out]; rfl

set_option maxHeartbeats 2000000 in
theorem GetEvent_any (S : ByteArray) (hf : bfits S.size) (w : World) :
    Calls Try.prog 13 #[.string S] w (ValPost (.tuple #[.agg (gEv S).1.cells.toArray, .int .i64 (gEv S).2]) w) := by
  have hS := (St.start w).box1 #[.int .i64 0, .string ⟨#[]⟩, .int .i64 0] 57
  go_enter Try.func13, Try.ntmps13
  go_wp2_with fail
  generalize w.alloc (.cells #[.int .i64 0, .string ⟨#[]⟩, .int .i64 0] 57) = W at *
  generalize w.heap.size = rb at *
  refine (getEvent_any S hf W).mono ?_
  generalize gEv S = r at *
  rintro e w1 ⟨rfl, hM⟩
  have hS := hS.mod hM
  go_wp2_with ((with_reducible refine at_list ?_); refine wpList_store_whole 3 sizeEv rb rfl _ _ (hS.box 0 rfl) rfl r.1.cells rfl rfl (by kernel_rfl) ?_; intro w2 hg2 hM2 hz2)
  refine bodyPost_ret (results_cell_tmp rfl _ w2 rb _ _ _ _ rfl hg2 Try.underlying57 rfl sizeEv) rfl ?_
  exact ⟨rfl, (hS.rebox 0 rfl hg2 hM2).1⟩

set_option maxHeartbeats 2000000 in
theorem getHello_any (S : ByteArray) (hf : bfits S.size) (w : World) :
    Calls Try.prog 35 #[.string S, .func (.func 36) #[] #[]] w (ValPost (.tuple #[.agg (gHe S).1.cells.toArray, .int .i64 (gHe S).2]) w) := by
  have hS := (St.start w).box1 #[.int .i64 0, .int .i64 0, .int .i64 0, .string ⟨#[]⟩] 61
  obtain ⟨r, hr⟩ : ∃ r, heR S.data.toList ⟨0, 0⟩ = r := ⟨_, rfl⟩
  have HF := Lib.hid hf
  have HR := Lib.hid hr
  clear hf hr
  by_cases hq : (rend S.data.toList r.2).wr = 0
  · have hb : ((rend S.data.toList r.2).wr == 0) = true := by simpa using hq
    have HE : Hid (gHe S = (r.1, 0)) := by show got _ _ _ = _; rw [HR.out, got, if_pos hq]
    clear hq
    go_enter Try.func35, Try.ntmps35
    go_wp2_with fail
    generalize w.alloc (.cells #[.int .i64 0, .int .i64 0, .int .i64 0, .string ⟨#[]⟩] 61) = W at *
    generalize w.heap.size = rb at *
    refine (rread_st hS S HF.out).mono ?_
    clear hS
    rintro e w1 ⟨pb, rfl, hS⟩
    go_wp2_with fail
    have hT := takeHello_st hS
    rw [HR.out] at hT
    refine hT.mono ?_
    clear hS hT
    rintro e w2 ⟨rfl, hS⟩
    have hS := hS.box1 #[.int .i64 0, .int .i64 0, .int .i64 0, .string ⟨#[]⟩] 61
    go_wp2_with ((with_reducible refine at_list ?_); refine wpList_store_whole 4 sizeHe w2.heap.size rfl _ _ (hS.box 0 rfl) rfl r.1.cells rfl rfl (by kernel_rfl) ?_; intro w3 hg3 hM3 hz3; have hS := hS.rebox 0 rfl hg3 hM3; simp only [List.set_cons_zero] at hS; generalize w2.heap.size = tb at hS ⊢; clear hg3 hM3 hz3)
    refine (rend_st hS 1 rfl).mono ?_
    clear hS
    rintro e w4 ⟨rfl, hS⟩
    simp only [List.set_cons_succ, List.set_cons_zero] at hS
    go_wp2_with (first | ((with_reducible refine at_list ?_); refine wpList_load_chunk 4 _ Try.underlying61 rfl sizeHe ⟨tb, 0, none⟩ rfl r.1.cells rfl (box_chunk (hS.box 0 rfl)) ?_) | ((with_reducible refine at_list ?_); refine wpList_store_whole 4 sizeHe rb rfl _ _ (hS.box 2 rfl) rfl r.1.cells rfl rfl (by kernel_rfl) ?_; intro w5 hg5 hM5 hz5))
    refine bodyPost_ret (results_cell_tmp rfl _ w5 rb _ _ _ _ rfl hg5 Try.underlying61 rfl sizeHe) rfl ?_
    have hS2 := hS.rebox 2 rfl hg5 hM5
    refine ⟨?_, hS2.1⟩
    rw [HE.out]; rfl
  · have hb : ((rend S.data.toList r.2).wr == 0) = false := by simpa using hq
    have HE : Hid (gHe S = (He.zero, 120)) := by show got _ _ _ = _; rw [HR.out, got, if_neg hq]
    clear hq
    go_enter Try.func35, Try.ntmps35
    go_wp2_with fail
    generalize w.alloc (.cells #[.int .i64 0, .int .i64 0, .int .i64 0, .string ⟨#[]⟩] 61) = W at *
    generalize w.heap.size = rb at *
    refine (rread_st hS S HF.out).mono ?_
    clear hS
    rintro e w1 ⟨pb, rfl, hS⟩
    go_wp2_with fail
    have hT := takeHello_st hS
    rw [HR.out] at hT
    refine hT.mono ?_
    clear hS hT
    rintro e w2 ⟨rfl, hS⟩
    have hS := hS.box1 #[.int .i64 0, .int .i64 0, .int .i64 0, .string ⟨#[]⟩] 61
    go_wp2_with ((with_reducible refine at_list ?_); refine wpList_store_whole 4 sizeHe w2.heap.size rfl _ _ (hS.box 0 rfl) rfl r.1.cells rfl rfl (by kernel_rfl) ?_; intro w3 hg3 hM3 hz3; have hS := hS.rebox 0 rfl hg3 hM3; simp only [List.set_cons_zero] at hS; generalize w2.heap.size = tb at hS ⊢; clear hg3 hM3 hz3)
    refine (rend_st hS 1 rfl).mono ?_
    clear hS
    rintro e w4 ⟨rfl, hS⟩
    simp only [List.set_cons_succ, List.set_cons_zero] at hS
    have hS := hS.box1 #[.int .i64 0, .int .i64 0, .int .i64 0, .string ⟨#[]⟩] 61
    go_wp2_with (first | ((with_reducible refine at_list ?_); refine wpList_load_chunk 4 _ Try.underlying61 rfl sizeHe ⟨w4.heap.size, 0, none⟩ rfl He.zero.cells rfl (box_chunk (hS.box 0 rfl)) ?_) | ((with_reducible refine at_list ?_); refine wpList_store_whole 4 sizeHe rb rfl _ _ (hS.box 3 rfl) rfl He.zero.cells rfl rfl (by kernel_rfl) ?_; intro w5 hg5 hM5 hz5))
    refine bodyPost_ret (results_cell_tmp rfl _ w5 rb _ _ _ _ rfl hg5 Try.underlying61 rfl sizeHe) rfl ?_
    have hS2 := hS.rebox 3 rfl hg5 hM5
    refine ⟨?_, hS2.1⟩
    rw [HE.out]; rfl

set_option maxHeartbeats 2000000 in
theorem GetHello_any (S : ByteArray) (hf : bfits S.size) (w : World) :
    Calls Try.prog 14 #[.string S] w (ValPost (.tuple #[.agg (gHe S).1.cells.toArray, .int .i64 (gHe S).2]) w) := by
  have hS := (St.start w).box1 #[.int .i64 0, .int .i64 0, .int .i64 0, .string ⟨#[]⟩] 61
  go_enter Try.func14, Try.ntmps14
  go_wp2_with fail
  generalize w.alloc (.cells #[.int .i64 0, .int .i64 0, .int .i64 0, .string ⟨#[]⟩] 61) = W at *
  generalize w.heap.size = rb at *
  refine (getHello_any S hf W).mono ?_
  generalize gHe S = r at *
  rintro e w1 ⟨rfl, hM⟩
  have hS := hS.mod hM
  go_wp2_with ((with_reducible refine at_list ?_); refine wpList_store_whole 4 sizeHe rb rfl _ _ (hS.box 0 rfl) rfl r.1.cells rfl rfl (by kernel_rfl) ?_; intro w2 hg2 hM2 hz2)
  refine bodyPost_ret (results_cell_tmp rfl _ w2 rb _ _ _ _ rfl hg2 Try.underlying61 rfl sizeHe) rfl ?_
  exact ⟨rfl, (hS.rebox 0 rfl hg2 hM2).1⟩

set_option maxHeartbeats 2000000 in
theorem getNote_any (S : ByteArray) (hf : bfits S.size) (w : World) :
    Calls Try.prog 37 #[.string S, .func (.func 38) #[] #[]] w (ValPost (.tuple #[.agg (gNo S).1.cells.toArray, .int .i64 (gNo S).2]) w) := by
  have hS := (St.start w).box1 #[.int .i64 0, .int .i64 0, .int .i64 0, .int .i64 0, .int .i64 0, .int .i64 0] 65
  obtain ⟨r, hr⟩ : ∃ r, noR S.data.toList ⟨0, 0⟩ = r := ⟨_, rfl⟩
  have HF := Lib.hid hf
  have HR := Lib.hid hr
  clear hf hr
  by_cases hq : (rend S.data.toList r.2).wr = 0
  · have hb : ((rend S.data.toList r.2).wr == 0) = true := by simpa using hq
    have HE : Hid (gNo S = (r.1, 0)) := by show got _ _ _ = _; rw [HR.out, got, if_pos hq]
    clear hq
    go_enter Try.func37, Try.ntmps37
    go_wp2_with fail
    generalize w.alloc (.cells #[.int .i64 0, .int .i64 0, .int .i64 0, .int .i64 0, .int .i64 0, .int .i64 0] 65) = W at *
    generalize w.heap.size = rb at *
    refine (rread_st hS S HF.out).mono ?_
    clear hS
    rintro e w1 ⟨pb, rfl, hS⟩
    go_wp2_with fail
    have hT := takeNote_st hS
    rw [HR.out] at hT
    refine hT.mono ?_
    clear hS hT
    rintro e w2 ⟨rfl, hS⟩
    have hS := hS.box1 #[.int .i64 0, .int .i64 0, .int .i64 0, .int .i64 0, .int .i64 0, .int .i64 0] 65
    go_wp2_with ((with_reducible refine at_list ?_); refine wpList_store_whole 6 sizeNo w2.heap.size rfl _ _ (hS.box 0 rfl) rfl r.1.cells rfl rfl (by kernel_rfl) ?_; intro w3 hg3 hM3 hz3; have hS := hS.rebox 0 rfl hg3 hM3; simp only [List.set_cons_zero] at hS; generalize w2.heap.size = tb at hS ⊢; clear hg3 hM3 hz3)
    refine (rend_st hS 1 rfl).mono ?_
    clear hS
    rintro e w4 ⟨rfl, hS⟩
    simp only [List.set_cons_succ, List.set_cons_zero] at hS
    go_wp2_with (first | ((with_reducible refine at_list ?_); refine wpList_load_chunk 6 _ Try.underlying65 rfl sizeNo ⟨tb, 0, none⟩ rfl r.1.cells rfl (box_chunk (hS.box 0 rfl)) ?_) | ((with_reducible refine at_list ?_); refine wpList_store_whole 6 sizeNo rb rfl _ _ (hS.box 2 rfl) rfl r.1.cells rfl rfl (by kernel_rfl) ?_; intro w5 hg5 hM5 hz5))
    refine bodyPost_ret (results_cell_tmp rfl _ w5 rb _ _ _ _ rfl hg5 Try.underlying65 rfl sizeNo) rfl ?_
    have hS2 := hS.rebox 2 rfl hg5 hM5
    refine ⟨?_, hS2.1⟩
    rw [HE.out]; rfl
  · have hb : ((rend S.data.toList r.2).wr == 0) = false := by simpa using hq
    have HE : Hid (gNo S = (No.zero, 120)) := by show got _ _ _ = _; rw [HR.out, got, if_neg hq]
    clear hq
    go_enter Try.func37, Try.ntmps37
    go_wp2_with fail
    generalize w.alloc (.cells #[.int .i64 0, .int .i64 0, .int .i64 0, .int .i64 0, .int .i64 0, .int .i64 0] 65) = W at *
    generalize w.heap.size = rb at *
    refine (rread_st hS S HF.out).mono ?_
    clear hS
    rintro e w1 ⟨pb, rfl, hS⟩
    go_wp2_with fail
    have hT := takeNote_st hS
    rw [HR.out] at hT
    refine hT.mono ?_
    clear hS hT
    rintro e w2 ⟨rfl, hS⟩
    have hS := hS.box1 #[.int .i64 0, .int .i64 0, .int .i64 0, .int .i64 0, .int .i64 0, .int .i64 0] 65
    go_wp2_with ((with_reducible refine at_list ?_); refine wpList_store_whole 6 sizeNo w2.heap.size rfl _ _ (hS.box 0 rfl) rfl r.1.cells rfl rfl (by kernel_rfl) ?_; intro w3 hg3 hM3 hz3; have hS := hS.rebox 0 rfl hg3 hM3; simp only [List.set_cons_zero] at hS; generalize w2.heap.size = tb at hS ⊢; clear hg3 hM3 hz3)
    refine (rend_st hS 1 rfl).mono ?_
    clear hS
    rintro e w4 ⟨rfl, hS⟩
    simp only [List.set_cons_succ, List.set_cons_zero] at hS
    have hS := hS.box1 #[.int .i64 0, .int .i64 0, .int .i64 0, .int .i64 0, .int .i64 0, .int .i64 0] 65
    go_wp2_with (first | ((with_reducible refine at_list ?_); refine wpList_load_chunk 6 _ Try.underlying65 rfl sizeNo ⟨w4.heap.size, 0, none⟩ rfl No.zero.cells rfl (box_chunk (hS.box 0 rfl)) ?_) | ((with_reducible refine at_list ?_); refine wpList_store_whole 6 sizeNo rb rfl _ _ (hS.box 3 rfl) rfl No.zero.cells rfl rfl (by kernel_rfl) ?_; intro w5 hg5 hM5 hz5))
    refine bodyPost_ret (results_cell_tmp rfl _ w5 rb _ _ _ _ rfl hg5 Try.underlying65 rfl sizeNo) rfl ?_
    have hS2 := hS.rebox 3 rfl hg5 hM5
    refine ⟨?_, hS2.1⟩
    rw [HE.out]; rfl

set_option maxHeartbeats 2000000 in
theorem GetNote_any (S : ByteArray) (hf : bfits S.size) (w : World) :
    Calls Try.prog 15 #[.string S] w (ValPost (.tuple #[.agg (gNo S).1.cells.toArray, .int .i64 (gNo S).2]) w) := by
  have hS := (St.start w).box1 #[.int .i64 0, .int .i64 0, .int .i64 0, .int .i64 0, .int .i64 0, .int .i64 0] 65
  go_enter Try.func15, Try.ntmps15
  go_wp2_with fail
  generalize w.alloc (.cells #[.int .i64 0, .int .i64 0, .int .i64 0, .int .i64 0, .int .i64 0, .int .i64 0] 65) = W at *
  generalize w.heap.size = rb at *
  refine (getNote_any S hf W).mono ?_
  generalize gNo S = r at *
  rintro e w1 ⟨rfl, hM⟩
  have hS := hS.mod hM
  go_wp2_with ((with_reducible refine at_list ?_); refine wpList_store_whole 6 sizeNo rb rfl _ _ (hS.box 0 rfl) rfl r.1.cells rfl rfl (by kernel_rfl) ?_; intro w2 hg2 hM2 hz2)
  refine bodyPost_ret (results_cell_tmp rfl _ w2 rb _ _ _ _ rfl hg2 Try.underlying65 rfl sizeNo) rfl ?_
  exact ⟨rfl, (hS.rebox 0 rfl hg2 hM2).1⟩
end

section
open Go.RowKit
set_option linter.unusedSectionVars false
set_option linter.unusedSimpArgs false
set_option linter.unusedVariables false
set_option maxRecDepth 100000

theorem Rd.cellAt {w : World} {b : Nat} {n cap : Nat} {ns : List Int} (h : Rd w 1 (some ⟨b, 0, none⟩) n cap (ic ns)) (k : Nat) {t : Int} (ht : ns[k]? = some t) : w.cell? ⟨b, k, none⟩ = some (.int .i64 t) := by
  obtain ⟨b', o', e, hb, hc⟩ := h.int ht
  simp only [Option.some.injEq, Addr.mk.injEq, and_true] at e
  obtain ⟨rfl, rfl⟩ := e
  rwa [Nat.zero_add] at hc

end

section
open Go.RowKit
set_option linter.unusedSectionVars false
set_option linter.unusedSimpArgs false
set_option linter.unusedVariables false
set_option maxRecDepth 100000

def bsA : ByteArray := ⟨#[6, 2, 47, 97, 14]⟩
def bsB : ByteArray := ⟨#[6, 2, 47, 97, 14, 0]⟩
def evA : Ev := ⟨3, ⟨#[47, 97]⟩, 7⟩
def heA : He := ⟨1, 0, 10, ⟨#[115]⟩⟩
def noA : No := ⟨1, 2, 3, 4, 5, 6⟩
theorem evA_bytes : evA.bytes = [6, 2, 47, 97, 14] := by
  show sevens (zig 3) ++ (sevens 2 ++ [47, 97]) ++ sevens (zig 7) = _
  rw [show zig 3 = 6 from rfl, show zig 7 = 14 from rfl, sevens_small (by omega), sevens_small (by omega), sevens_small (by omega)]; rfl
theorem heA_bytes : heA.bytes = [2, 0, 20, 1, 115] := by
  show (sevens (zig 1) ++ (sevens (zig 0) ++ (sevens (zig 10) ++ []))) ++ (sevens 1 ++ [115]) = _
  rw [show zig 1 = 2 from rfl, show zig 0 = 0 from rfl, show zig 10 = 20 from rfl, sevens_small (by omega), sevens_small (by omega), sevens_small (by omega), sevens_small (by omega)]; rfl
theorem noA_bytes : noA.bytes = [2, 4, 6, 8, 10, 12] := by
  show sevens (zig 1) ++ (sevens (zig 2) ++ (sevens (zig 3) ++ (sevens (zig 4) ++ (sevens (zig 5) ++ (sevens (zig 6) ++ []))))) = _
  rw [show zig 1 = 2 from rfl, show zig 2 = 4 from rfl, show zig 3 = 6 from rfl, show zig 4 = 8 from rfl, show zig 5 = 10 from rfl, show zig 6 = 12 from rfl, sevens_small (by omega), sevens_small (by omega), sevens_small (by omega), sevens_small (by omega), sevens_small (by omega), sevens_small (by omega)]; rfl
theorem gEvA : gEv ⟨#[6, 2, 47, 97, 14]⟩ = (⟨3, ⟨#[47, 97]⟩, 7⟩, 0) := by kernel_rfl
theorem gEvB : gEv ⟨#[6, 2, 47, 97, 14, 0]⟩ = (⟨0, ⟨#[]⟩, 0⟩, 120) := by kernel_rfl

set_option maxHeartbeats 4000000 in
theorem awake_any (w : World) : Calls Try.prog 6 #[] w (ValPost (.bool true) w) := by
  have hS := St.start w
  go_enter Try.func6, Try.ntmps6
  go_wp2_with fail
  have hC := PutEvent_any evA ⟨⟨by decide, by decide⟩, ⟨by decide, by decide⟩, bfits_small (by decide)⟩ w
  rw [evA_bytes] at hC
  refine hC.mono ?_
  clear hC
  rintro e u1 ⟨rfl, hM⟩
  have hS := hS.mod hM
  clear hM
  go_wp2_with fail
  have hC := GetEvent_any ⟨#[6, 2, 47, 97, 14]⟩ (bfits_small (by decide)) u1
  rw [gEvA] at hC
  refine hC.mono ?_
  clear hC
  rintro e u2 ⟨rfl, hM⟩
  have hS := (hS.mod hM).box1 #[.int .i64 0, .string ⟨#[]⟩, .int .i64 0] 57
  go_wp2_with ((with_reducible refine at_list ?_); refine wpList_store_whole 3 sizeEv u2.heap.size rfl _ _ (hS.box 0 rfl) rfl evA.cells rfl rfl (by kernel_rfl) ?_; intro v2 hg hM2 hz; have hS := hS.rebox 0 rfl hg hM2; simp only [List.set_cons_zero] at hS; obtain ⟨b2, hb⟩ : ∃ b, u2.heap.size = b := ⟨_, rfl⟩; rw [hb] at hS ⊢; clear hg hM2 hz hb hM)
  have hC := GetEvent_any ⟨#[6, 2, 47, 97, 14, 0]⟩ (bfits_small (by decide)) v2
  rw [gEvB] at hC
  refine hC.mono ?_
  clear hC
  rintro e u3 ⟨rfl, hM⟩
  have hS := (hS.mod hM).box1 #[.int .i64 0, .string ⟨#[]⟩, .int .i64 0] 57
  go_wp2_with ((with_reducible refine at_list ?_); refine wpList_store_whole 3 sizeEv u3.heap.size rfl _ _ (hS.box 0 rfl) rfl Ev.zero.cells rfl rfl (by kernel_rfl) ?_; intro v3 hg hM2 hz; have hS := hS.rebox 0 rfl hg hM2; simp only [List.set_cons_zero] at hS; obtain ⟨b3, hb⟩ : ∃ b, u3.heap.size = b := ⟨_, rfl⟩; rw [hb] at hS ⊢; clear hg hM2 hz hb hM)
  have hC := PutHello_any heA ⟨⟨by decide, by decide⟩, ⟨by decide, by decide⟩, ⟨by decide, by decide⟩, bfits_small (by decide)⟩ v3
  rw [heA_bytes] at hC
  refine hC.mono ?_
  clear hC
  rintro e u4 ⟨rfl, hM⟩
  have hS := hS.mod hM
  clear hM
  go_wp2_with fail
  have hC := PutNote_any noA ⟨⟨by decide, by decide⟩, ⟨by decide, by decide⟩, ⟨by decide, by decide⟩, ⟨by decide, by decide⟩, ⟨by decide, by decide⟩, ⟨by decide, by decide⟩⟩ u4
  rw [noA_bytes] at hC
  refine hC.mono ?_
  clear hC
  rintro e u5 ⟨rfl, hM⟩
  have hS := hS.mod hM
  have c0 : u5.cell? ⟨b2, 0, none⟩ = some (.int .i64 3) := blk_cell (hS.box 1 rfl) 0 _ rfl
  have c1 : u5.cell? ⟨b2, 1, none⟩ = some (.string ⟨#[47, 97]⟩) := blk_cell (hS.box 1 rfl) 1 _ rfl
  have c2 : u5.cell? ⟨b2, 2, none⟩ = some (.int .i64 7) := blk_cell (hS.box 1 rfl) 2 _ rfl
  have z0 := heap_lt (hS.box 1 rfl)
  have HS := Lib.hid hS
  clear hS hM
  go_wp2
  go_ret
  exact ⟨rfl, HS.out.1⟩
end
end Go.Proofs.Ytmbkbkfcbloafab
