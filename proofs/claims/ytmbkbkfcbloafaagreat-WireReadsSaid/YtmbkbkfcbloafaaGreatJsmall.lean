/-
  The document's take: so many numbers.
  No condition: every law states its own.
  Events, hellos, notes of bytes: package wire's get and Get...
  Conditions: the text fits.
  Events, hellos, notes of bytes: the document's GetEvent, GetHello, GetNote.
  Conditions: the text fits.
  Any bytes as an event, a hello, a note: the law's small is true.
  Conditions: the text fits.
  The law's awake: the chapter's examples are as the document says.
  No condition.
  WireSmall: any event, hello, note: what they are laid as, and what is read of that.
  Conditions: the texts fit.
-/
import Derived.Test.YtmbkbkfcbloafaaGreatWireF
import Derived.Deep.OwnRows
import Derived.StillTailTactics
namespace Go.Proofs.YtmbkbkfcbloafaaGreat
section
open Go.RowKit
set_option linter.unusedSectionVars false
set_option linter.unusedSimpArgs false
set_option linter.unusedVariables false
set_option maxRecDepth 100000

theorem infoInt : (Tryz.prog.info? 3).map (fun i => (i.zero, i.size, i.bytes)) = some (some (.int .i64 0), 1, 8) := by kernel_rfl

def numsR (bs : List UInt8) (s : RS) (n : Nat) : List Int := (List.range n).map (rv bs s)
/-- The row while it is filled: k of n. -/
def tk (bs : List UInt8) (s : RS) (n k : Nat) : Array Value := ((List.range n).map fun i => Value.int .i64 (if i < k then rv bs s i else 0)).toArray
theorem tk_size (bs : List UInt8) (s : RS) (n k : Nat) : (tk bs s n k).size = n := by simp [tk]
theorem tk_get (bs : List UInt8) (s : RS) (n k i : Nat) (h : i < n) : (tk bs s n k)[i]? = some (.int .i64 (if i < k then rv bs s i else 0)) := by
  simp [tk, h]
theorem tk_set (bs : List UInt8) (s : RS) (n k : Nat) : (tk bs s n k).setIfInBounds k (.int .i64 (rv bs s k)) = tk bs s n (k + 1) := by
  apply Array.ext_getElem?
  intro i
  rw [Array.getElem?_setIfInBounds]
  by_cases hi : i < n
  · rw [tk_get bs s n (k + 1) i hi, tk_get bs s n k i hi, tk_size]
    by_cases h : k = i
    · subst h; rw [if_pos rfl, if_pos hi, if_pos (Nat.lt_succ_self k)]
    · rw [if_neg h]
      by_cases h2 : i < k
      · rw [if_pos h2, if_pos (by omega)]
      · rw [if_neg h2, if_neg (by omega)]
  · have e : ∀ k, (tk bs s n k)[i]? = none := fun k => Array.getElem?_eq_none (by rw [tk_size]; omega)
    rw [e, e, tk_size]
    by_cases h : k = i
    · subst h; rw [if_pos rfl, if_neg hi]
    · rw [if_neg h]
theorem tk_zero (bs : List UInt8) (s : RS) (n : Nat) : madeCells #[.int .i64 0] n = tk bs s n 0 := by
  apply Array.ext_getElem?
  intro i
  by_cases hi : i < n
  · rw [tk_get bs s n 0 i hi]
    simp [madeCells, hi, Nat.mod_one]
  · rw [Array.getElem?_eq_none (by rw [size_madeCells]; omega), Array.getElem?_eq_none (by rw [tk_size]; omega)]
theorem tk_full (bs : List UInt8) (s : RS) (n : Nat) : (tk bs s n n).toList = ic (numsR bs s n) := by
  unfold tk ic numsR
  rw [List.map_map]
  simp only [List.map_inj_left]
  intro i hi
  rw [if_pos (List.mem_range.1 hi)]
  rfl

/-- A box of single cells is a slice. -/
theorem St.asSlice {w0 w : World} {l : List Thing} (h : St w0 w l) (i : Nat) {pb : Nat} {c : Array Value} {T : TypeId} (hi : l[i]? = some (bx pb c T)) (n k : Nat) (hn : c.size = n * k) (hm : n ≤ maxLen) :
    St w0 w (l.set i (sl T k (some ⟨pb, 0, none⟩) n n c.toList)) := by
  obtain ⟨F1, ⟨hh, hF⟩, hz, hk⟩ := h.at i hi
  refine hk w _ F1 (Mod.refl _ _) ⟨Sl.new hh hn hm, fun x => ?_⟩ (fun x hx => .inl hx)
  rw [hF]
  simp only [own, Option.map_some, Option.some.injEq]
  exact eq_comm

/-- What take answers. -/
def Took (w0 : World) (bs : List UInt8) (s : RS) (n : Nat) (l : List Thing) (e : Ending) (w' : World) : Prop :=
  ∃ sb, e = .returned (.slice (some ⟨sb, 0, none⟩) n n) ∧ St w0 w' (sl 3 1 (some ⟨sb, 0, none⟩) n n (ic (numsR bs s n)) :: l)

theorem rtake_st {w0 w : World} {l : List Thing} {pb : Nat} {B : ByteArray} {s : RS} (h : St w0 w l) (i : Nat) (hi : l[i]? = some (drt pb B s)) (N : Int) (n : Nat) (hN : N = n) (hn : n ≤ 1000000) :
    Calls Tryz.prog 65 #[.pointer (some ⟨pb, 0, none⟩), .int .i64 N] w (Took w0 B.data.toList s n (l.set i (drt pb B (rs B.data.toList s n)))) := by
  subst hN
  have hil : i < l.length := (List.getElem?_eq_some_iff.1 hi).1
  obtain ⟨inf, hi1, hi2, hi3, hi4⟩ := info_parts infoInt
  have HI := Lib.hid hi
  have HS := Lib.hid h
  have hS := h.box1 (tk B.data.toList s n 0) 3
  rw [← tk_zero B.data.toList s n] at hS
  have HS := Lib.hid hS
  clear h hi hS
  go_enter Tryz.func65, Tryz.ntmps65
  go_wp2_with ((at_make; refine wpList_make_row _ rfl _ _ 24 rfl 3 inf (.int .i64 0) Tryz.underlying24 hi1 hi2 hi3 rfl .i64 .i64 n rfl rfl (by rw [hi4]; omega) (by omega) ?_))
  generalize w.alloc (.cells (madeCells #[.int .i64 0] n) 3) = W at *
  generalize w.heap.size = sb at *
  go_loopg [6] n (fun g y wr => ∃ k : Nat, k + g = n ∧ y = .int .i64 k ∧ St w0 wr (bx sb (tk B.data.toList s n k) 3 :: l.set i (drt pb B (rs B.data.toList s k))))
  case atStart =>
    refine ⟨0, by omega, rfl, ?_⟩
    have e : l.set i (drt pb B (rs B.data.toList s 0)) = l := set_self HI.out
    rw [e, ← tk_zero]; exact HS.out
  case round =>
    obtain ⟨k, hkg, rfl, hS⟩ := hrel
    by_cases hlt : k < n
    · go_wp2_with fail
      refine (dnum_st hS (i + 1) (by rw [List.getElem?_cons_succ, List.getElem?_set_self hil])).mono ?_
      clear hS
      rintro e w1 ⟨rfl, hS⟩
      simp only [List.set_cons_succ, List.set_set] at hS
      have c0 := blk_cell (hS.box 0 rfl) k _ (tk_get B.data.toList s n k k hlt)
      have f0 := blk_free (hS.box 0 rfl) k
      have z0 := heap_lt (hS.box 0 rfl)
      go_wp2
      go_roundg (gk - 1)
      case measure => omega
      case rel =>
        refine ⟨k + 1, by omega, by simp, ?_⟩
        have hS2 := hS.set 0 rfl k (.int .i64 (rv B.data.toList s k))
        simp only [List.set_cons_zero] at hS2
        rw [tk_set] at hS2
        exact hS2
    · have hk : k = n := by omega
      clear hkg hlt
      rw [hk] at hS
      go_wp2
      go_ret
      refine ⟨sb, rfl, ?_⟩
      have hS2 := hS.asSlice 0 rfl n 1 (by rw [tk_size]; omega) (by unfold maxLen; omega)
      simp only [List.set_cons_zero] at hS2
      rw [tk_full] at hS2
      exact hS2
end

section
open Go.RowKit
set_option linter.unusedSectionVars false
set_option linter.unusedSimpArgs false
set_option linter.unusedVariables false
set_option maxRecDepth 100000

/-- What a reader's work is worth: the thing, or none. -/
def got {α : Type} (bs : List UInt8) (z : α) (r : α × RS) : α × Int := if (rend bs r.2).wr = 0 then (r.1, 0) else (z, 120)
def ValPost (v : Value) (w : World) (e : Ending) (w' : World) : Prop := e = .returned v ∧ Mod (fun _ => False) w w'
def Ev.zero : Ev := ⟨0, ⟨#[]⟩, 0⟩
def He.zero : He := ⟨0, 0, 0, ⟨#[]⟩⟩
def No.zero : No := ⟨0, 0, 0, 0, 0, 0⟩
/-- What package wire's Get.. answers. -/
def gEv (S : ByteArray) : Ev × Int := got S.data.toList Ev.zero (evR S.data.toList ⟨0, 0⟩)
def gHe (S : ByteArray) : He × Int := got S.data.toList He.zero (heR S.data.toList ⟨0, 0⟩)
def gNo (S : ByteArray) : No × Int := got S.data.toList No.zero (noR S.data.toList ⟨0, 0⟩)

set_option maxHeartbeats 2000000 in
theorem getEvent_any (S : ByteArray) (hf : bfits S.size) (w : World) :
    Calls Tryz.prog 44 #[.string S, .func (.func 45) #[] #[]] w (ValPost (.tuple #[.agg (gEv S).1.cells.toArray, .int .i64 (gEv S).2]) w) := by
  have hS := (St.start w).box1 #[.int .i64 0, .string ⟨#[]⟩, .int .i64 0] 46
  obtain ⟨r, hr⟩ : ∃ r, evR S.data.toList ⟨0, 0⟩ = r := ⟨_, rfl⟩
  have HF := Lib.hid hf
  have HR := Lib.hid hr
  clear hf hr
  by_cases hq : (rend S.data.toList r.2).wr = 0
  · have hb : ((rend S.data.toList r.2).wr == 0) = true := by simpa using hq
    have HE : Hid (gEv S = (r.1, 0)) := by show got _ _ _ = _; rw [HR.out, got, if_pos hq]
    clear hq
    go_enter Tryz.func44, Tryz.ntmps44
    go_wp2_with fail
    generalize w.alloc (.cells #[.int .i64 0, .string ⟨#[]⟩, .int .i64 0] 46) = W at *
    generalize w.heap.size = rb at *
    refine (rread_st hS S HF.out).mono ?_
    clear hS
    rintro e w1 ⟨pb, rfl, hS⟩
    go_wp2_with fail
    have hT := takeEvent_st hS
    rw [HR.out] at hT
    refine hT.mono ?_
    clear hS hT
    rintro e w2 ⟨rfl, hS⟩
    have hS := hS.box1 #[.int .i64 0, .string ⟨#[]⟩, .int .i64 0] 46
    go_wp2_with ((with_reducible refine at_list ?_); refine wpList_store_whole 3 sizeEv w2.heap.size rfl _ _ (hS.box 0 rfl) rfl r.1.cells rfl rfl (by kernel_rfl) ?_; intro w3 hg3 hM3 hz3; have hS := hS.rebox 0 rfl hg3 hM3; simp only [List.set_cons_zero] at hS; generalize w2.heap.size = tb at hS ⊢; clear hg3 hM3 hz3)
    refine (rend_st hS 1 rfl).mono ?_
    clear hS
    rintro e w4 ⟨rfl, hS⟩
    simp only [List.set_cons_succ, List.set_cons_zero] at hS
    go_wp2_with (first | ((with_reducible refine at_list ?_); refine wpList_load_chunk 3 _ Tryz.underlying46 rfl sizeEv ⟨tb, 0, none⟩ rfl r.1.cells rfl (box_chunk (hS.box 0 rfl)) ?_) | ((with_reducible refine at_list ?_); refine wpList_store_whole 3 sizeEv rb rfl _ _ (hS.box 2 rfl) rfl r.1.cells rfl rfl (by kernel_rfl) ?_; intro w5 hg5 hM5 hz5))
    refine bodyPost_ret (results_cell_tmp rfl _ w5 rb _ _ _ _ rfl hg5 Tryz.underlying46 rfl sizeEv) rfl ?_
    have hS2 := hS.rebox 2 rfl hg5 hM5
    refine ⟨?_, hS2.1⟩
    rw [HE.out]; rfl
  · have hb : ((rend S.data.toList r.2).wr == 0) = false := by simpa using hq
    have HE : Hid (gEv S = (Ev.zero, 120)) := by show got _ _ _ = _; rw [HR.out, got, if_neg hq]
    clear hq
    go_enter Tryz.func44, Tryz.ntmps44
    go_wp2_with fail
    generalize w.alloc (.cells #[.int .i64 0, .string ⟨#[]⟩, .int .i64 0] 46) = W at *
    generalize w.heap.size = rb at *
    refine (rread_st hS S HF.out).mono ?_
    clear hS
    rintro e w1 ⟨pb, rfl, hS⟩
    go_wp2_with fail
    have hT := takeEvent_st hS
    rw [HR.out] at hT
    refine hT.mono ?_
    clear hS hT
    rintro e w2 ⟨rfl, hS⟩
    have hS := hS.box1 #[.int .i64 0, .string ⟨#[]⟩, .int .i64 0] 46
    go_wp2_with ((with_reducible refine at_list ?_); refine wpList_store_whole 3 sizeEv w2.heap.size rfl _ _ (hS.box 0 rfl) rfl r.1.cells rfl rfl (by kernel_rfl) ?_; intro w3 hg3 hM3 hz3; have hS := hS.rebox 0 rfl hg3 hM3; simp only [List.set_cons_zero] at hS; generalize w2.heap.size = tb at hS ⊢; clear hg3 hM3 hz3)
    refine (rend_st hS 1 rfl).mono ?_
    clear hS
    rintro e w4 ⟨rfl, hS⟩
    simp only [List.set_cons_succ, List.set_cons_zero] at hS
    have hS := hS.box1 #[.int .i64 0, .string ⟨#[]⟩, .int .i64 0] 46
    go_wp2_with (first | ((with_reducible refine at_list ?_); refine wpList_load_chunk 3 _ Tryz.underlying46 rfl sizeEv ⟨w4.heap.size, 0, none⟩ rfl Ev.zero.cells rfl (box_chunk (hS.box 0 rfl)) ?_) | ((with_reducible refine at_list ?_); refine wpList_store_whole 3 sizeEv rb rfl _ _ (hS.box 3 rfl) rfl Ev.zero.cells rfl rfl (by kernel_rfl) ?_; intro w5 hg5 hM5 hz5))
    refine bodyPost_ret (results_cell_tmp rfl _ w5 rb _ _ _ _ rfl hg5 Tryz.underlying46 rfl sizeEv) rfl ?_
    have hS2 := hS.rebox 3 rfl hg5 hM5
    refine ⟨?_, hS2.1⟩
    rw [HE.out]; rfl

set_option maxHeartbeats 2000000 in
theorem GetEvent_any (S : ByteArray) (hf : bfits S.size) (w : World) :
    Calls Tryz.prog 16 #[.string S] w (ValPost (.tuple #[.agg (gEv S).1.cells.toArray, .int .i64 (gEv S).2]) w) := by
  have hS := (St.start w).box1 #[.int .i64 0, .string ⟨#[]⟩, .int .i64 0] 46
  go_enter Tryz.func16, Tryz.ntmps16
  go_wp2_with fail
  generalize w.alloc (.cells #[.int .i64 0, .string ⟨#[]⟩, .int .i64 0] 46) = W at *
  generalize w.heap.size = rb at *
  refine (getEvent_any S hf W).mono ?_
  generalize gEv S = r at *
  rintro e w1 ⟨rfl, hM⟩
  have hS := hS.mod hM
  go_wp2_with ((with_reducible refine at_list ?_); refine wpList_store_whole 3 sizeEv rb rfl _ _ (hS.box 0 rfl) rfl r.1.cells rfl rfl (by kernel_rfl) ?_; intro w2 hg2 hM2 hz2)
  refine bodyPost_ret (results_cell_tmp rfl _ w2 rb _ _ _ _ rfl hg2 Tryz.underlying46 rfl sizeEv) rfl ?_
  exact ⟨rfl, (hS.rebox 0 rfl hg2 hM2).1⟩

set_option maxHeartbeats 2000000 in
theorem getHello_any (S : ByteArray) (hf : bfits S.size) (w : World) :
    Calls Tryz.prog 70 #[.string S, .func (.func 71) #[] #[]] w (ValPost (.tuple #[.agg (gHe S).1.cells.toArray, .int .i64 (gHe S).2]) w) := by
  have hS := (St.start w).box1 #[.int .i64 0, .int .i64 0, .int .i64 0, .string ⟨#[]⟩] 51
  obtain ⟨r, hr⟩ : ∃ r, heR S.data.toList ⟨0, 0⟩ = r := ⟨_, rfl⟩
  have HF := Lib.hid hf
  have HR := Lib.hid hr
  clear hf hr
  by_cases hq : (rend S.data.toList r.2).wr = 0
  · have hb : ((rend S.data.toList r.2).wr == 0) = true := by simpa using hq
    have HE : Hid (gHe S = (r.1, 0)) := by show got _ _ _ = _; rw [HR.out, got, if_pos hq]
    clear hq
    go_enter Tryz.func70, Tryz.ntmps70
    go_wp2_with fail
    generalize w.alloc (.cells #[.int .i64 0, .int .i64 0, .int .i64 0, .string ⟨#[]⟩] 51) = W at *
    generalize w.heap.size = rb at *
    refine (rread_st hS S HF.out).mono ?_
    clear hS
    rintro e w1 ⟨pb, rfl, hS⟩
    go_wp2_with fail
    have hT := takeHello_st hS
    rw [HR.out] at hT
    refine hT.mono ?_
    clear hS hT
    rintro e w2 ⟨rfl, hS⟩
    have hS := hS.box1 #[.int .i64 0, .int .i64 0, .int .i64 0, .string ⟨#[]⟩] 51
    go_wp2_with ((with_reducible refine at_list ?_); refine wpList_store_whole 4 sizeHe w2.heap.size rfl _ _ (hS.box 0 rfl) rfl r.1.cells rfl rfl (by kernel_rfl) ?_; intro w3 hg3 hM3 hz3; have hS := hS.rebox 0 rfl hg3 hM3; simp only [List.set_cons_zero] at hS; generalize w2.heap.size = tb at hS ⊢; clear hg3 hM3 hz3)
    refine (rend_st hS 1 rfl).mono ?_
    clear hS
    rintro e w4 ⟨rfl, hS⟩
    simp only [List.set_cons_succ, List.set_cons_zero] at hS
    go_wp2_with (first | ((with_reducible refine at_list ?_); refine wpList_load_chunk 4 _ Tryz.underlying51 rfl sizeHe ⟨tb, 0, none⟩ rfl r.1.cells rfl (box_chunk (hS.box 0 rfl)) ?_) | ((with_reducible refine at_list ?_); refine wpList_store_whole 4 sizeHe rb rfl _ _ (hS.box 2 rfl) rfl r.1.cells rfl rfl (by kernel_rfl) ?_; intro w5 hg5 hM5 hz5))
    refine bodyPost_ret (results_cell_tmp rfl _ w5 rb _ _ _ _ rfl hg5 Tryz.underlying51 rfl sizeHe) rfl ?_
    have hS2 := hS.rebox 2 rfl hg5 hM5
    refine ⟨?_, hS2.1⟩
    rw [HE.out]; rfl
  · have hb : ((rend S.data.toList r.2).wr == 0) = false := by simpa using hq
    have HE : Hid (gHe S = (He.zero, 120)) := by show got _ _ _ = _; rw [HR.out, got, if_neg hq]
    clear hq
    go_enter Tryz.func70, Tryz.ntmps70
    go_wp2_with fail
    generalize w.alloc (.cells #[.int .i64 0, .int .i64 0, .int .i64 0, .string ⟨#[]⟩] 51) = W at *
    generalize w.heap.size = rb at *
    refine (rread_st hS S HF.out).mono ?_
    clear hS
    rintro e w1 ⟨pb, rfl, hS⟩
    go_wp2_with fail
    have hT := takeHello_st hS
    rw [HR.out] at hT
    refine hT.mono ?_
    clear hS hT
    rintro e w2 ⟨rfl, hS⟩
    have hS := hS.box1 #[.int .i64 0, .int .i64 0, .int .i64 0, .string ⟨#[]⟩] 51
    go_wp2_with ((with_reducible refine at_list ?_); refine wpList_store_whole 4 sizeHe w2.heap.size rfl _ _ (hS.box 0 rfl) rfl r.1.cells rfl rfl (by kernel_rfl) ?_; intro w3 hg3 hM3 hz3; have hS := hS.rebox 0 rfl hg3 hM3; simp only [List.set_cons_zero] at hS; generalize w2.heap.size = tb at hS ⊢; clear hg3 hM3 hz3)
    refine (rend_st hS 1 rfl).mono ?_
    clear hS
    rintro e w4 ⟨rfl, hS⟩
    simp only [List.set_cons_succ, List.set_cons_zero] at hS
    have hS := hS.box1 #[.int .i64 0, .int .i64 0, .int .i64 0, .string ⟨#[]⟩] 51
    go_wp2_with (first | ((with_reducible refine at_list ?_); refine wpList_load_chunk 4 _ Tryz.underlying51 rfl sizeHe ⟨w4.heap.size, 0, none⟩ rfl He.zero.cells rfl (box_chunk (hS.box 0 rfl)) ?_) | ((with_reducible refine at_list ?_); refine wpList_store_whole 4 sizeHe rb rfl _ _ (hS.box 3 rfl) rfl He.zero.cells rfl rfl (by kernel_rfl) ?_; intro w5 hg5 hM5 hz5))
    refine bodyPost_ret (results_cell_tmp rfl _ w5 rb _ _ _ _ rfl hg5 Tryz.underlying51 rfl sizeHe) rfl ?_
    have hS2 := hS.rebox 3 rfl hg5 hM5
    refine ⟨?_, hS2.1⟩
    rw [HE.out]; rfl

set_option maxHeartbeats 2000000 in
theorem GetHello_any (S : ByteArray) (hf : bfits S.size) (w : World) :
    Calls Tryz.prog 31 #[.string S] w (ValPost (.tuple #[.agg (gHe S).1.cells.toArray, .int .i64 (gHe S).2]) w) := by
  have hS := (St.start w).box1 #[.int .i64 0, .int .i64 0, .int .i64 0, .string ⟨#[]⟩] 51
  go_enter Tryz.func31, Tryz.ntmps31
  go_wp2_with fail
  generalize w.alloc (.cells #[.int .i64 0, .int .i64 0, .int .i64 0, .string ⟨#[]⟩] 51) = W at *
  generalize w.heap.size = rb at *
  refine (getHello_any S hf W).mono ?_
  generalize gHe S = r at *
  rintro e w1 ⟨rfl, hM⟩
  have hS := hS.mod hM
  go_wp2_with ((with_reducible refine at_list ?_); refine wpList_store_whole 4 sizeHe rb rfl _ _ (hS.box 0 rfl) rfl r.1.cells rfl rfl (by kernel_rfl) ?_; intro w2 hg2 hM2 hz2)
  refine bodyPost_ret (results_cell_tmp rfl _ w2 rb _ _ _ _ rfl hg2 Tryz.underlying51 rfl sizeHe) rfl ?_
  exact ⟨rfl, (hS.rebox 0 rfl hg2 hM2).1⟩

set_option maxHeartbeats 2000000 in
theorem getNote_any (S : ByteArray) (hf : bfits S.size) (w : World) :
    Calls Tryz.prog 72 #[.string S, .func (.func 73) #[] #[]] w (ValPost (.tuple #[.agg (gNo S).1.cells.toArray, .int .i64 (gNo S).2]) w) := by
  have hS := (St.start w).box1 #[.int .i64 0, .int .i64 0, .int .i64 0, .int .i64 0, .int .i64 0, .int .i64 0] 54
  obtain ⟨r, hr⟩ : ∃ r, noR S.data.toList ⟨0, 0⟩ = r := ⟨_, rfl⟩
  have HF := Lib.hid hf
  have HR := Lib.hid hr
  clear hf hr
  by_cases hq : (rend S.data.toList r.2).wr = 0
  · have hb : ((rend S.data.toList r.2).wr == 0) = true := by simpa using hq
    have HE : Hid (gNo S = (r.1, 0)) := by show got _ _ _ = _; rw [HR.out, got, if_pos hq]
    clear hq
    go_enter Tryz.func72, Tryz.ntmps72
    go_wp2_with fail
    generalize w.alloc (.cells #[.int .i64 0, .int .i64 0, .int .i64 0, .int .i64 0, .int .i64 0, .int .i64 0] 54) = W at *
    generalize w.heap.size = rb at *
    refine (rread_st hS S HF.out).mono ?_
    clear hS
    rintro e w1 ⟨pb, rfl, hS⟩
    go_wp2_with fail
    have hT := takeNote_st hS
    rw [HR.out] at hT
    refine hT.mono ?_
    clear hS hT
    rintro e w2 ⟨rfl, hS⟩
    have hS := hS.box1 #[.int .i64 0, .int .i64 0, .int .i64 0, .int .i64 0, .int .i64 0, .int .i64 0] 54
    go_wp2_with ((with_reducible refine at_list ?_); refine wpList_store_whole 6 sizeNo w2.heap.size rfl _ _ (hS.box 0 rfl) rfl r.1.cells rfl rfl (by kernel_rfl) ?_; intro w3 hg3 hM3 hz3; have hS := hS.rebox 0 rfl hg3 hM3; simp only [List.set_cons_zero] at hS; generalize w2.heap.size = tb at hS ⊢; clear hg3 hM3 hz3)
    refine (rend_st hS 1 rfl).mono ?_
    clear hS
    rintro e w4 ⟨rfl, hS⟩
    simp only [List.set_cons_succ, List.set_cons_zero] at hS
    go_wp2_with (first | ((with_reducible refine at_list ?_); refine wpList_load_chunk 6 _ Tryz.underlying54 rfl sizeNo ⟨tb, 0, none⟩ rfl r.1.cells rfl (box_chunk (hS.box 0 rfl)) ?_) | ((with_reducible refine at_list ?_); refine wpList_store_whole 6 sizeNo rb rfl _ _ (hS.box 2 rfl) rfl r.1.cells rfl rfl (by kernel_rfl) ?_; intro w5 hg5 hM5 hz5))
    refine bodyPost_ret (results_cell_tmp rfl _ w5 rb _ _ _ _ rfl hg5 Tryz.underlying54 rfl sizeNo) rfl ?_
    have hS2 := hS.rebox 2 rfl hg5 hM5
    refine ⟨?_, hS2.1⟩
    rw [HE.out]; rfl
  · have hb : ((rend S.data.toList r.2).wr == 0) = false := by simpa using hq
    have HE : Hid (gNo S = (No.zero, 120)) := by show got _ _ _ = _; rw [HR.out, got, if_neg hq]
    clear hq
    go_enter Tryz.func72, Tryz.ntmps72
    go_wp2_with fail
    generalize w.alloc (.cells #[.int .i64 0, .int .i64 0, .int .i64 0, .int .i64 0, .int .i64 0, .int .i64 0] 54) = W at *
    generalize w.heap.size = rb at *
    refine (rread_st hS S HF.out).mono ?_
    clear hS
    rintro e w1 ⟨pb, rfl, hS⟩
    go_wp2_with fail
    have hT := takeNote_st hS
    rw [HR.out] at hT
    refine hT.mono ?_
    clear hS hT
    rintro e w2 ⟨rfl, hS⟩
    have hS := hS.box1 #[.int .i64 0, .int .i64 0, .int .i64 0, .int .i64 0, .int .i64 0, .int .i64 0] 54
    go_wp2_with ((with_reducible refine at_list ?_); refine wpList_store_whole 6 sizeNo w2.heap.size rfl _ _ (hS.box 0 rfl) rfl r.1.cells rfl rfl (by kernel_rfl) ?_; intro w3 hg3 hM3 hz3; have hS := hS.rebox 0 rfl hg3 hM3; simp only [List.set_cons_zero] at hS; generalize w2.heap.size = tb at hS ⊢; clear hg3 hM3 hz3)
    refine (rend_st hS 1 rfl).mono ?_
    clear hS
    rintro e w4 ⟨rfl, hS⟩
    simp only [List.set_cons_succ, List.set_cons_zero] at hS
    have hS := hS.box1 #[.int .i64 0, .int .i64 0, .int .i64 0, .int .i64 0, .int .i64 0, .int .i64 0] 54
    go_wp2_with (first | ((with_reducible refine at_list ?_); refine wpList_load_chunk 6 _ Tryz.underlying54 rfl sizeNo ⟨w4.heap.size, 0, none⟩ rfl No.zero.cells rfl (box_chunk (hS.box 0 rfl)) ?_) | ((with_reducible refine at_list ?_); refine wpList_store_whole 6 sizeNo rb rfl _ _ (hS.box 3 rfl) rfl No.zero.cells rfl rfl (by kernel_rfl) ?_; intro w5 hg5 hM5 hz5))
    refine bodyPost_ret (results_cell_tmp rfl _ w5 rb _ _ _ _ rfl hg5 Tryz.underlying54 rfl sizeNo) rfl ?_
    have hS2 := hS.rebox 3 rfl hg5 hM5
    refine ⟨?_, hS2.1⟩
    rw [HE.out]; rfl

set_option maxHeartbeats 2000000 in
theorem GetNote_any (S : ByteArray) (hf : bfits S.size) (w : World) :
    Calls Tryz.prog 32 #[.string S] w (ValPost (.tuple #[.agg (gNo S).1.cells.toArray, .int .i64 (gNo S).2]) w) := by
  have hS := (St.start w).box1 #[.int .i64 0, .int .i64 0, .int .i64 0, .int .i64 0, .int .i64 0, .int .i64 0] 54
  go_enter Tryz.func32, Tryz.ntmps32
  go_wp2_with fail
  generalize w.alloc (.cells #[.int .i64 0, .int .i64 0, .int .i64 0, .int .i64 0, .int .i64 0, .int .i64 0] 54) = W at *
  generalize w.heap.size = rb at *
  refine (getNote_any S hf W).mono ?_
  generalize gNo S = r at *
  rintro e w1 ⟨rfl, hM⟩
  have hS := hS.mod hM
  go_wp2_with ((with_reducible refine at_list ?_); refine wpList_store_whole 6 sizeNo rb rfl _ _ (hS.box 0 rfl) rfl r.1.cells rfl rfl (by kernel_rfl) ?_; intro w2 hg2 hM2 hz2)
  refine bodyPost_ret (results_cell_tmp rfl _ w2 rb _ _ _ _ rfl hg2 Tryz.underlying54 rfl sizeNo) rfl ?_
  exact ⟨rfl, (hS.rebox 0 rfl hg2 hM2).1⟩
end

section
open Go.RowKit
set_option linter.unusedSectionVars false
set_option linter.unusedSimpArgs false
set_option linter.unusedVariables false
set_option maxRecDepth 100000

theorem St.asDr {w0 w : World} {l : List Thing} (h : St w0 w l) (i : Nat) {pb : Nat} (B : ByteArray) (hf : bfits B.size) (hi : l[i]? = some (bx pb #[.string B, .int .i64 0, .int .i64 0] 96)) :
    St w0 w (l.set i (drt pb B ⟨0, 0⟩)) := by
  obtain ⟨F1, ⟨hh, hF⟩, hz, hk⟩ := h.at i hi
  exact hk w _ F1 (Mod.refl _ _) ⟨⟨hh, ⟨Nat.zero_le _, .inl rfl⟩, hf⟩, hF⟩ (fun x hx => .inl hx)

theorem Rd.cellAt {w : World} {b : Nat} {n cap : Nat} {ns : List Int} (h : Rd w 1 (some ⟨b, 0, none⟩) n cap (ic ns)) (k : Nat) {t : Int} (ht : ns[k]? = some t) : w.cell? ⟨b, k, none⟩ = some (.int .i64 t) := by
  obtain ⟨b', o', e, hb, hc⟩ := h.int ht
  simp only [Option.some.injEq, Addr.mk.injEq, and_true] at e
  obtain ⟨rfl, rfl⟩ := e
  rwa [Nat.zero_add] at hc

set_option maxHeartbeats 2000000 in
theorem rGetEvent_any (S : ByteArray) (hf : bfits S.size) (w : World) :
    Calls Tryz.prog 33 #[.string S] w (ValPost (.tuple #[.agg (gEv S).1.cells.toArray, .int .i64 (gEv S).2]) w) := by
  have hS := ((St.start w).box1 #[.int .i64 0, .string ⟨#[]⟩, .int .i64 0] 46).box1 #[.string S, .int .i64 0, .int .i64 0] 96
  rw [World.size_alloc] at hS
  have HF := Lib.hid hf
  clear hf
  by_cases hq : (rend S.data.toList (evR S.data.toList ⟨0, 0⟩).2).wr = 0
  · have hb : ((rend S.data.toList (evR S.data.toList ⟨0, 0⟩).2).wr == 0) = true := by simpa using hq
    have HE : Hid (gEv S = ((evR S.data.toList ⟨0, 0⟩).1, 0)) := by show got _ _ _ = _; rw [got, if_pos hq]
    clear hq
    go_enter Tryz.func33, Tryz.ntmps33
    go_wp2_with fail
    generalize (w.alloc (.cells #[.int .i64 0, .string ⟨#[]⟩, .int .i64 0] 46)).alloc (.cells #[.string S, .int .i64 0, .int .i64 0] 96) = W at *
    generalize w.heap.size = rb at *
    have hS := hS.asDr 0 S HF.out rfl
    simp only [List.set_cons_succ, List.set_cons_zero] at hS
    refine (dnum_st hS 0 rfl).mono ?_
    clear hS
    rintro e w1 ⟨rfl, hS⟩
    simp only [List.set_cons_succ, List.set_cons_zero] at hS
    go_wp2_with fail
    refine (dtext_st hS 0 rfl 4096 (by omega)).mono ?_
    clear hS
    rintro e w2 ⟨rfl, hS⟩
    simp only [List.set_cons_succ, List.set_cons_zero] at hS
    go_wp2_with fail
    refine (dnum_st hS 0 rfl).mono ?_
    clear hS
    rintro e w3 ⟨rfl, hS⟩
    simp only [List.set_cons_succ, List.set_cons_zero] at hS
    have hS : St w w3 (drt (rb + 1) S (evR S.data.toList ⟨0, 0⟩).2 :: bx rb #[.int .i64 0, .string ⟨#[]⟩, .int .i64 0] 46 :: []) := hS
    go_wp2_with fail
    refine (dend_st hS 0 rfl).mono ?_
    clear hS
    rintro e w4 ⟨rfl, hS⟩
    simp only [List.set_cons_succ, List.set_cons_zero] at hS
    go_wp2_with ((with_reducible refine at_list ?_); refine wpList_store_whole 3 sizeEv rb rfl _ _ (hS.box 1 rfl) rfl (evR S.data.toList ⟨0, 0⟩).1.cells rfl rfl (by kernel_rfl) ?_; intro w5 hg5 hM5 hz5)
    refine bodyPost_ret (results_cell_tmp rfl _ w5 rb _ _ _ _ rfl hg5 Tryz.underlying46 rfl sizeEv) rfl ?_
    have hS2 := hS.rebox 1 rfl hg5 hM5
    refine ⟨?_, hS2.1⟩
    rw [HE.out]; rfl
  · have hb : ((rend S.data.toList (evR S.data.toList ⟨0, 0⟩).2).wr == 0) = false := by simpa using hq
    have HE : Hid (gEv S = (Ev.zero, 120)) := by show got _ _ _ = _; rw [got, if_neg hq]
    clear hq
    go_enter Tryz.func33, Tryz.ntmps33
    go_wp2_with fail
    generalize (w.alloc (.cells #[.int .i64 0, .string ⟨#[]⟩, .int .i64 0] 46)).alloc (.cells #[.string S, .int .i64 0, .int .i64 0] 96) = W at *
    generalize w.heap.size = rb at *
    have hS := hS.asDr 0 S HF.out rfl
    simp only [List.set_cons_succ, List.set_cons_zero] at hS
    refine (dnum_st hS 0 rfl).mono ?_
    clear hS
    rintro e w1 ⟨rfl, hS⟩
    simp only [List.set_cons_succ, List.set_cons_zero] at hS
    go_wp2_with fail
    refine (dtext_st hS 0 rfl 4096 (by omega)).mono ?_
    clear hS
    rintro e w2 ⟨rfl, hS⟩
    simp only [List.set_cons_succ, List.set_cons_zero] at hS
    go_wp2_with fail
    refine (dnum_st hS 0 rfl).mono ?_
    clear hS
    rintro e w3 ⟨rfl, hS⟩
    simp only [List.set_cons_succ, List.set_cons_zero] at hS
    have hS : St w w3 (drt (rb + 1) S (evR S.data.toList ⟨0, 0⟩).2 :: bx rb #[.int .i64 0, .string ⟨#[]⟩, .int .i64 0] 46 :: []) := hS
    go_wp2_with fail
    refine (dend_st hS 0 rfl).mono ?_
    clear hS
    rintro e w4 ⟨rfl, hS⟩
    simp only [List.set_cons_succ, List.set_cons_zero] at hS
    go_wp2_with ((with_reducible refine at_list ?_); refine wpList_store_whole 3 sizeEv rb rfl _ _ (hS.box 1 rfl) rfl Ev.zero.cells rfl rfl (by kernel_rfl) ?_; intro w5 hg5 hM5 hz5)
    refine bodyPost_ret (results_cell_tmp rfl _ w5 rb _ _ _ _ rfl hg5 Tryz.underlying46 rfl sizeEv) rfl ?_
    have hS2 := hS.rebox 1 rfl hg5 hM5
    refine ⟨?_, hS2.1⟩
    rw [HE.out]; rfl

set_option maxHeartbeats 2000000 in
theorem rGetHello_any (S : ByteArray) (hf : bfits S.size) (w : World) :
    Calls Tryz.prog 34 #[.string S] w (ValPost (.tuple #[.agg (gHe S).1.cells.toArray, .int .i64 (gHe S).2]) w) := by
  have hS := ((St.start w).box1 #[.int .i64 0, .int .i64 0, .int .i64 0, .string ⟨#[]⟩] 51).box1 #[.string S, .int .i64 0, .int .i64 0] 96
  rw [World.size_alloc] at hS
  have HF := Lib.hid hf
  clear hf
  by_cases hq : (rend S.data.toList (heR S.data.toList ⟨0, 0⟩).2).wr = 0
  · have hb : ((rend S.data.toList (heR S.data.toList ⟨0, 0⟩).2).wr == 0) = true := by simpa using hq
    have HE : Hid (gHe S = ((heR S.data.toList ⟨0, 0⟩).1, 0)) := by show got _ _ _ = _; rw [got, if_pos hq]
    clear hq
    go_enter Tryz.func34, Tryz.ntmps34
    go_wp2_with fail
    generalize (w.alloc (.cells #[.int .i64 0, .int .i64 0, .int .i64 0, .string ⟨#[]⟩] 51)).alloc (.cells #[.string S, .int .i64 0, .int .i64 0] 96) = W at *
    generalize w.heap.size = rb at *
    have hS := hS.asDr 0 S HF.out rfl
    simp only [List.set_cons_succ, List.set_cons_zero] at hS
    refine (rtake_st hS 0 rfl 3 3 rfl (by omega)).mono ?_
    clear hS
    rintro e w1 ⟨sb, rfl, hS⟩
    simp only [List.set_cons_succ, List.set_cons_zero] at hS
    go_wp2_with fail
    refine (dtext_st hS 1 rfl 4096 (by omega)).mono ?_
    clear hS
    rintro e w2 ⟨rfl, hS⟩
    simp only [List.set_cons_succ, List.set_cons_zero] at hS
    go_wp2_with fail
    have hS : St w w2 (sl 3 1 (some ⟨sb, 0, none⟩) 3 3 (ic (numsR S.data.toList ⟨0, 0⟩ 3)) :: drt (rb + 1) S (heR S.data.toList ⟨0, 0⟩).2 :: bx rb #[.int .i64 0, .int .i64 0, .int .i64 0, .string ⟨#[]⟩] 51 :: []) := hS
    refine (dend_st hS 1 rfl).mono ?_
    clear hS
    rintro e w4 ⟨rfl, hS⟩
    simp only [List.set_cons_succ, List.set_cons_zero] at hS
    have c0 := (hS.slice 0 rfl).rd.cellAt 0 (t := rv S.data.toList ⟨0, 0⟩ 0) rfl
    have c1 := (hS.slice 0 rfl).rd.cellAt 1 (t := rv S.data.toList ⟨0, 0⟩ 1) rfl
    have c2 := (hS.slice 0 rfl).rd.cellAt 2 (t := rv S.data.toList ⟨0, 0⟩ 2) rfl
    go_wp2
    go_still_tail 11, (by kernel_rfl)
    change wpList _ _ _ _ _ w4.drew
    have hS := hS.drew
    refine wpList_store_whole 4 sizeHe rb rfl _ _ (hS.box 2 rfl) rfl (heR S.data.toList ⟨0, 0⟩).1.cells rfl rfl (by kernel_rfl) ?_
    intro w5 hg5 hM5 hz5
    go_wp2
    refine bodyPost_ret (results_cell_tmp rfl _ w5 rb _ _ _ _ rfl hg5 Tryz.underlying51 rfl sizeHe) rfl ?_
    have hS2 := hS.rebox 2 rfl hg5 hM5
    refine ⟨?_, hS2.1⟩
    rw [HE.out]; rfl
  · have hb : ((rend S.data.toList (heR S.data.toList ⟨0, 0⟩).2).wr == 0) = false := by simpa using hq
    have HE : Hid (gHe S = (He.zero, 120)) := by show got _ _ _ = _; rw [got, if_neg hq]
    clear hq
    go_enter Tryz.func34, Tryz.ntmps34
    go_wp2_with fail
    generalize (w.alloc (.cells #[.int .i64 0, .int .i64 0, .int .i64 0, .string ⟨#[]⟩] 51)).alloc (.cells #[.string S, .int .i64 0, .int .i64 0] 96) = W at *
    generalize w.heap.size = rb at *
    have hS := hS.asDr 0 S HF.out rfl
    simp only [List.set_cons_succ, List.set_cons_zero] at hS
    refine (rtake_st hS 0 rfl 3 3 rfl (by omega)).mono ?_
    clear hS
    rintro e w1 ⟨sb, rfl, hS⟩
    simp only [List.set_cons_succ, List.set_cons_zero] at hS
    go_wp2_with fail
    refine (dtext_st hS 1 rfl 4096 (by omega)).mono ?_
    clear hS
    rintro e w2 ⟨rfl, hS⟩
    simp only [List.set_cons_succ, List.set_cons_zero] at hS
    go_wp2_with fail
    have hS : St w w2 (sl 3 1 (some ⟨sb, 0, none⟩) 3 3 (ic (numsR S.data.toList ⟨0, 0⟩ 3)) :: drt (rb + 1) S (heR S.data.toList ⟨0, 0⟩).2 :: bx rb #[.int .i64 0, .int .i64 0, .int .i64 0, .string ⟨#[]⟩] 51 :: []) := hS
    refine (dend_st hS 1 rfl).mono ?_
    clear hS
    rintro e w4 ⟨rfl, hS⟩
    simp only [List.set_cons_succ, List.set_cons_zero] at hS
    go_wp2_with ((with_reducible refine at_list ?_); refine wpList_store_whole 4 sizeHe rb rfl _ _ (hS.box 2 rfl) rfl He.zero.cells rfl rfl (by kernel_rfl) ?_; intro w5 hg5 hM5 hz5)
    refine bodyPost_ret (results_cell_tmp rfl _ w5 rb _ _ _ _ rfl hg5 Tryz.underlying51 rfl sizeHe) rfl ?_
    have hS2 := hS.rebox 2 rfl hg5 hM5
    refine ⟨?_, hS2.1⟩
    rw [HE.out]; rfl

set_option maxHeartbeats 2000000 in
theorem rGetNote_any (S : ByteArray) (hf : bfits S.size) (w : World) :
    Calls Tryz.prog 35 #[.string S] w (ValPost (.tuple #[.agg (gNo S).1.cells.toArray, .int .i64 (gNo S).2]) w) := by
  have hS := ((St.start w).box1 #[.int .i64 0, .int .i64 0, .int .i64 0, .int .i64 0, .int .i64 0, .int .i64 0] 54).box1 #[.string S, .int .i64 0, .int .i64 0] 96
  rw [World.size_alloc] at hS
  have HF := Lib.hid hf
  clear hf
  by_cases hq : (rend S.data.toList (noR S.data.toList ⟨0, 0⟩).2).wr = 0
  · have hb : ((rend S.data.toList (noR S.data.toList ⟨0, 0⟩).2).wr == 0) = true := by simpa using hq
    have HE : Hid (gNo S = ((noR S.data.toList ⟨0, 0⟩).1, 0)) := by show got _ _ _ = _; rw [got, if_pos hq]
    clear hq
    go_enter Tryz.func35, Tryz.ntmps35
    go_wp2_with fail
    generalize (w.alloc (.cells #[.int .i64 0, .int .i64 0, .int .i64 0, .int .i64 0, .int .i64 0, .int .i64 0] 54)).alloc (.cells #[.string S, .int .i64 0, .int .i64 0] 96) = W at *
    generalize w.heap.size = rb at *
    have hS := hS.asDr 0 S HF.out rfl
    simp only [List.set_cons_succ, List.set_cons_zero] at hS
    refine (rtake_st hS 0 rfl 6 6 rfl (by omega)).mono ?_
    clear hS
    rintro e w2 ⟨sb, rfl, hS⟩
    simp only [List.set_cons_succ, List.set_cons_zero] at hS
    go_wp2_with fail
    have hS : St w w2 (sl 3 1 (some ⟨sb, 0, none⟩) 6 6 (ic (numsR S.data.toList ⟨0, 0⟩ 6)) :: drt (rb + 1) S (noR S.data.toList ⟨0, 0⟩).2 :: bx rb #[.int .i64 0, .int .i64 0, .int .i64 0, .int .i64 0, .int .i64 0, .int .i64 0] 54 :: []) := hS
    refine (dend_st hS 1 rfl).mono ?_
    clear hS
    rintro e w4 ⟨rfl, hS⟩
    simp only [List.set_cons_succ, List.set_cons_zero] at hS
    have c0 := (hS.slice 0 rfl).rd.cellAt 0 (t := rv S.data.toList ⟨0, 0⟩ 0) rfl
    have c1 := (hS.slice 0 rfl).rd.cellAt 1 (t := rv S.data.toList ⟨0, 0⟩ 1) rfl
    have c2 := (hS.slice 0 rfl).rd.cellAt 2 (t := rv S.data.toList ⟨0, 0⟩ 2) rfl
    have c3 := (hS.slice 0 rfl).rd.cellAt 3 (t := rv S.data.toList ⟨0, 0⟩ 3) rfl
    have c4 := (hS.slice 0 rfl).rd.cellAt 4 (t := rv S.data.toList ⟨0, 0⟩ 4) rfl
    have c5 := (hS.slice 0 rfl).rd.cellAt 5 (t := rv S.data.toList ⟨0, 0⟩ 5) rfl
    go_wp2
    go_still_tail 19, (by kernel_rfl)
    change wpList _ _ _ _ _ w4.drew
    have hS := hS.drew
    refine wpList_store_whole 6 sizeNo rb rfl _ _ (hS.box 2 rfl) rfl (noR S.data.toList ⟨0, 0⟩).1.cells rfl rfl (by kernel_rfl) ?_
    intro w5 hg5 hM5 hz5
    go_wp2
    refine bodyPost_ret (results_cell_tmp rfl _ w5 rb _ _ _ _ rfl hg5 Tryz.underlying54 rfl sizeNo) rfl ?_
    have hS2 := hS.rebox 2 rfl hg5 hM5
    refine ⟨?_, hS2.1⟩
    rw [HE.out]; rfl
  · have hb : ((rend S.data.toList (noR S.data.toList ⟨0, 0⟩).2).wr == 0) = false := by simpa using hq
    have HE : Hid (gNo S = (No.zero, 120)) := by show got _ _ _ = _; rw [got, if_neg hq]
    clear hq
    go_enter Tryz.func35, Tryz.ntmps35
    go_wp2_with fail
    generalize (w.alloc (.cells #[.int .i64 0, .int .i64 0, .int .i64 0, .int .i64 0, .int .i64 0, .int .i64 0] 54)).alloc (.cells #[.string S, .int .i64 0, .int .i64 0] 96) = W at *
    generalize w.heap.size = rb at *
    have hS := hS.asDr 0 S HF.out rfl
    simp only [List.set_cons_succ, List.set_cons_zero] at hS
    refine (rtake_st hS 0 rfl 6 6 rfl (by omega)).mono ?_
    clear hS
    rintro e w2 ⟨sb, rfl, hS⟩
    simp only [List.set_cons_succ, List.set_cons_zero] at hS
    go_wp2_with fail
    have hS : St w w2 (sl 3 1 (some ⟨sb, 0, none⟩) 6 6 (ic (numsR S.data.toList ⟨0, 0⟩ 6)) :: drt (rb + 1) S (noR S.data.toList ⟨0, 0⟩).2 :: bx rb #[.int .i64 0, .int .i64 0, .int .i64 0, .int .i64 0, .int .i64 0, .int .i64 0] 54 :: []) := hS
    refine (dend_st hS 1 rfl).mono ?_
    clear hS
    rintro e w4 ⟨rfl, hS⟩
    simp only [List.set_cons_succ, List.set_cons_zero] at hS
    go_wp2_with ((with_reducible refine at_list ?_); refine wpList_store_whole 6 sizeNo rb rfl _ _ (hS.box 2 rfl) rfl No.zero.cells rfl rfl (by kernel_rfl) ?_; intro w5 hg5 hM5 hz5)
    refine bodyPost_ret (results_cell_tmp rfl _ w5 rb _ _ _ _ rfl hg5 Tryz.underlying54 rfl sizeNo) rfl ?_
    have hS2 := hS.rebox 2 rfl hg5 hM5
    refine ⟨?_, hS2.1⟩
    rw [HE.out]; rfl
end

section
open Go.RowKit
set_option linter.unusedSectionVars false
set_option linter.unusedSimpArgs false
set_option linter.unusedVariables false
set_option maxRecDepth 100000

set_option maxHeartbeats 4000000 in
theorem small_any (S : ByteArray) (hf : bfits S.size) (w : World) : Calls Tryz.prog 10 #[.string S] w (ValPost (.bool true) w) := by
  have hS := St.start w
  have HF := Lib.hid hf
  clear hf
  obtain ⟨re, hre⟩ : ∃ r, gEv S = r := ⟨_, rfl⟩
  obtain ⟨rh, hrh⟩ : ∃ r, gHe S = r := ⟨_, rfl⟩
  obtain ⟨rn, hrn⟩ : ∃ r, gNo S = r := ⟨_, rfl⟩
  have HE := Lib.hid hre
  have HH := Lib.hid hrh
  have HN := Lib.hid hrn
  clear hre hrh hrn
  go_enter Tryz.func10, Tryz.ntmps10
  go_wp2_with fail
  have hC := GetEvent_any S HF.out w
  rw [HE.out] at hC
  refine hC.mono ?_
  clear hC
  rintro e u1 ⟨rfl, hM⟩
  have hS := (hS.mod hM).box1 #[.int .i64 0, .string ⟨#[]⟩, .int .i64 0] 46
  go_wp2_with ((with_reducible refine at_list ?_); refine wpList_store_whole 3 sizeEv u1.heap.size rfl _ _ (hS.box 0 rfl) rfl re.1.cells rfl rfl (by kernel_rfl) ?_; intro v1 hg hM2 hz; have hS := hS.rebox 0 rfl hg hM2; simp only [List.set_cons_zero] at hS; obtain ⟨b1, hb⟩ : ∃ b, u1.heap.size = b := ⟨_, rfl⟩; rw [hb] at hS ⊢; clear hg hM2 hz hb hM)
  go_wp2_with fail
  have hC := GetHello_any S HF.out v1
  rw [HH.out] at hC
  refine hC.mono ?_
  clear hC
  rintro e u2 ⟨rfl, hM⟩
  have hS := (hS.mod hM).box1 #[.int .i64 0, .int .i64 0, .int .i64 0, .string ⟨#[]⟩] 51
  go_wp2_with ((with_reducible refine at_list ?_); refine wpList_store_whole 4 sizeHe u2.heap.size rfl _ _ (hS.box 0 rfl) rfl rh.1.cells rfl rfl (by kernel_rfl) ?_; intro v2 hg hM2 hz; have hS := hS.rebox 0 rfl hg hM2; simp only [List.set_cons_zero] at hS; obtain ⟨b2, hb⟩ : ∃ b, u2.heap.size = b := ⟨_, rfl⟩; rw [hb] at hS ⊢; clear hg hM2 hz hb hM)
  go_wp2_with fail
  have hC := GetNote_any S HF.out v2
  rw [HN.out] at hC
  refine hC.mono ?_
  clear hC
  rintro e u3 ⟨rfl, hM⟩
  have hS := (hS.mod hM).box1 #[.int .i64 0, .int .i64 0, .int .i64 0, .int .i64 0, .int .i64 0, .int .i64 0] 54
  go_wp2_with ((with_reducible refine at_list ?_); refine wpList_store_whole 6 sizeNo u3.heap.size rfl _ _ (hS.box 0 rfl) rfl rn.1.cells rfl rfl (by kernel_rfl) ?_; intro v3 hg hM2 hz; have hS := hS.rebox 0 rfl hg hM2; simp only [List.set_cons_zero] at hS; obtain ⟨b3, hb⟩ : ∃ b, u3.heap.size = b := ⟨_, rfl⟩; rw [hb] at hS ⊢; clear hg hM2 hz hb hM)
  go_wp2_with fail
  have hC := rGetEvent_any S HF.out v3
  rw [HE.out] at hC
  refine hC.mono ?_
  clear hC
  rintro e u4 ⟨rfl, hM⟩
  have hS := (hS.mod hM).box1 #[.int .i64 0, .string ⟨#[]⟩, .int .i64 0] 46
  go_wp2_with ((with_reducible refine at_list ?_); refine wpList_store_whole 3 sizeEv u4.heap.size rfl _ _ (hS.box 0 rfl) rfl re.1.cells rfl rfl (by kernel_rfl) ?_; intro v4 hg hM2 hz; have hS := hS.rebox 0 rfl hg hM2; simp only [List.set_cons_zero] at hS; obtain ⟨b4, hb⟩ : ∃ b, u4.heap.size = b := ⟨_, rfl⟩; rw [hb] at hS ⊢; clear hg hM2 hz hb hM)
  go_wp2_with fail
  have hC := rGetHello_any S HF.out v4
  rw [HH.out] at hC
  refine hC.mono ?_
  clear hC
  rintro e u5 ⟨rfl, hM⟩
  have hS := (hS.mod hM).box1 #[.int .i64 0, .int .i64 0, .int .i64 0, .string ⟨#[]⟩] 51
  go_wp2_with ((with_reducible refine at_list ?_); refine wpList_store_whole 4 sizeHe u5.heap.size rfl _ _ (hS.box 0 rfl) rfl rh.1.cells rfl rfl (by kernel_rfl) ?_; intro v5 hg hM2 hz; have hS := hS.rebox 0 rfl hg hM2; simp only [List.set_cons_zero] at hS; obtain ⟨b5, hb⟩ : ∃ b, u5.heap.size = b := ⟨_, rfl⟩; rw [hb] at hS ⊢; clear hg hM2 hz hb hM)
  go_wp2_with fail
  have hC := rGetNote_any S HF.out v5
  rw [HN.out] at hC
  refine hC.mono ?_
  clear hC
  rintro e u6 ⟨rfl, hM⟩
  have hS := (hS.mod hM).box1 #[.int .i64 0, .int .i64 0, .int .i64 0, .int .i64 0, .int .i64 0, .int .i64 0] 54
  go_wp2_with ((with_reducible refine at_list ?_); refine wpList_store_whole 6 sizeNo u6.heap.size rfl _ _ (hS.box 0 rfl) rfl rn.1.cells rfl rfl (by kernel_rfl) ?_; intro v6 hg hM2 hz; have hS := hS.rebox 0 rfl hg hM2; simp only [List.set_cons_zero] at hS; obtain ⟨b6, hb⟩ : ∃ b, u6.heap.size = b := ⟨_, rfl⟩; rw [hb] at hS ⊢; clear hg hM2 hz hb hM; have c10 : v6.cell? ⟨b1, 0, none⟩ = some (.int .i64 re.1.kind) := blk_cell (hS.box 5 rfl) 0 _ rfl; have c11 : v6.cell? ⟨b1, 1, none⟩ = some (.string re.1.path) := blk_cell (hS.box 5 rfl) 1 _ rfl; have c12 : v6.cell? ⟨b1, 2, none⟩ = some (.int .i64 re.1.zxid) := blk_cell (hS.box 5 rfl) 2 _ rfl; have z1 := heap_lt (hS.box 5 rfl); have c40 : v6.cell? ⟨b4, 0, none⟩ = some (.int .i64 re.1.kind) := blk_cell (hS.box 2 rfl) 0 _ rfl; have c41 : v6.cell? ⟨b4, 1, none⟩ = some (.string re.1.path) := blk_cell (hS.box 2 rfl) 1 _ rfl; have c42 : v6.cell? ⟨b4, 2, none⟩ = some (.int .i64 re.1.zxid) := blk_cell (hS.box 2 rfl) 2 _ rfl; have z4 := heap_lt (hS.box 2 rfl); have c20 : v6.cell? ⟨b2, 0, none⟩ = some (.int .i64 rh.1.session) := blk_cell (hS.box 4 rfl) 0 _ rfl; have c21 : v6.cell? ⟨b2, 1, none⟩ = some (.int .i64 rh.1.zxid) := blk_cell (hS.box 4 rfl) 1 _ rfl; have c22 : v6.cell? ⟨b2, 2, none⟩ = some (.int .i64 rh.1.timeout) := blk_cell (hS.box 4 rfl) 2 _ rfl; have c23 : v6.cell? ⟨b2, 3, none⟩ = some (.string rh.1.secret) := blk_cell (hS.box 4 rfl) 3 _ rfl; have z2 := heap_lt (hS.box 4 rfl); have c50 : v6.cell? ⟨b5, 0, none⟩ = some (.int .i64 rh.1.session) := blk_cell (hS.box 1 rfl) 0 _ rfl; have c51 : v6.cell? ⟨b5, 1, none⟩ = some (.int .i64 rh.1.zxid) := blk_cell (hS.box 1 rfl) 1 _ rfl; have c52 : v6.cell? ⟨b5, 2, none⟩ = some (.int .i64 rh.1.timeout) := blk_cell (hS.box 1 rfl) 2 _ rfl; have c53 : v6.cell? ⟨b5, 3, none⟩ = some (.string rh.1.secret) := blk_cell (hS.box 1 rfl) 3 _ rfl; have z5 := heap_lt (hS.box 1 rfl); have c30 : v6.cell? ⟨b3, 0, none⟩ = some (.int .i64 rn.1.a) := blk_cell (hS.box 3 rfl) 0 _ rfl; have c31 : v6.cell? ⟨b3, 1, none⟩ = some (.int .i64 rn.1.b) := blk_cell (hS.box 3 rfl) 1 _ rfl; have c32 : v6.cell? ⟨b3, 2, none⟩ = some (.int .i64 rn.1.c) := blk_cell (hS.box 3 rfl) 2 _ rfl; have c33 : v6.cell? ⟨b3, 3, none⟩ = some (.int .i64 rn.1.d) := blk_cell (hS.box 3 rfl) 3 _ rfl; have c34 : v6.cell? ⟨b3, 4, none⟩ = some (.int .i64 rn.1.e) := blk_cell (hS.box 3 rfl) 4 _ rfl; have c35 : v6.cell? ⟨b3, 5, none⟩ = some (.int .i64 rn.1.f) := blk_cell (hS.box 3 rfl) 5 _ rfl; have z3 := heap_lt (hS.box 3 rfl); have c60 : v6.cell? ⟨b6, 0, none⟩ = some (.int .i64 rn.1.a) := blk_cell (hS.box 0 rfl) 0 _ rfl; have c61 : v6.cell? ⟨b6, 1, none⟩ = some (.int .i64 rn.1.b) := blk_cell (hS.box 0 rfl) 1 _ rfl; have c62 : v6.cell? ⟨b6, 2, none⟩ = some (.int .i64 rn.1.c) := blk_cell (hS.box 0 rfl) 2 _ rfl; have c63 : v6.cell? ⟨b6, 3, none⟩ = some (.int .i64 rn.1.d) := blk_cell (hS.box 0 rfl) 3 _ rfl; have c64 : v6.cell? ⟨b6, 4, none⟩ = some (.int .i64 rn.1.e) := blk_cell (hS.box 0 rfl) 4 _ rfl; have c65 : v6.cell? ⟨b6, 5, none⟩ = some (.int .i64 rn.1.f) := blk_cell (hS.box 0 rfl) 5 _ rfl; have z6 := heap_lt (hS.box 0 rfl); have HS := Lib.hid hS; clear hS)
  go_ret
  exact ⟨rfl, HS.out.1⟩
end

section
open Go.RowKit
set_option linter.unusedSectionVars false
set_option linter.unusedSimpArgs false
set_option linter.unusedVariables false
set_option maxRecDepth 100000

def bsA : ByteArray := ⟨#[6, 2, 47, 97, 14]⟩
def bsB : ByteArray := ⟨#[6, 2, 47, 97, 14, 0]⟩
def evA : Ev := ⟨3, ⟨#[47, 97]⟩, 7⟩
def heA : He := ⟨1, 0, 10, ⟨#[115]⟩⟩
def noA : No := ⟨1, 2, 3, 4, 5, 6⟩
theorem evA_bytes : evA.bytes = [6, 2, 47, 97, 14] := by
  show sevens (zig 3) ++ (sevens 2 ++ [47, 97]) ++ sevens (zig 7) = _
  rw [show zig 3 = 6 from rfl, show zig 7 = 14 from rfl, sevens_small (by omega), sevens_small (by omega), sevens_small (by omega)]; rfl
theorem heA_bytes : heA.bytes = [2, 0, 20, 1, 115] := by
  show (sevens (zig 1) ++ (sevens (zig 0) ++ (sevens (zig 10) ++ []))) ++ (sevens 1 ++ [115]) = _
  rw [show zig 1 = 2 from rfl, show zig 0 = 0 from rfl, show zig 10 = 20 from rfl, sevens_small (by omega), sevens_small (by omega), sevens_small (by omega), sevens_small (by omega)]; rfl
theorem noA_bytes : noA.bytes = [2, 4, 6, 8, 10, 12] := by
  show sevens (zig 1) ++ (sevens (zig 2) ++ (sevens (zig 3) ++ (sevens (zig 4) ++ (sevens (zig 5) ++ (sevens (zig 6) ++ []))))) = _
  rw [show zig 1 = 2 from rfl, show zig 2 = 4 from rfl, show zig 3 = 6 from rfl, show zig 4 = 8 from rfl, show zig 5 = 10 from rfl, show zig 6 = 12 from rfl, sevens_small (by omega), sevens_small (by omega), sevens_small (by omega), sevens_small (by omega), sevens_small (by omega), sevens_small (by omega)]; rfl
theorem gEvA : gEv ⟨#[6, 2, 47, 97, 14]⟩ = (⟨3, ⟨#[47, 97]⟩, 7⟩, 0) := by kernel_rfl
theorem gEvB : gEv ⟨#[6, 2, 47, 97, 14, 0]⟩ = (⟨0, ⟨#[]⟩, 0⟩, 120) := by kernel_rfl

set_option maxHeartbeats 4000000 in
theorem awake_any (w : World) : Calls Tryz.prog 5 #[] w (ValPost (.bool true) w) := by
  have hS := St.start w
  go_enter Tryz.func5, Tryz.ntmps5
  go_wp2_with fail
  have hC := PutEvent_any evA ⟨⟨by decide, by decide⟩, ⟨by decide, by decide⟩, bfits_small (by decide)⟩ w
  rw [evA_bytes] at hC
  refine hC.mono ?_
  clear hC
  rintro e u1 ⟨rfl, hM⟩
  have hS := hS.mod hM
  clear hM
  go_wp2_with fail
  have hC := GetEvent_any ⟨#[6, 2, 47, 97, 14]⟩ (bfits_small (by decide)) u1
  rw [gEvA] at hC
  refine hC.mono ?_
  clear hC
  rintro e u2 ⟨rfl, hM⟩
  have hS := (hS.mod hM).box1 #[.int .i64 0, .string ⟨#[]⟩, .int .i64 0] 46
  go_wp2_with ((with_reducible refine at_list ?_); refine wpList_store_whole 3 sizeEv u2.heap.size rfl _ _ (hS.box 0 rfl) rfl evA.cells rfl rfl (by kernel_rfl) ?_; intro v2 hg hM2 hz; have hS := hS.rebox 0 rfl hg hM2; simp only [List.set_cons_zero] at hS; obtain ⟨b2, hb⟩ : ∃ b, u2.heap.size = b := ⟨_, rfl⟩; rw [hb] at hS ⊢; clear hg hM2 hz hb hM)
  have hC := GetEvent_any ⟨#[6, 2, 47, 97, 14, 0]⟩ (bfits_small (by decide)) v2
  rw [gEvB] at hC
  refine hC.mono ?_
  clear hC
  rintro e u3 ⟨rfl, hM⟩
  have hS := (hS.mod hM).box1 #[.int .i64 0, .string ⟨#[]⟩, .int .i64 0] 46
  go_wp2_with ((with_reducible refine at_list ?_); refine wpList_store_whole 3 sizeEv u3.heap.size rfl _ _ (hS.box 0 rfl) rfl Ev.zero.cells rfl rfl (by kernel_rfl) ?_; intro v3 hg hM2 hz; have hS := hS.rebox 0 rfl hg hM2; simp only [List.set_cons_zero] at hS; obtain ⟨b3, hb⟩ : ∃ b, u3.heap.size = b := ⟨_, rfl⟩; rw [hb] at hS ⊢; clear hg hM2 hz hb hM)
  have hC := PutHello_any heA ⟨⟨by decide, by decide⟩, ⟨by decide, by decide⟩, ⟨by decide, by decide⟩, bfits_small (by decide)⟩ v3
  rw [heA_bytes] at hC
  refine hC.mono ?_
  clear hC
  rintro e u4 ⟨rfl, hM⟩
  have hS := hS.mod hM
  clear hM
  go_wp2_with fail
  have hC := PutNote_any noA ⟨⟨by decide, by decide⟩, ⟨by decide, by decide⟩, ⟨by decide, by decide⟩, ⟨by decide, by decide⟩, ⟨by decide, by decide⟩, ⟨by decide, by decide⟩⟩ u4
  rw [noA_bytes] at hC
  refine hC.mono ?_
  clear hC
  rintro e u5 ⟨rfl, hM⟩
  have hS := hS.mod hM
  have c0 : u5.cell? ⟨b2, 0, none⟩ = some (.int .i64 3) := blk_cell (hS.box 1 rfl) 0 _ rfl
  have c1 : u5.cell? ⟨b2, 1, none⟩ = some (.string ⟨#[47, 97]⟩) := blk_cell (hS.box 1 rfl) 1 _ rfl
  have c2 : u5.cell? ⟨b2, 2, none⟩ = some (.int .i64 7) := blk_cell (hS.box 1 rfl) 2 _ rfl
  have z0 := heap_lt (hS.box 1 rfl)
  have HS := Lib.hid hS
  clear hS hM
  go_wp2
  go_ret
  exact ⟨rfl, HS.out.1⟩
end

section
open Go.RowKit
set_option linter.unusedSectionVars false
set_option linter.unusedSimpArgs false
set_option linter.unusedVariables false
set_option maxRecDepth 100000

theorem Ev.bytes_fit {x : Ev} (h : x.ok) : bfits (ByteArray.mk x.bytes.toArray).size := by
  obtain ⟨h1, h2, h3⟩ := h
  rw [mk_size]
  have a := numB_len h1
  have b := numB_len h2
  have c := txtB_len (h3.mono (Nat.le_add_right _ _))
  exact h3.mono (by unfold Ev.bytes; rw [List.length_append, List.length_append]; omega)
theorem He.bytes_fit {x : He} (h : x.ok) : bfits (ByteArray.mk x.bytes.toArray).size := by
  obtain ⟨h1, h2, h3, h4⟩ := h
  rw [mk_size]
  have a := numsB_len [x.session, x.zxid, x.timeout] (by simp [h1, h2, h3])
  have c := txtB_len (h4.mono (Nat.le_add_right _ _))
  simp only [List.length_cons, List.length_nil] at a
  exact h4.mono (by unfold He.bytes; rw [List.length_append]; omega)
theorem No.bytes_fit {x : No} (h : x.ok) : bfits (ByteArray.mk x.bytes.toArray).size := by
  obtain ⟨h1, h2, h3, h4, h5, h6⟩ := h
  rw [mk_size]
  have a := numsB_len [x.a, x.b, x.c, x.d, x.e, x.f] (by simp [h1, h2, h3, h4, h5, h6])
  simp only [List.length_cons, List.length_nil] at a
  exact bfits_small (by unfold No.bytes; omega)

end
end Go.Proofs.YtmbkbkfcbloafaaGreat
