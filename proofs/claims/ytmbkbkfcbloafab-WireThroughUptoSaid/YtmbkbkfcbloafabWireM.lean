/-
  What is read is laid as the bytes between; what is wrong stays; calls of readers whose answers are not told; things that lie somewhere.
  No condition: every law states its own.
-/
import Derived.Test.YtmbkbkfcbloafabWireL
import Derived.Test.YtmbkbkfcbloafabJbase
namespace Go.Proofs.Ytmbkbkfcbloafab
open Go.RowKit
set_option linter.unusedSectionVars false
set_option linter.unusedSimpArgs false
set_option linter.unusedVariables false
set_option maxRecDepth 100000

/-- What is read between two states is laid as these bytes. -/
def Rel (bs : List UInt8) (s s' : RS) (ys : List UInt8) : Prop := ∀ zs, Goes bs s zs → Goes bs s' (zs ++ ys)

section
variable {bs : List UInt8} {s s1 s2 : RS} {ys zs : List UInt8}
theorem Rel.refl : Rel bs s s [] := fun zs h => by rw [List.append_nil]; exact h
theorem Rel.trans (h : Rel bs s s1 ys) (h' : Rel bs s1 s2 zs) : Rel bs s s2 (ys ++ zs) := fun us hu => by rw [← List.append_assoc]; exact h' _ (h us hu)
theorem rel_stuck (h : s1.wr ≠ 0) : Rel bs s s1 ys := fun _ _ hw => absurd hw h
theorem rel_num : Rel bs s (rnum bs s).2 (numB (rnum bs s).1) := fun zs h => goes_num h
theorem rel_text (hok : s.ok bs.length) : Rel bs s (rtext bs 4096 s).2 (txtB ⟨(rtext bs 4096 s).1.toArray⟩) := fun zs h => by
  have := goes_text 4096 hok h
  rw [List.append_assoc] at this
  unfold txtB
  rw [mk_size]
  exact this
theorem rel_snap (most : Int) (hok : s.ok bs.length) : Rel bs s (rtext bs most s).2 (txtB ⟨(rtext bs most s).1.toArray⟩) := fun zs h => by
  have := goes_text most hok h
  rw [List.append_assoc] at this
  unfold txtB
  rw [mk_size]
  exact this
theorem rel_flag : Rel bs s (rflag bs s).2 (flagB (rflag bs s).1) := fun zs h => goes_flag h
theorem numsB_add (a b : List Int) : numsB (a ++ b) = numsB a ++ numsB b := by unfold numsB; rw [List.flatMap_append]
theorem numsB_one (n : Int) : numsB [n] = numB n := by simp [numsB, numB]
theorem rel_nums : ∀ n, Rel bs s (rs bs s n) (numsB (numsR bs s n))
  | 0 => Rel.refl
  | n + 1 => by
    unfold numsR
    rw [List.range_succ, List.map_append, numsB_add]
    exact (rel_nums n).trans (by
      show Rel bs (rs bs s n) (rnum bs (rs bs s n)).2 (numsB [rv bs s n])
      rw [numsB_one]; exact rel_num)
theorem rel_list {α : Type} {f : α → List UInt8} {L : List α} (h : Rel bs (rcount bs 256 s).2 s1 (L.flatMap f)) (hl : L.length = (rcount bs 256 s).1) : Rel bs s s1 (listB f L) := by
  unfold listB
  rw [hl]
  exact Rel.trans (fun zs h => goes_count 256 h) h
theorem rnum_i64 (hok : s.ok bs.length) : i64 (rnum bs s).1 := zag_range (rsev_ok hok).1
theorem rs_ok (hok : s.ok bs.length) : ∀ n, (rs bs s n).ok bs.length
  | 0 => hok
  | n + 1 => rnum_ok (rs_ok hok n)
theorem rv_i64 (hok : s.ok bs.length) (n : Nat) : i64 (rv bs s n) := rnum_i64 (rs_ok hok n)
end

/-- What is wrong stays. -/
def Sticky (q : RS → RS) : Prop := ∀ s : RS, s.wr ≠ 0 → q s = s
def iter (q : RS → RS) (s : RS) : Nat → RS
  | 0 => s
  | k + 1 => q (iter q s k)
theorem rsev_stuck (bs : List UInt8) {s : RS} (h : s.wr ≠ 0) : rsev bs s = (0, 0, s) := by unfold rsev; rw [if_pos h]
theorem sticky_num (bs : List UInt8) : Sticky (fun s => (rnum bs s).2) := fun s h => by
  show RS.mk _ _ = s
  rw [rsev_stuck bs h]; rfl
theorem rcount_stuck (bs : List UInt8) (most : Int) {s : RS} (h : s.wr ≠ 0) : rcount bs most s = (0, s) := by
  unfold rcount
  rw [rsev_stuck bs h, if_neg (by simp)]
  rfl
theorem sticky_text (bs : List UInt8) (most : Int) : Sticky (fun s => (rtext bs most s).2) := fun s h => by
  show (rtext bs most s).2 = s
  unfold rtext
  rw [rcount_stuck bs most h, if_neg (by simp)]
  rfl
theorem sticky_flag (bs : List UInt8) : Sticky (fun s => (rflag bs s).2) := fun s h => by
  show (rflag bs s).2 = s
  unfold rflag; rw [if_pos h]
theorem iter_id {q : RS → RS} (hq : Sticky q) {s : RS} (h : s.wr ≠ 0) : ∀ k, iter q s k = s
  | 0 => rfl
  | k + 1 => by show q (iter q s k) = s; rw [iter_id hq h k]; exact hq s h
theorem sticky_rs (bs : List UInt8) : ∀ n, Sticky (fun s => rs bs s n)
  | 0 => fun _ _ => rfl
  | n + 1 => fun s h => by
    show (rnum bs (rs bs s n)).2 = s
    rw [show rs bs s n = s from sticky_rs bs n s h]; exact sticky_num bs s h
theorem iter_add (q : RS → RS) (s : RS) (k : Nat) : ∀ m, iter q s (k + m) = iter q (iter q s k) m
  | 0 => rfl
  | m + 1 => by show q (iter q s (k + m)) = q (iter q (iter q s k) m); rw [iter_add q s k m]
theorem iter_stuck {q : RS → RS} (hq : Sticky q) {s : RS} {k n : Nat} (h : (iter q s k).wr ≠ 0) (hk : k ≤ n) : iter q s n = iter q s k := by
  obtain ⟨m, rfl⟩ := Nat.exists_eq_add_of_le hk
  rw [iter_add, iter_id hq h]
def qNum (bs : List UInt8) (s : RS) : RS := (rnum bs s).2
def qTxt (bs : List UInt8) (s : RS) : RS := (rtext bs 4096 s).2
def qFlag (bs : List UInt8) (s : RS) : RS := (rflag bs s).2
def qList (bs : List UInt8) (q : RS → RS) (s : RS) : RS := iter q (rcount bs 256 s).2 (rcount bs 256 s).1
def qAcl (bs : List UInt8) (s : RS) : RS := qTxt bs (qNum bs s)
def qTxn (bs : List UInt8) (s : RS) : RS := rs bs (qList bs (qAcl bs) (qTxt bs (qTxt bs (qNum bs s)))) 3
def qOp (bs : List UInt8) (s : RS) : RS := qFlag bs (rs bs (qList bs (qAcl bs) (qTxt bs (qTxt bs (rs bs s 2)))) 2)
def qArm (bs : List UInt8) (s : RS) : RS := rs bs (qTxt bs (qNum bs s)) 3
def qAns (bs : List UInt8) (s : RS) : RS := qList bs (qTxt bs) (qList bs (qAcl bs) (rs bs (qTxt bs (qTxt bs (rs bs s 3))) 9))
def qEnt (bs : List UInt8) (s : RS) : RS := qList bs (qTxn bs) (qTxn bs (rs bs s 3))
def qReq (bs : List UInt8) (s : RS) : RS := qList bs (qArm bs) (qList bs (qOp bs) (qOp bs s))
def qRep (bs : List UInt8) (s : RS) : RS := qList bs (qAns bs) (qAns bs s)
theorem Sticky.comp {q r : RS → RS} (hq : Sticky q) (hr : Sticky r) : Sticky (fun s => q (r s)) := fun s h => by
  show q (r s) = s
  rw [hr s h]; exact hq s h
theorem sticky_list (bs : List UInt8) {q : RS → RS} (hq : Sticky q) : Sticky (qList bs q) := fun s h => by
  unfold qList
  rw [rcount_stuck bs 256 h]; rfl
theorem sticky_qTxt (bs : List UInt8) : Sticky (qTxt bs) := sticky_text bs 4096
theorem sticky_qAcl (bs : List UInt8) : Sticky (qAcl bs) := (sticky_qTxt bs).comp (sticky_num bs)
theorem sticky_qTxn (bs : List UInt8) : Sticky (qTxn bs) :=
  (sticky_rs bs 3).comp ((sticky_list bs (sticky_qAcl bs)).comp ((sticky_qTxt bs).comp ((sticky_qTxt bs).comp (sticky_num bs))))
theorem sticky_qOp (bs : List UInt8) : Sticky (qOp bs) :=
  (sticky_flag bs).comp ((sticky_rs bs 2).comp ((sticky_list bs (sticky_qAcl bs)).comp ((sticky_qTxt bs).comp ((sticky_qTxt bs).comp (sticky_rs bs 2)))))
theorem sticky_qArm (bs : List UInt8) : Sticky (qArm bs) := (sticky_rs bs 3).comp ((sticky_qTxt bs).comp (sticky_num bs))
theorem sticky_qAns (bs : List UInt8) : Sticky (qAns bs) :=
  (sticky_list bs (sticky_qTxt bs)).comp ((sticky_list bs (sticky_qAcl bs)).comp ((sticky_rs bs 9).comp ((sticky_qTxt bs).comp ((sticky_qTxt bs).comp (sticky_rs bs 3)))))

/-! ### A reader's calls, the answers not told -/

section
variable {w0 w : World} {l : List Thing} {pb : Nat} {bs : List UInt8} {s : RS}
/-- The reader's answer v and its state s' behind the call. -/
def Tk {α : Type} (val : α → Value) (fine : α → Prop) (q : RS → RS) (bytes : α → List UInt8) (w0 : World) (pb : Nat) (bs : List UInt8) (s : RS) (l : List Thing) (e : Ending) (w' : World) : Prop :=
  ∃ (v : α) (s' : RS), e = .returned (val v) ∧ Hid (fine v ∧ s' = q s ∧ Rel bs s s' (bytes v)) ∧ St w0 w' (rdt pb bs s' :: l)

theorem tnum_st (h : St w0 w (rdt pb bs s :: l)) : Calls Try.prog 77 #[.pointer (some ⟨pb, 0, none⟩)] w (Tk (Value.int .i64) i64 (qNum bs) numB w0 pb bs s l) := by
  refine (rnum_st h 0 rfl).mono ?_
  rintro e w' ⟨rfl, hS⟩
  exact ⟨_, _, rfl, Lib.hid ⟨rnum_i64 (h.rok 0 rfl).1, rfl, rel_num⟩, hS⟩
theorem ttext_st (h : St w0 w (rdt pb bs s :: l)) : Calls Try.prog 68 #[.pointer (some ⟨pb, 0, none⟩)] w (Tk Value.string (fun _ => True) (qTxt bs) txtB w0 pb bs s l) := by
  refine (wtxt_st h 0 rfl).mono ?_
  rintro e w' ⟨rfl, hS⟩
  exact ⟨_, _, rfl, Lib.hid ⟨trivial, rfl, rel_text (h.rok 0 rfl).1⟩, hS⟩
theorem tflag_st (h : St w0 w (rdt pb bs s :: l)) : Calls Try.prog 95 #[.pointer (some ⟨pb, 0, none⟩)] w (Tk Value.bool (fun _ => True) (qFlag bs) flagB w0 pb bs s l) := by
  refine (h.rdr 0 rfl fun a cap hw => rflag_any pb a cap bs s w hw).mono ?_
  rintro e w' ⟨rfl, hS⟩
  exact ⟨_, _, rfl, Lib.hid ⟨trivial, rfl, rel_flag⟩, hS⟩
end

/-! ### Lists' things -/

/-- A thing that lies somewhere in young blocks. -/
def Lies (w0 w : World) (t : Thing) : Prop := ∃ l, St w0 w (t :: l)
theorem St.lies {w0 w : World} {l : List Thing} (h : St w0 w l) {t : Thing} (ht : t ∈ l) : Lies w0 w t := by
  obtain ⟨l1, l2, rfl⟩ := List.append_of_mem ht
  exact ⟨l1 ++ l2, h.perm List.perm_middle⟩
theorem Lies.grp {w0 w : World} {ts : List Thing} (h : Lies w0 w (grp ts)) {t : Thing} (ht : t ∈ ts) : Lies w0 w t := by
  obtain ⟨l, h⟩ := h
  exact h.ungrp.lies (List.mem_append_left _ ht)
theorem Lies.rd {w0 w : World} {E k : Nat} {a : Option Addr} {n cap : Nat} {cs : List Value} (h : Lies w0 w (sl E k a n cap cs)) : Rd w k a n cap cs := by
  obtain ⟨l, h⟩ := h
  exact (h.slice 0 rfl).rd
theorem Lies.sl {w0 w : World} {E k : Nat} {a : Option Addr} {n cap : Nat} {cs : List Value} (h : Lies w0 w (sl E k a n cap cs)) : Sl w E k a n cap cs ∧ ∀ b, own a = some b → w0.heap.size ≤ b := by
  obtain ⟨l, h⟩ := h
  refine ⟨h.slice 0 rfl, fun b hb => ?_⟩
  obtain ⟨F1, ⟨_, hF⟩, hz, _⟩ := h.at 0 rfl
  exact hz b ((hF b).2 hb)
/-- The third thing goes into the group behind. -/
theorem St.absorb {w0 w : World} {a b t : Thing} {ts l : List Thing} (h : St w0 w (a :: t :: b :: grp ts :: l)) : St w0 w (a :: b :: grp (ts ++ [t]) :: l) := by
  have h1 : St w0 w (grp ts :: t :: a :: b :: l) := h.perm (by
    refine (List.perm_append_comm_assoc [a, t, b] [grp ts] l).trans (.cons _ ?_)
    exact .swap _ _ _)
  have h2 : St w0 w ((ts ++ [t]) ++ (a :: b :: l)) := by rw [List.append_assoc]; exact h1.ungrp
  exact (h2.regrp).perm (List.perm_append_comm_assoc [grp (ts ++ [t])] [a, b] l)
theorem St.regrp1 {w0 w : World} {a : Thing} (ts : List Thing) {l : List Thing} (h : St w0 w (a :: (ts ++ l))) : St w0 w (a :: grp ts :: l) :=
  (St.regrp ts (h.perm (List.perm_append_comm_assoc [a] ts l))).swap
theorem St.addNil {w0 w : World} {a : Thing} {l : List Thing} (h : St w0 w (a :: l)) : St w0 w (a :: grp [] :: l) := St.regrp1 [] h
theorem St.rowStart {w0 w : World} {a : Thing} {l : List Thing} (h : St w0 w (a :: l)) (E k : Nat) : St w0 w (a :: sl E k none 0 0 [] :: grp [] :: l) := (h.addNil.nilSlice E k).swap

/-- The reader's answer that owns things. -/
def TkG {α : Type} (val : α → Value) (fine : α → Prop) (things : α → List Thing) (q : RS → RS) (bytes : α → List UInt8) (w0 : World) (pb : Nat) (bs : List UInt8) (s : RS) (l : List Thing) (e : Ending) (w' : World) : Prop :=
  ∃ (v : α) (s' : RS), e = .returned (val v) ∧ Hid (fine v ∧ s' = q s ∧ Rel bs s s' (bytes v)) ∧ St w0 w' (rdt pb bs s' :: grp (things v) :: l)
/-- A list that was read. -/
def RowTk {α : Type} (T K : Nat) (cells : α → List Value) (fine : α → Prop) (things : α → List Thing) (q : RS → RS) (bytes : α → List UInt8) (w0 : World) (pb : Nat) (bs : List UInt8) (s : RS) (l : List Thing) (e : Ending) (w' : World) : Prop :=
  ∃ (L : List α) (a : Option Addr) (cap : Nat) (s' : RS), e = .returned (.slice a L.length cap) ∧ Hid (((∀ x ∈ L, fine x) ∧ L.length ≤ 256) ∧ s' = qList bs q s ∧ Rel bs s s' (listB bytes L)) ∧
    St w0 w' (rdt pb bs s' :: sl T K a L.length cap (L.flatMap cells) :: grp (L.map fun x => grp (things x)) :: l)
theorem ttextg_st {w0 w : World} {l : List Thing} {pb : Nat} {bs : List UInt8} {s : RS} (h : St w0 w (rdt pb bs s :: l)) :
    Calls Try.prog 68 #[.pointer (some ⟨pb, 0, none⟩)] w (TkG Value.string (fun _ => True) (fun _ => []) (qTxt bs) txtB w0 pb bs s l) := by
  refine (ttext_st h).mono ?_
  rintro e w' ⟨v, s', rfl, H, hS⟩
  exact ⟨v, s', rfl, H, hS.addNil⟩
theorem info_row {P : Program} {T : TypeId} {k b : Nat} (h : (P.info? T).map (fun i => (i.zero.map (·.cells.size), i.size, i.bytes)) = some (some k, k, b)) :
    ∃ i z, P.info? T = some i ∧ i.zero = some z ∧ i.size = k ∧ i.bytes = b ∧ z.cells.size = k := by
  cases hi : P.info? T with
  | none => rw [hi] at h; simp at h
  | some i =>
    rw [hi] at h
    simp only [Option.map_some, Option.some.injEq, Prod.mk.injEq] at h
    obtain ⟨h1, h2, h3⟩ := h
    cases hz : i.zero with
    | none => rw [hz] at h1; simp at h1
    | some z =>
      rw [hz] at h1
      simp only [Option.map_some, Option.some.injEq] at h1
      exact ⟨i, z, rfl, hz, h2, h3, h1⟩
theorem flat_snoc {α β : Type} (f : α → List β) (L : List α) (t : α) : (L ++ [t]).flatMap f = L.flatMap f ++ f t := by
  rw [List.flatMap_append]; congr 1; simp
theorem list_snoc_all {α : Type} {p : α → Prop} {L : List α} {t : α} (h : ∀ x ∈ L, p x) (ht : p t) : ∀ x ∈ L ++ [t], p x := by
  intro x hx
  rcases List.mem_append.1 hx with hx | hx
  · exact h x hx
  · rw [List.mem_singleton.1 hx]; exact ht
end Go.Proofs.Ytmbkbkfcbloafab
