/-
  Contracts and plain laws of WireM, WireO, WireR, WireS, WireN, WireX.
  Conditions: each law states its own.
-/
import Derived.StillTailTactics
import Derived.Deep.Cut
import Derived.Test.YtonnbkebjeoflaaGreatDoorJ6
set_option linter.unusedSectionVars false
set_option linter.unusedSimpArgs false
set_option linter.unusedVariables false
set_option maxRecDepth 100000
namespace Go.Proofs.YtonnbkebjeoflaaGreatDoor.W
open Go.RowKit
def Rel (bs : List UInt8) (s s' : RS) (ys : List UInt8) : Prop := ∀ zs, Goes bs s zs → Goes bs s' (zs ++ ys)
section
variable {bs : List UInt8} {s s1 s2 : RS} {ys zs : List UInt8}
theorem Rel.refl : Rel bs s s [] := fun zs h => by rw [List.append_nil]; exact h
theorem Rel.trans (h : Rel bs s s1 ys) (h' : Rel bs s1 s2 zs) : Rel bs s s2 (ys ++ zs) := fun us hu => by rw [← List.append_assoc]; exact h' _ (h us hu)
theorem rel_num : Rel bs s (rnum bs s).2 (numB (rnum bs s).1) := fun zs h => goes_num h
theorem rel_text (hok : s.ok bs.length) : Rel bs s (rtext bs 4096 s).2 (txtB ⟨(rtext bs 4096 s).1.toArray⟩) := fun zs h => by
 have := goes_text 4096 hok h
 rw [List.append_assoc] at this
 unfold txtB
 rw [mk_size]
 exact this
theorem numsB_add (a b : List Int) : numsB (a ++ b) = numsB a ++ numsB b := by unfold numsB; rw [List.flatMap_append]
theorem numsB_one (n : Int) : numsB [n] = numB n := by simp [numsB, numB]
theorem rel_nums : ∀ n, Rel bs s (rs bs s n) (numsB (numsR bs s n))
 | 0 => Rel.refl
 | n + 1 => by
   unfold numsR
   rw [List.range_succ, List.map_append, numsB_add]
   exact (rel_nums n).trans (by
    show Rel bs (rs bs s n) (rnum bs (rs bs s n)).2 (numsB [rv bs s n])
    rw [numsB_one]; exact rel_num)
theorem rel_list {α : Type} {f : α → List UInt8} {L : List α} (h : Rel bs (rcount bs 256 s).2 s1 (L.flatMap f)) (hl : L.length = (rcount bs 256 s).1) : Rel bs s s1 (listB f L) := by
 unfold listB
 rw [hl]
 exact Rel.trans (fun zs h => goes_count 256 h) h
theorem rnum_i64 (hok : s.ok bs.length) : i64 (rnum bs s).1 := zag_range (rsev_ok hok).1
theorem rs_ok (hok : s.ok bs.length) : ∀ n, (rs bs s n).ok bs.length
 | 0 => hok
 | n + 1 => rnum_ok (rs_ok hok n)
theorem rv_i64 (hok : s.ok bs.length) (n : Nat) : i64 (rv bs s n) := rnum_i64 (rs_ok hok n)
end
def Sticky (q : RS → RS) : Prop := ∀ s : RS, s.wr ≠ 0 → q s = s
def iter (q : RS → RS) (s : RS) : Nat → RS
 | 0 => s
 | k + 1 => q (iter q s k)
theorem rsev_stuck (bs : List UInt8) {s : RS} (h : s.wr ≠ 0) : rsev bs s = (0, 0, s) := by unfold rsev; rw [if_pos h]
theorem sticky_num (bs : List UInt8) : Sticky (fun s => (rnum bs s).2) := fun s h => by
 show RS.mk _ _ = s
 rw [rsev_stuck bs h]; rfl
theorem rcount_stuck (bs : List UInt8) (most : Int) {s : RS} (h : s.wr ≠ 0) : rcount bs most s = (0, s) := by
 unfold rcount
 rw [rsev_stuck bs h, if_neg (by simp)]
 rfl
theorem sticky_text (bs : List UInt8) (most : Int) : Sticky (fun s => (rtext bs most s).2) := fun s h => by
 show (rtext bs most s).2 = s
 unfold rtext
 rw [rcount_stuck bs most h, if_neg (by simp)]
 rfl
theorem iter_id {q : RS → RS} (hq : Sticky q) {s : RS} (h : s.wr ≠ 0) : ∀ k, iter q s k = s
 | 0 => rfl
 | k + 1 => by show q (iter q s k) = s; rw [iter_id hq h k]; exact hq s h
theorem sticky_rs (bs : List UInt8) : ∀ n, Sticky (fun s => rs bs s n)
 | 0 => fun _ _ => rfl
 | n + 1 => fun s h => by
   show (rnum bs (rs bs s n)).2 = s
   rw [show rs bs s n = s from sticky_rs bs n s h]; exact sticky_num bs s h
theorem iter_add (q : RS → RS) (s : RS) (k : Nat) : ∀ m, iter q s (k + m) = iter q (iter q s k) m
 | 0 => rfl
 | m + 1 => by show q (iter q s (k + m)) = q (iter q (iter q s k) m); rw [iter_add q s k m]
def qNum (bs : List UInt8) (s : RS) : RS := (rnum bs s).2
def qTxt (bs : List UInt8) (s : RS) : RS := (rtext bs 4096 s).2
def qList (bs : List UInt8) (q : RS → RS) (s : RS) : RS := iter q (rcount bs 256 s).2 (rcount bs 256 s).1
def qAcl (bs : List UInt8) (s : RS) : RS := qTxt bs (qNum bs s)
def qTxn (bs : List UInt8) (s : RS) : RS := rs bs (qList bs (qAcl bs) (qTxt bs (qTxt bs (qNum bs s)))) 3
def qEnt (bs : List UInt8) (s : RS) : RS := qList bs (qTxn bs) (qTxn bs (rs bs s 3))
theorem Sticky.comp {q r : RS → RS} (hq : Sticky q) (hr : Sticky r) : Sticky (fun s => q (r s)) := fun s h => by
 show q (r s) = s
 rw [hr s h]; exact hq s h
theorem sticky_list (bs : List UInt8) {q : RS → RS} (hq : Sticky q) : Sticky (qList bs q) := fun s h => by
 unfold qList
 rw [rcount_stuck bs 256 h]; rfl
theorem sticky_qTxt (bs : List UInt8) : Sticky (qTxt bs) := sticky_text bs 4096
theorem sticky_qAcl (bs : List UInt8) : Sticky (qAcl bs) := (sticky_qTxt bs).comp (sticky_num bs)
theorem sticky_qTxn (bs : List UInt8) : Sticky (qTxn bs) :=
 (sticky_rs bs 3).comp ((sticky_list bs (sticky_qAcl bs)).comp ((sticky_qTxt bs).comp ((sticky_qTxt bs).comp (sticky_num bs))))
section
variable {w0 w : World} {l : List Thing} {pb : Nat} {bs : List UInt8} {s : RS}
def Tk {α : Type} (val : α → Value) (fine : α → Prop) (q : RS → RS) (bytes : α → List UInt8) (w0 : World) (pb : Nat) (bs : List UInt8) (s : RS) (l : List Thing) (e : Ending) (w' : World) : Prop :=
 ∃ (v : α) (s' : RS), e = .returned (val v) ∧ Hid (fine v ∧ s' = q s ∧ Rel bs s s' (bytes v)) ∧ St w0 w' (rdt pb bs s' :: l)
theorem tnum_st (h : St w0 w (rdt pb bs s :: l)) : Calls Tryz.prog 226 #[.pointer (some ⟨pb, 0, none⟩)] w (Tk (Value.int .i64) i64 (qNum bs) numB w0 pb bs s l) := by
 refine (rnum_st h 0 rfl).mono ?_
 rintro e w' ⟨rfl, hS⟩
 exact ⟨_, _, rfl, Lib.hid ⟨rnum_i64 (h.rok 0 rfl).1, rfl, rel_num⟩, hS⟩
theorem ttext_st (h : St w0 w (rdt pb bs s :: l)) : Calls Tryz.prog 227 #[.pointer (some ⟨pb, 0, none⟩)] w (Tk Value.string (fun _ => True) (qTxt bs) txtB w0 pb bs s l) := by
 refine (wtxt_st h 0 rfl).mono ?_
 rintro e w' ⟨rfl, hS⟩
 exact ⟨_, _, rfl, Lib.hid ⟨trivial, rfl, rel_text (h.rok 0 rfl).1⟩, hS⟩
end
theorem _root_.Go.Proofs.YtonnbkebjeoflaaGreatDoor.St.absorb {w0 w : World} {a b t : Thing} {ts l : List Thing} (h : St w0 w (a :: t :: b :: grp ts :: l)) : St w0 w (a :: b :: grp (ts ++ [t]) :: l) := by
 have h1 : St w0 w (grp ts :: t :: a :: b :: l) := h.perm (by
  refine (List.perm_append_comm_assoc [a, t, b] [grp ts] l).trans (.cons _ ?_)
  exact .swap _ _ _)
 have h2 : St w0 w ((ts ++ [t]) ++ (a :: b :: l)) := by rw [List.append_assoc]; exact h1.ungrp
 exact (h2.regrp).perm (List.perm_append_comm_assoc [grp (ts ++ [t])] [a, b] l)
theorem _root_.Go.Proofs.YtonnbkebjeoflaaGreatDoor.St.regrp1 {w0 w : World} {a : Thing} (ts : List Thing) {l : List Thing} (h : St w0 w (a :: (ts ++ l))) : St w0 w (a :: grp ts :: l) :=
 (St.regrp ts (h.perm (List.perm_append_comm_assoc [a] ts l))).swap
theorem _root_.Go.Proofs.YtonnbkebjeoflaaGreatDoor.St.addNil {w0 w : World} {a : Thing} {l : List Thing} (h : St w0 w (a :: l)) : St w0 w (a :: grp [] :: l) := St.regrp1 [] h
theorem _root_.Go.Proofs.YtonnbkebjeoflaaGreatDoor.St.rowStart {w0 w : World} {a : Thing} {l : List Thing} (h : St w0 w (a :: l)) (E k : Nat) : St w0 w (a :: sl E k none 0 0 [] :: grp [] :: l) := (h.addNil.nilSlice E k).swap
def TkG {α : Type} (val : α → Value) (fine : α → Prop) (things : α → List Thing) (q : RS → RS) (bytes : α → List UInt8) (w0 : World) (pb : Nat) (bs : List UInt8) (s : RS) (l : List Thing) (e : Ending) (w' : World) : Prop :=
 ∃ (v : α) (s' : RS), e = .returned (val v) ∧ Hid (fine v ∧ s' = q s ∧ Rel bs s s' (bytes v)) ∧ St w0 w' (rdt pb bs s' :: grp (things v) :: l)
def RowTk {α : Type} (T K : Nat) (cells : α → List Value) (fine : α → Prop) (things : α → List Thing) (q : RS → RS) (bytes : α → List UInt8) (w0 : World) (pb : Nat) (bs : List UInt8) (s : RS) (l : List Thing) (e : Ending) (w' : World) : Prop :=
 ∃ (L : List α) (a : Option Addr) (cap : Nat) (s' : RS), e = .returned (.slice a L.length cap) ∧ Hid (((∀ x ∈ L, fine x) ∧ L.length ≤ 256) ∧ s' = qList bs q s ∧ Rel bs s s' (listB bytes L)) ∧
   St w0 w' (rdt pb bs s' :: sl T K a L.length cap (L.flatMap cells) :: grp (L.map fun x => grp (things x)) :: l)
theorem info_row {P : Program} {T : TypeId} {k b : Nat} (h : (P.info? T).map (fun i => (i.zero.map (·.cells.size), i.size, i.bytes)) = some (some k, k, b)) :
 ∃ i z, P.info? T = some i ∧ i.zero = some z ∧ i.size = k ∧ i.bytes = b ∧ z.cells.size = k := by
 cases hi : P.info? T with
 | none => rw [hi] at h; simp at h
 | some i =>
   rw [hi] at h
   simp only [Option.map_some, Option.some.injEq, Prod.mk.injEq] at h
   obtain ⟨h1, h2, h3⟩ := h
   cases hz : i.zero with
   | none => rw [hz] at h1; simp at h1
   | some z =>
     rw [hz] at h1
     simp only [Option.map_some, Option.some.injEq] at h1
     exact ⟨i, z, rfl, hz, h2, h3, h1⟩
theorem flat_snoc {α β : Type} (f : α → List β) (L : List α) (t : α) : (L ++ [t]).flatMap f = L.flatMap f ++ f t := by
 rw [List.flatMap_append]; congr 1; simp
theorem list_snoc_all {α : Type} {p : α → Prop} {L : List α} {t : α} (h : ∀ x ∈ L, p x) (ht : p t) : ∀ x ∈ L ++ [t], p x := by
 intro x hx
 rcases List.mem_append.1 hx with hx | hx
 ·exact h x hx
 ·rw [List.mem_singleton.1 hx]; exact ht
end Go.Proofs.YtonnbkebjeoflaaGreatDoor.W
namespace Go.Proofs.YtonnbkebjeoflaaGreatDoor.W
open Go.RowKit
structure Ent where
 zxid : Int
 session : Int
 xid : Int
 t : Txn
 subs : List Txn
def Ent.cells (x : Ent) : List Value := [.int .i64 x.zxid, .int .i64 x.session, .int .i64 x.xid, .int .i64 x.t.kind, .string x.t.path, .string x.t.data, .slice x.t.aclA x.t.acl.length x.t.aclC, .int .i64 x.t.owner, .int .i64 x.t.number, .int .i64 x.t.err, .slice x.t.subsA x.t.subsN x.t.subsC]
def Ent.bytes (x : Ent) : List UInt8 := numsB [x.zxid, x.session, x.xid] ++ x.t.bytes ++ listB Txn.bytes x.subs
structure Ent.ok (w : World) (x : Ent) : Prop where
 zxid : i64 x.zxid
 session : i64 x.session
 xid : i64 x.xid
 t : x.t.ok w
 n : x.t.subsN = x.subs.length
 rd : Rd w 8 x.t.subsA x.subs.length x.t.subsC (x.subs.flatMap Txn.cells)
 all : ∀ a ∈ x.subs, Txn.ok w a
theorem sizeEnt : (Tryz.prog.info? 63).map (·.size) = some 11 := by kernel_rfl
theorem box_part {w : World} {pb : Nat} {cs : List Value} {T : TypeId} (pre : List Value) (h : w.heap[pb]? = some (.cells (pre ++ cs).toArray T (0, 0))) : ∀ j u, cs[j]? = some u → w.cell? ((⟨pb, pre.length, none⟩ : Addr).add j) = some u := by
 intro j u hj
 rw [add_none]
 refine blk_cell h _ u ?_
 rw [List.getElem?_toArray, List.getElem?_append_right (by omega), Nat.add_sub_cancel_left]
 exact hj
set_option maxHeartbeats 4000000 in
theorem layEntry_st {w0 w : World} {l : List Thing} {pb : Nat} {xs : List UInt8} (h : St w0 w (wrt pb xs :: l)) (x : Ent) (hx : x.ok w0) (hf : bfits ((xs ++ x.bytes).length + 100)) :
 Calls Tryz.prog 81 #[.pointer (some ⟨pb, 0, none⟩), .agg x.cells.toArray] w (StPost (.tuple #[]) w0 (wrt pb (xs ++ x.bytes) :: l)) := by
 have hS := h.box2 #[.int .i64 x.zxid, .int .i64 x.session, .int .i64 x.xid, .int .i64 x.t.kind, .string x.t.path, .string x.t.data, .slice x.t.aclA x.t.acl.length x.t.aclC, .int .i64 x.t.owner, .int .i64 x.t.number, .int .i64 x.t.err, .slice x.t.subsA x.t.subsN x.t.subsC] 63
 have hz0 : (w.alloc (.cells #[.int .i64 x.zxid, .int .i64 x.session, .int .i64 x.xid, .int .i64 x.t.kind, .string x.t.path, .string x.t.data, .slice x.t.aclA x.t.acl.length x.t.aclC, .int .i64 x.t.owner, .int .i64 x.t.number, .int .i64 x.t.err, .slice x.t.subsA x.t.subsN x.t.subsC] 63)).heap.size = w.heap.size + 1 := World.size_alloc ..
 have HX := Lib.hid hx
 have HF := Lib.hid hf
 simp only [Ent.cells]
 clear h hx hf
 go_enter Tryz.func81, Tryz.ntmps81
 go_wp2_with fail
 generalize w.alloc (.cells #[.int .i64 x.zxid, .int .i64 x.session, .int .i64 x.xid, .int .i64 x.t.kind, .string x.t.path, .string x.t.data, .slice x.t.aclA x.t.acl.length x.t.aclC, .int .i64 x.t.owner, .int .i64 x.t.number, .int .i64 x.t.err, .slice x.t.subsA x.t.subsN x.t.subsC] 63) = W at *
 generalize w.heap.size = tb at *
 have hS := hS.slice2 #[.int .i64 x.zxid, .int .i64 x.session, .int .i64 x.xid] 3 1 3 rfl (by unfold maxLen; omega)
 rw [hz0] at hS
 refine (numbers_st hS 0 1 rfl _ 3 3 [x.zxid, x.session, x.xid] rfl (by omega) rfl (by intro t ht; simp only [List.mem_cons, List.not_mem_nil, or_false] at ht; rcases ht with rfl | rfl | rfl <;> first | exact HX.out.zxid | exact HX.out.session | exact HX.out.xid) (HF.out.mono (by unfold Ent.bytes; simp only [List.length_append, txtB, numB, toList_size]; omega)) (by omega)).mono ?_
 clear hS hz0
 rintro e w1 ⟨rfl, hS⟩
 simp only [List.set_cons_zero] at hS
 have hS := hS.tail2
 have z0 := heap_lt (hS.box 1 rfl)
 have HC : Hid (∀ j u, (x.t.cells)[j]? = some u → w1.cell? ((⟨tb, 3, none⟩ : Addr).add j) = some u) := Lib.hid (box_part (cs := x.t.cells) [.int .i64 x.zxid, .int .i64 x.session, .int .i64 x.xid] (hS.box 1 rfl))
 go_wp2_with ((with_reducible refine at_list ?_); refine wpList_load_chunk 8 _ Tryz.underlying61 rfl sizeTxn ⟨tb, 3, none⟩ rfl x.t.cells rfl HC.out ?_)
 refine (layPart_st hS x.t HX.out.t (HF.out.mono (by unfold Ent.bytes; simp only [List.length_append, txtB, numB, toList_size]; omega))).mono ?_
 clear hS z0 HC
 rintro e w2 ⟨rfl, hS⟩
 have z0 := heap_lt (hS.box 1 rfl)
 have c10 : w2.cell? ⟨tb, 10, none⟩ = some (.slice x.t.subsA x.subs.length x.t.subsC) := by rw [← HX.out.n]; exact blk_cell (hS.box 1 rfl) 10 _ rfl
 go_wp2_with fail
 refine (listTxn_st hS x.t.subsA x.t.subsC x.subs HX.out.rd HX.out.all (HF.out.mono (by unfold Ent.bytes; simp only [List.length_append, txtB, numB, toList_size]; omega))).mono ?_
 clear hS z0 c10
 rintro e w3 ⟨rfl, hS⟩
 go_wp2
 go_end0
 refine ⟨rfl, ?_⟩
 have e : xs ++ x.bytes = xs ++ numsB [x.zxid, x.session, x.xid] ++ x.t.bytes ++ listB Txn.bytes x.subs := by simp only [Ent.bytes, List.append_assoc]
 rw [e]
 exact hS.tail2
end Go.Proofs.YtonnbkebjeoflaaGreatDoor.W
namespace Go.Proofs.YtonnbkebjeoflaaGreatDoor.W
open Go.RowKit
theorem Txn.okmod {w w' : World} {x : Txn} (hx : x.ok w) (h : Mod (fun _ => False) w w') : x.ok w' := ⟨hx.1, hx.2.1, hx.2.2.1, hx.2.2.2.1, (hx.2.2.2.2.1).mod h (fun _ _ h => h), fun a ha => hx.2.2.2.2.2 a ha⟩
end Go.Proofs.YtonnbkebjeoflaaGreatDoor.W
namespace Go.Proofs.YtonnbkebjeoflaaGreatDoor.W
open Go.RowKit
theorem Ent.okmod {w w' : World} {x : Ent} (hx : x.ok w) (h : Mod (fun _ => False) w w') : x.ok w' := ⟨hx.zxid, hx.session, hx.xid, Txn.okmod hx.t h, hx.n, hx.rd.mod h (fun _ _ h => h), fun a ha => Txn.okmod (hx.all a ha) h⟩
set_option maxHeartbeats 4000000 in
theorem putEntry_any (x : Ent) (w : World) (hx : x.ok w) (hf : bfits (x.bytes.length + 100)) :
 Calls Tryz.prog 80 #[.agg x.cells.toArray, .func (.func 81) #[] #[]] w (TextPost x.bytes w) := by
 have hS := (St.start w).box1 x.cells.toArray 63
 have HX := Lib.hid hx
 have HF := Lib.hid hf
 simp only [Ent.cells, Txn.cells] at hS ⊢
 clear hx hf
 go_enter Tryz.func80, Tryz.ntmps80
 go_wp2_with fail
 refine (wnew_st hS).mono ?_
 clear hS
 rintro e w1 ⟨pb, rfl, hS⟩
 generalize w.heap.size = tb at hS ⊢
 go_wp2_with ((with_reducible refine at_list ?_); refine wpList_load_chunk 11 _ Tryz.underlying63 rfl sizeEnt ⟨tb, 0, none⟩ rfl x.cells rfl (box_chunk (hS.box 1 rfl)) ?_)
 refine (layEntry_st hS x HX.out (HF.out.mono (by rw [List.nil_append]; exact Nat.le_refl _))).mono ?_
 clear hS
 rintro e w2 ⟨rfl, hS⟩
 go_wp2_with fail
 refine (wbytes_st hS 0 rfl).mono ?_
 rintro e w3 ⟨rfl, rfl⟩
 rw [List.nil_append]
 go_wp2
 go_ret
 exact ⟨rfl, hS.1⟩
theorem PutEntry_any (x : Ent) (w : World) (hx : x.ok w) (hf : bfits (x.bytes.length + 100)) :
 Calls Tryz.prog 38 #[.agg x.cells.toArray] w (TextPost x.bytes w) := by
 have hS := (St.start w).box1 x.cells.toArray 63
 have C : Hid (∀ w', Mod (fun _ => False) w w' → Calls Tryz.prog 80 #[.agg x.cells.toArray, .func (.func 81) #[] #[]] w' (TextPost x.bytes w')) := Lib.hid fun w' h => putEntry_any x w' (Ent.okmod hx h) hf
 simp only [Ent.cells, Txn.cells] at hS C ⊢
 clear hx hf
 go_enter Tryz.func38, Tryz.ntmps38
 go_wp2_with ((with_reducible refine at_list ?_); refine wpList_load_chunk 11 _ Tryz.underlying63 rfl sizeEnt ⟨w.heap.size, 0, none⟩ rfl x.cells rfl (box_chunk (hS.box 0 rfl)) ?_)
 refine (C.out _ ((Mod.refl _ w).alloc _)).mono ?_
 rintro e w1 ⟨rfl, hM⟩
 go_wp2
 go_ret
 exact ⟨rfl, ((Mod.refl _ w).alloc _).then hM (fun _ _ h => h)⟩
end Go.Proofs.YtonnbkebjeoflaaGreatDoor.W
namespace Go.Proofs.YtonnbkebjeoflaaGreatDoor.W
open Go.RowKit
def Acl.fine (x : Acl) : Prop := i64 x.perms
def Acl.things (x : Acl) : List Thing := []
theorem infoAcl : (Tryz.prog.info? 46).map (fun i => (i.zero.map (·.cells.size), i.size, i.bytes)) = some (some 2, 2, 24) := by kernel_rfl
theorem Acl.one (x : Acl) : ∀ u ∈ x.cells, u.oneCell' = true := by
 intro u hu
 simp only [Acl.cells, List.mem_cons, List.not_mem_nil, or_false] at hu
 rcases hu with rfl | rfl <;> rfl
set_option maxHeartbeats 4000000 in
theorem takeAcl_st {w0 w : World} {l : List Thing} {pb : Nat} {bs : List UInt8} {s : RS} (h : St w0 w (rdt pb bs s :: l)) :
 Calls Tryz.prog 229 #[.pointer (some ⟨pb, 0, none⟩)] w (TkG (fun x => Value.agg (Acl.cells x).toArray) Acl.fine Acl.things (qAcl bs) Acl.bytes w0 pb bs s l) := by
 have hS := h.box2 #[.int .i64 0, .string ⟨#[]⟩] 46
 clear h
 go_enter Tryz.func229, Tryz.ntmps229
 go_wp2_with fail
 generalize w.alloc (.cells #[.int .i64 0, .string ⟨#[]⟩] 46) = W at *
 generalize w.heap.size = rb at *
 refine (tnum_st hS).mono ?_
 clear hS
 rintro e w1 ⟨v1, s1, rfl, H1, hS⟩
 go_wp2_with fail
 refine (ttext_st hS).mono ?_
 clear hS
 rintro e w2 ⟨v2, s2, rfl, H2, hS⟩
 have z1 := heap_lt (hS.box 1 rfl)
 go_wp2_with (refine wpList_store_whole 2 sizeAcl rb rfl _ _ (hS.box 1 rfl) rfl (Acl.cells ⟨v1, v2⟩) rfl rfl (by kernel_rfl) ?_; intro w4 hg4 hM4 hz4)
 refine bodyPost_ret (results_cell rfl _ w4 rb _ _ _ _ rfl hg4 Tryz.underlying46 rfl sizeAcl) rfl ?_
 exact ⟨⟨v1, v2⟩, s2, rfl, Lib.hid ⟨H1.out.1, by rw [H2.out.2.1, H1.out.2.1]; rfl, H1.out.2.2.trans H2.out.2.2⟩, ((hS.rebox 1 rfl hg4 hM4).swap.tail).addNil⟩
set_option maxHeartbeats 2000000 in
theorem rowsAcl_st {w0 w : World} {l : List Thing} {pb : Nat} {bs : List UInt8} {s : RS} (h : St w0 w (rdt pb bs s :: l)) :
 Calls Tryz.prog 228 #[.pointer (some ⟨pb, 0, none⟩), .func (.func 229) #[] #[]] w (RowTk 46 2 Acl.cells Acl.fine Acl.things (qAcl bs) Acl.bytes w0 pb bs s l) := by
 obtain ⟨ip, iz, hi1, hi2, hi3, hi4, hi5⟩ := info_row infoAcl
 have HI := Lib.hid (And.intro hi1 (And.intro hi2 (And.intro hi3 (And.intro hi4 hi5))))
 have HS := Lib.hid h
 clear h hi1 hi2 hi3 hi4 hi5
 go_enter Tryz.func228, Tryz.ntmps228
 go_wp2_with fail
 refine (rcount_st HS.out 0 rfl 256 (by omega)).mono ?_
 rintro e w1 ⟨rfl, hS⟩
 simp only [List.set_cons_zero] at hS
 have hle : (rcount bs 256 s).1 ≤ 256 := (rcount_ok (most := 256) (HS.out.rok 0 rfl).1).2
 obtain ⟨n, hn⟩ : ∃ n, (rcount bs 256 s).1 = n := ⟨_, rfl⟩
 obtain ⟨s1, hs1⟩ : ∃ s1, (rcount bs 256 s).2 = s1 := ⟨_, rfl⟩
 rw [hn] at hle ⊢
 rw [hs1] at hS
 have hS := hS.rowStart 46 2
 have HN := Lib.hid hn
 have HT := Lib.hid hs1
 clear HS hn hs1
 have HS := Lib.hid hS
 clear hS
 go_wp2
 go_loopg [5, 8] n (fun g x y wr => ∃ (k : Nat) (L : List Acl) (a : Option Addr) (cap : Nat) (s' : RS), k + g = n ∧ y = .int .i64 k ∧ x = .slice a k cap ∧ Hid (L.length = k ∧ (∀ x ∈ L, Acl.fine x) ∧ s' = iter (qAcl bs) s1 k ∧ Rel bs s1 s' (L.flatMap Acl.bytes)) ∧ St w0 wr (rdt pb bs s' :: sl 46 2 a k cap (L.flatMap Acl.cells) :: grp (L.map fun x => grp (Acl.things x)) :: l))
 case atStart => exact ⟨0, [], none, 0, s1, by omega, rfl, rfl, Lib.hid ⟨rfl, fun _ h => absurd h List.not_mem_nil, rfl, Rel.refl⟩, HS.out⟩
 case round =>
  obtain ⟨k, L, a, cap, s', hkg, rfl, rfl, HL, hS⟩ := hrel
  by_cases hlt : k < n
  ·go_wp2_with fail
   refine (takeAcl_st hS).mono ?_
   clear hS
   rintro e w2 ⟨t, s2, rfl, HQ, hS⟩
   simp only [Acl.cells]
   have hS := hS.absorb.slice1 #[.int .i64 t.perms, .string t.id] 46 2 1 rfl (by unfold maxLen; omega)
   have HR := Lib.hid (hS.slice 0 rfl).rd
   have HA := Lib.hid (hS.slice 2 rfl)
   have HS := Lib.hid hS
   clear hS
   go_wp2_with (at_builtin; refine wpList_append 46 ip iz 2 24 (by kernel_rfl) HI.out.1 HI.out.2.1 HI.out.2.2.1 HI.out.2.2.2.1 HI.out.2.2.2.2 a k cap (L.flatMap Acl.cells) rfl HA.out (some ⟨w2.heap.size, 0, none⟩) 1 1 t.cells rfl HR.out (Acl.one t) (by unfold maxLen; omega) (by omega) ?_; intro a6 cap6 w6 hS6 hM6 hF6 hN6 hR6; have hSA := (HS.out.regrow 2 rfl hS6 hM6 hF6).tail; have HSA := Lib.hid hSA; clear hN6 hR6 hSA hS6 hM6 hF6)
   go_roundg (gk - 1)
   case measure => omega
   case rel =>
    refine ⟨k + 1, L ++ [t], a6, cap6, s2, by omega, by simp, rfl, Lib.hid ⟨by simp [HL.out.1], list_snoc_all HL.out.2.1 HQ.out.1, HQ.out.2.1.trans (congrArg _ HL.out.2.2.1), by rw [flat_snoc]; exact HL.out.2.2.2.trans HQ.out.2.2⟩, ?_⟩
    rw [flat_snoc, List.map_append]
    exact HSA.out
  ·have hk : k = n := by omega
   have HK := Lib.hid hk
   clear hkg hk
   go_wp2
   go_ret
   refine ⟨L, a, cap, s', by rw [HL.out.1]; rfl, Lib.hid ⟨⟨HL.out.2.1, by rw [HL.out.1, HK.out]; exact hle⟩, ?_, ?_⟩, ?_⟩
   ·unfold qList
    rw [HN.out, HT.out, ← HK.out]
    exact HL.out.2.2.1
   ·exact rel_list (by rw [HT.out]; exact HL.out.2.2.2) (by rw [HL.out.1, HN.out]; exact HK.out)
   ·rw [HL.out.1]; exact hS
def Txn.fine (x : Txn) : Prop := i64 x.kind ∧ i64 x.owner ∧ i64 x.number ∧ i64 x.err ∧ ((∀ a ∈ x.acl, Acl.fine a) ∧ x.acl.length ≤ 256)
def Txn.things (x : Txn) : List Thing := [sl 46 2 x.aclA x.acl.length x.aclC (x.acl.flatMap Acl.cells), grp (x.acl.map fun a => grp (Acl.things a))]
theorem infoTxn : (Tryz.prog.info? 61).map (fun i => (i.zero.map (·.cells.size), i.size, i.bytes)) = some (some 8, 8, 112) := by kernel_rfl
theorem Txn.one (x : Txn) : ∀ u ∈ x.cells, u.oneCell' = true := by
 intro u hu
 simp only [Txn.cells, List.mem_cons, List.not_mem_nil, or_false] at hu
 rcases hu with rfl | rfl | rfl | rfl | rfl | rfl | rfl | rfl <;> rfl
set_option maxHeartbeats 4000000 in
theorem takePart_st {w0 w : World} {l : List Thing} {pb : Nat} {bs : List UInt8} {s : RS} (h : St w0 w (rdt pb bs s :: l)) :
 Calls Tryz.prog 154 #[.pointer (some ⟨pb, 0, none⟩)] w (TkG (fun x => Value.agg (Txn.cells x).toArray) Txn.fine Txn.things (qTxn bs) Txn.bytes w0 pb bs s l) := by
 have hS := (h.box2 #[.int .i64 0, .string ⟨#[]⟩, .string ⟨#[]⟩, .slice none 0 0, .int .i64 0, .int .i64 0, .int .i64 0, .slice none 0 0] 61).box2 #[.int .i64 0, .string ⟨#[]⟩, .string ⟨#[]⟩, .slice none 0 0, .int .i64 0, .int .i64 0, .int .i64 0, .slice none 0 0] 61
 simp only [World.size_alloc] at hS
 have hz0 : ((w.alloc (.cells #[.int .i64 0, .string ⟨#[]⟩, .string ⟨#[]⟩, .slice none 0 0, .int .i64 0, .int .i64 0, .int .i64 0, .slice none 0 0] 61)).alloc (.cells #[.int .i64 0, .string ⟨#[]⟩, .string ⟨#[]⟩, .slice none 0 0, .int .i64 0, .int .i64 0, .int .i64 0, .slice none 0 0] 61)).heap.size = w.heap.size + 1 + 1 := by simp only [World.size_alloc]
 clear h
 go_enter Tryz.func154, Tryz.ntmps154
 go_wp2_with fail
 generalize (w.alloc (.cells #[.int .i64 0, .string ⟨#[]⟩, .string ⟨#[]⟩, .slice none 0 0, .int .i64 0, .int .i64 0, .int .i64 0, .slice none 0 0] 61)).alloc (.cells #[.int .i64 0, .string ⟨#[]⟩, .string ⟨#[]⟩, .slice none 0 0, .int .i64 0, .int .i64 0, .int .i64 0, .slice none 0 0] 61) = W at *
 generalize w.heap.size = rb at *
 refine (tnum_st hS).mono ?_
 clear hS
 rintro e w1 ⟨kind_, s1, rfl, H1, hS⟩
 have c0 := blk_cell (hS.box 1 rfl) 0 _ rfl
 have f0 := blk_free (hS.box 1 rfl) 0
 have z0 := heap_lt (hS.box 1 rfl)
 have hS := hS.set 1 rfl 0 (.int .i64 kind_)
 have hS : St w0 (w1.setCell ⟨rb + 1, 0, none⟩ (.int .i64 kind_)) (rdt pb bs s1 :: bx (rb + 1) #[.int .i64 kind_, .string ⟨#[]⟩, .string ⟨#[]⟩, .slice none 0 0, .int .i64 0, .int .i64 0, .int .i64 0, .slice none 0 0] 61 :: bx rb #[.int .i64 0, .string ⟨#[]⟩, .string ⟨#[]⟩, .slice none 0 0, .int .i64 0, .int .i64 0, .int .i64 0, .slice none 0 0] 61 :: l) := hS
 go_wp2_with fail
 refine (ttext_st hS).mono ?_
 clear hS c0 f0 z0
 rintro e w2 ⟨path_, s2, rfl, H2, hS⟩
 have c0 := blk_cell (hS.box 1 rfl) 1 _ rfl
 have f0 := blk_free (hS.box 1 rfl) 1
 have z0 := heap_lt (hS.box 1 rfl)
 have hS := hS.set 1 rfl 1 (.string path_)
 have hS : St w0 (w2.setCell ⟨rb + 1, 1, none⟩ (.string path_)) (rdt pb bs s2 :: bx (rb + 1) #[.int .i64 kind_, .string path_, .string ⟨#[]⟩, .slice none 0 0, .int .i64 0, .int .i64 0, .int .i64 0, .slice none 0 0] 61 :: bx rb #[.int .i64 0, .string ⟨#[]⟩, .string ⟨#[]⟩, .slice none 0 0, .int .i64 0, .int .i64 0, .int .i64 0, .slice none 0 0] 61 :: l) := hS
 go_wp2_with fail
 refine (ttext_st hS).mono ?_
 clear hS c0 f0 z0
 rintro e w3 ⟨data_, s3, rfl, H3, hS⟩
 have c0 := blk_cell (hS.box 1 rfl) 2 _ rfl
 have f0 := blk_free (hS.box 1 rfl) 2
 have z0 := heap_lt (hS.box 1 rfl)
 have hS := hS.set 1 rfl 2 (.string data_)
 have hS : St w0 (w3.setCell ⟨rb + 1, 2, none⟩ (.string data_)) (rdt pb bs s3 :: bx (rb + 1) #[.int .i64 kind_, .string path_, .string data_, .slice none 0 0, .int .i64 0, .int .i64 0, .int .i64 0, .slice none 0 0] 61 :: bx rb #[.int .i64 0, .string ⟨#[]⟩, .string ⟨#[]⟩, .slice none 0 0, .int .i64 0, .int .i64 0, .int .i64 0, .slice none 0 0] 61 :: l) := hS
 go_wp2_with fail
 refine (rowsAcl_st hS).mono ?_
 clear hS c0 f0 z0
 rintro e w4 ⟨acl_, aclA_, aclC_, s4, rfl, H4, hS⟩
 have hS := hS.perm (.cons _ (List.perm_append_comm_assoc [_, _] [_, _] _))
 have c0 := blk_cell (hS.box 1 rfl) 3 _ rfl
 have f0 := blk_free (hS.box 1 rfl) 3
 have z0 := heap_lt (hS.box 1 rfl)
 have hS := hS.set 1 rfl 3 (.slice aclA_ acl_.length aclC_)
 have hS : St w0 (w4.setCell ⟨rb + 1, 3, none⟩ (.slice aclA_ acl_.length aclC_)) (rdt pb bs s4 :: bx (rb + 1) #[.int .i64 kind_, .string path_, .string data_, .slice aclA_ acl_.length aclC_, .int .i64 0, .int .i64 0, .int .i64 0, .slice none 0 0] 61 :: bx rb #[.int .i64 0, .string ⟨#[]⟩, .string ⟨#[]⟩, .slice none 0 0, .int .i64 0, .int .i64 0, .int .i64 0, .slice none 0 0] 61 :: sl 46 2 aclA_ acl_.length aclC_ (acl_.flatMap Acl.cells) :: grp (acl_.map fun x => grp (Acl.things x)) :: l) := hS
 go_wp2_with fail
 have hS := (hS.box2 #[.int .i64 0] 3).perm (.cons _ (.swap _ _ _))
 have hS := hS.slice2 #[.pointer (some ⟨rb + 1, 4, none⟩), .pointer (some ⟨rb + 1, 5, none⟩), .pointer (some ⟨w4.heap.size, 0, none⟩)] 254 1 3 rfl (by unfold maxLen; omega)
 simp only [World.size_alloc, World.size_setCell] at hS
 generalize w4.heap.size = eb at hS ⊢
 refine (into_st (l := bx rb #[.int .i64 0, .string ⟨#[]⟩, .string ⟨#[]⟩, .slice none 0 0, .int .i64 0, .int .i64 0, .int .i64 0, .slice none 0 0] 61 :: sl 46 2 aclA_ acl_.length aclC_ (acl_.flatMap Acl.cells) :: grp (acl_.map fun x => grp (Acl.things x)) :: l) [⟨rb + 1, #[.int .i64 kind_, .string path_, .string data_, .slice aclA_ acl_.length aclC_, .int .i64 0, .int .i64 0, .int .i64 0, .slice none 0 0], 61⟩, ⟨eb, #[.int .i64 0], 3⟩] [(0, 4), (0, 5), (1, 0)] hS rfl (by intro p hp; simp only [List.mem_cons, List.not_mem_nil, or_false] at hp; rcases hp with rfl | rfl | rfl <;> exact ⟨_, rfl, by simp⟩) (by omega)).mono ?_
 have hok := (hS.rok 0 rfl).1
 have KH5 : (i64 (rv bs s4 0) ∧ i64 (rv bs s4 1) ∧ i64 (rv bs s4 2)) ∧ rs bs s4 3 = rs bs s4 3 ∧ Rel bs s4 (rs bs s4 3) (numsB [rv bs s4 0, rv bs s4 1, rv bs s4 2]) := ⟨⟨rv_i64 hok 0, rv_i64 hok 1, rv_i64 hok 2⟩, rfl, rel_nums 3⟩
 clear hS hok c0 f0 z0
 rintro e w5 ⟨rfl, hS⟩
 have hS : St w0 w5 (rdt pb bs (rs bs s4 3) :: sl 254 1 (some ⟨eb + 1, 0, none⟩) 3 3 #[.pointer (some ⟨rb + 1, 4, none⟩), .pointer (some ⟨rb + 1, 5, none⟩), .pointer (some ⟨eb, 0, none⟩)].toList :: bx (rb + 1) #[.int .i64 kind_, .string path_, .string data_, .slice aclA_ acl_.length aclC_, .int .i64 (rv bs s4 0), .int .i64 (rv bs s4 1), .int .i64 0, .slice none 0 0] 61 :: bx eb #[.int .i64 (rv bs s4 2)] 3 :: bx rb #[.int .i64 0, .string ⟨#[]⟩, .string ⟨#[]⟩, .slice none 0 0, .int .i64 0, .int .i64 0, .int .i64 0, .slice none 0 0] 61 :: sl 46 2 aclA_ acl_.length aclC_ (acl_.flatMap Acl.cells) :: grp (acl_.map fun x => grp (Acl.things x)) :: l) := hS
 have hS := hS.tail2
 generalize rv bs s4 0 = owner_ at hS KH5
 generalize rv bs s4 1 = number_ at hS KH5
 generalize rv bs s4 2 = err_ at hS KH5
 obtain ⟨s5, hs5⟩ : ∃ x, x = rs bs s4 3 := ⟨_, rfl⟩
 rw [← hs5] at hS
 have H5 : Hid ((i64 owner_ ∧ i64 number_ ∧ i64 err_) ∧ s5 = rs bs s4 3 ∧ Rel bs s4 s5 (numsB [owner_, number_, err_])) := by rw [← hs5] at KH5; exact Lib.hid ⟨KH5.1, hs5, KH5.2.2⟩
 clear hs5 KH5
 have ce := blk_cell (hS.box 2 rfl) 0 _ rfl
 have ze := heap_lt (hS.box 2 rfl)
 have c0 := blk_cell (hS.box 1 rfl) 6 _ rfl
 have f0 := blk_free (hS.box 1 rfl) 6
 have z0 := heap_lt (hS.box 1 rfl)
 have hS := hS.set 1 rfl 6 (.int .i64 err_)
 have hS : St w0 (w5.setCell ⟨rb + 1, 6, none⟩ (.int .i64 err_)) (rdt pb bs s5 :: bx (rb + 1) #[.int .i64 kind_, .string path_, .string data_, .slice aclA_ acl_.length aclC_, .int .i64 owner_, .int .i64 number_, .int .i64 err_, .slice none 0 0] 61 :: bx eb #[.int .i64 err_] 3 :: bx rb #[.int .i64 0, .string ⟨#[]⟩, .string ⟨#[]⟩, .slice none 0 0, .int .i64 0, .int .i64 0, .int .i64 0, .slice none 0 0] 61 :: sl 46 2 aclA_ acl_.length aclC_ (acl_.flatMap Acl.cells) :: grp (acl_.map fun x => grp (Acl.things x)) :: l) := hS
 obtain ⟨X, hX⟩ : ∃ x : Txn, x = ⟨kind_, path_, data_, acl_, aclA_, aclC_, owner_, number_, err_, none, 0, 0⟩ := ⟨_, rfl⟩
 have HQ : Hid (Txn.fine X ∧ s5 = qTxn bs s ∧ Rel bs s s5 (Txn.bytes X)) := by
  rw [hX]
  exact Lib.hid ⟨⟨H1.out.1, H5.out.1.1, H5.out.1.2.1, H5.out.1.2.2, H4.out.1⟩, by rw [H5.out.2.1, H4.out.2.1, H3.out.2.1, H2.out.2.1, H1.out.2.1]; rfl, ((((H1.out.2.2.trans H2.out.2.2).trans H3.out.2.2).trans H4.out.2.2).trans H5.out.2.2)⟩
 have hS : St w0 (w5.setCell ⟨rb + 1, 6, none⟩ (.int .i64 err_)) (rdt pb bs s5 :: bx (rb + 1) X.cells.toArray 61 :: bx eb #[.int .i64 err_] 3 :: bx rb #[.int .i64 0, .string ⟨#[]⟩, .string ⟨#[]⟩, .slice none 0 0, .int .i64 0, .int .i64 0, .int .i64 0, .slice none 0 0] 61 :: (Txn.things X ++ l)) := by rw [hX]; exact hS
 clear hX H1 H2 H3 H4 H5
 have z1 := heap_lt (hS.box 3 rfl)
 go_wp2_with (first | ((with_reducible refine at_list ?_); refine wpList_load_chunk 8 _ Tryz.underlying61 rfl sizeTxn ⟨rb + 1, 0, none⟩ rfl X.cells rfl (box_chunk (hS.box 1 rfl)) ?_) | ((with_reducible refine at_list ?_); refine wpList_store_whole 8 sizeTxn rb rfl _ _ (hS.box 3 rfl) rfl X.cells rfl rfl (by kernel_rfl) ?_; intro w30 hg4 hM4 hz4))
 refine bodyPost_ret (results_cell rfl _ w30 rb _ _ _ _ rfl hg4 Tryz.underlying61 rfl sizeTxn) rfl ?_
 have hS := hS.rebox 3 rfl hg4 hM4
 exact ⟨X, s5, rfl, HQ, St.regrp1 (Txn.things X) hS.tail2.tail2.tail2⟩
set_option maxHeartbeats 2000000 in
theorem rowsTxn_st {w0 w : World} {l : List Thing} {pb : Nat} {bs : List UInt8} {s : RS} (h : St w0 w (rdt pb bs s :: l)) :
 Calls Tryz.prog 155 #[.pointer (some ⟨pb, 0, none⟩), .func (.func 154) #[] #[]] w (RowTk 61 8 Txn.cells Txn.fine Txn.things (qTxn bs) Txn.bytes w0 pb bs s l) := by
 obtain ⟨ip, iz, hi1, hi2, hi3, hi4, hi5⟩ := info_row infoTxn
 have HI := Lib.hid (And.intro hi1 (And.intro hi2 (And.intro hi3 (And.intro hi4 hi5))))
 have HS := Lib.hid h
 clear h hi1 hi2 hi3 hi4 hi5
 go_enter Tryz.func155, Tryz.ntmps155
 go_wp2_with fail
 refine (rcount_st HS.out 0 rfl 256 (by omega)).mono ?_
 rintro e w1 ⟨rfl, hS⟩
 simp only [List.set_cons_zero] at hS
 have hle : (rcount bs 256 s).1 ≤ 256 := (rcount_ok (most := 256) (HS.out.rok 0 rfl).1).2
 obtain ⟨n, hn⟩ : ∃ n, (rcount bs 256 s).1 = n := ⟨_, rfl⟩
 obtain ⟨s1, hs1⟩ : ∃ s1, (rcount bs 256 s).2 = s1 := ⟨_, rfl⟩
 rw [hn] at hle ⊢
 rw [hs1] at hS
 have hS := hS.rowStart 61 8
 have HN := Lib.hid hn
 have HT := Lib.hid hs1
 clear HS hn hs1
 have HS := Lib.hid hS
 clear hS
 go_wp2
 go_loopg [5, 8] n (fun g x y wr => ∃ (k : Nat) (L : List Txn) (a : Option Addr) (cap : Nat) (s' : RS), k + g = n ∧ y = .int .i64 k ∧ x = .slice a k cap ∧ Hid (L.length = k ∧ (∀ x ∈ L, Txn.fine x) ∧ s' = iter (qTxn bs) s1 k ∧ Rel bs s1 s' (L.flatMap Txn.bytes)) ∧ St w0 wr (rdt pb bs s' :: sl 61 8 a k cap (L.flatMap Txn.cells) :: grp (L.map fun x => grp (Txn.things x)) :: l))
 case atStart => exact ⟨0, [], none, 0, s1, by omega, rfl, rfl, Lib.hid ⟨rfl, fun _ h => absurd h List.not_mem_nil, rfl, Rel.refl⟩, HS.out⟩
 case round =>
  obtain ⟨k, L, a, cap, s', hkg, rfl, rfl, HL, hS⟩ := hrel
  by_cases hlt : k < n
  ·go_wp2_with fail
   refine (takePart_st hS).mono ?_
   clear hS
   rintro e w2 ⟨t, s2, rfl, HQ, hS⟩
   simp only [Txn.cells]
   have hS := hS.absorb.slice1 #[.int .i64 t.kind, .string t.path, .string t.data, .slice t.aclA t.acl.length t.aclC, .int .i64 t.owner, .int .i64 t.number, .int .i64 t.err, .slice t.subsA t.subsN t.subsC] 61 8 1 rfl (by unfold maxLen; omega)
   have HR := Lib.hid (hS.slice 0 rfl).rd
   have HA := Lib.hid (hS.slice 2 rfl)
   have HS := Lib.hid hS
   clear hS
   go_wp2_with (at_builtin; refine wpList_append 61 ip iz 8 112 (by kernel_rfl) HI.out.1 HI.out.2.1 HI.out.2.2.1 HI.out.2.2.2.1 HI.out.2.2.2.2 a k cap (L.flatMap Txn.cells) rfl HA.out (some ⟨w2.heap.size, 0, none⟩) 1 1 t.cells rfl HR.out (Txn.one t) (by unfold maxLen; omega) (by omega) ?_; intro a6 cap6 w6 hS6 hM6 hF6 hN6 hR6; have hSA := (HS.out.regrow 2 rfl hS6 hM6 hF6).tail; have HSA := Lib.hid hSA; clear hN6 hR6 hSA hS6 hM6 hF6)
   go_roundg (gk - 1)
   case measure => omega
   case rel =>
    refine ⟨k + 1, L ++ [t], a6, cap6, s2, by omega, by simp, rfl, Lib.hid ⟨by simp [HL.out.1], list_snoc_all HL.out.2.1 HQ.out.1, HQ.out.2.1.trans (congrArg _ HL.out.2.2.1), by rw [flat_snoc]; exact HL.out.2.2.2.trans HQ.out.2.2⟩, ?_⟩
    rw [flat_snoc, List.map_append]
    exact HSA.out
  ·have hk : k = n := by omega
   have HK := Lib.hid hk
   clear hkg hk
   go_wp2
   go_ret
   refine ⟨L, a, cap, s', by rw [HL.out.1]; rfl, Lib.hid ⟨⟨HL.out.2.1, by rw [HL.out.1, HK.out]; exact hle⟩, ?_, ?_⟩, ?_⟩
   ·unfold qList
    rw [HN.out, HT.out, ← HK.out]
    exact HL.out.2.2.1
   ·exact rel_list (by rw [HT.out]; exact HL.out.2.2.2) (by rw [HL.out.1, HN.out]; exact HK.out)
   ·rw [HL.out.1]; exact hS
end Go.Proofs.YtonnbkebjeoflaaGreatDoor.W
namespace Go.Proofs.YtonnbkebjeoflaaGreatDoor.W
open Go.RowKit
theorem _root_.Go.Proofs.YtonnbkebjeoflaaGreatDoor.St.pack {w0 w : World} {a b c : Thing} (ts l : List Thing) (h : St w0 w (a :: b :: c :: grp ts :: l)) : St w0 w (a :: grp (ts ++ [b, c]) :: l) := by
 have h1 : St w0 w (grp ts :: b :: c :: a :: l) := h.perm (by
  refine (List.perm_append_comm_assoc [a, b, c] [grp ts] l).trans (.cons _ ?_)
  exact List.perm_append_comm_assoc [a] [b, c] l)
 have h2 : St w0 w ((ts ++ [b, c]) ++ (a :: l)) := by rw [List.append_assoc]; exact h1.ungrp
 exact h2.regrp.swap
def TxnW.fine (p : Txn × List Txn) : Prop := p.1.fine ∧ p.1.subsN = p.2.length ∧ (∀ a ∈ p.2, Txn.fine a) ∧ p.2.length ≤ 256
def TxnW.things (p : Txn × List Txn) : List Thing := Txn.things p.1 ++ [sl 61 8 p.1.subsA p.1.subsN p.1.subsC (p.2.flatMap Txn.cells), grp (p.2.map fun a => grp (Txn.things a))]
end Go.Proofs.YtonnbkebjeoflaaGreatDoor.W
