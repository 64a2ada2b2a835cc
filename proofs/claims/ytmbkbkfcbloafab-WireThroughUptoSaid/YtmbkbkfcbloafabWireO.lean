/-
  Entries, requests: what package wire lays them as.
  Conditions: the lists lie in the world at the start; the bytes fit.
-/
import Derived.Test.YtmbkbkfcbloafabWireM
namespace Go.Proofs.Ytmbkbkfcbloafab
open Go.RowKit
set_option linter.unusedSectionVars false
set_option linter.unusedSimpArgs false
set_option linter.unusedVariables false
set_option maxRecDepth 100000

/-- An entry: its transaction's lists are told with it. -/
structure Ent where
  zxid : Int
  session : Int
  xid : Int
  t : Txn
  subs : List Txn
def Ent.cells (x : Ent) : List Value := [.int .i64 x.zxid, .int .i64 x.session, .int .i64 x.xid, .int .i64 x.t.kind, .string x.t.path, .string x.t.data, .slice x.t.aclA x.t.acl.length x.t.aclC, .int .i64 x.t.owner, .int .i64 x.t.number, .int .i64 x.t.err, .slice x.t.subsA x.t.subsN x.t.subsC]
def Ent.bytes (x : Ent) : List UInt8 := numsB [x.zxid, x.session, x.xid] ++ x.t.bytes ++ listB Txn.bytes x.subs
structure Ent.ok (w : World) (x : Ent) : Prop where
  zxid : i64 x.zxid
  session : i64 x.session
  xid : i64 x.xid
  t : x.t.ok w
  n : x.t.subsN = x.subs.length
  rd : Rd w 8 x.t.subsA x.subs.length x.t.subsC (x.subs.flatMap Txn.cells)
  all : ∀ a ∈ x.subs, Txn.ok w a
theorem sizeEnt : (Try.prog.info? 28).map (·.size) = some 11 := by kernel_rfl
structure Req where
  q : Op
  subs : List Op
  armed : List Arm
def Req.cells (x : Req) : List Value := x.q.cells
def Req.bytes (x : Req) : List UInt8 := x.q.bytes ++ listB Op.bytes x.subs ++ listB Arm.bytes x.armed
structure Req.ok (w : World) (x : Req) : Prop where
  q : x.q.ok w
  n : x.q.subsN = x.subs.length
  rd : Rd w 10 x.q.subsA x.subs.length x.q.subsC (x.subs.flatMap Op.cells)
  all : ∀ a ∈ x.subs, Op.ok w a
  an : x.q.armedN = x.armed.length
  ard : Rd w 5 x.q.armedA x.armed.length x.q.armedC (x.armed.flatMap Arm.cells)
  aall : ∀ a ∈ x.armed, Arm.ok w a
theorem box_part {w : World} {pb : Nat} {cs : List Value} {T : TypeId} (pre : List Value) (h : w.heap[pb]? = some (.cells (pre ++ cs).toArray T (0, 0))) : ∀ j u, cs[j]? = some u → w.cell? ((⟨pb, pre.length, none⟩ : Addr).add j) = some u := by
  intro j u hj
  rw [add_none]
  refine blk_cell h _ u ?_
  rw [List.getElem?_toArray, List.getElem?_append_right (by omega), Nat.add_sub_cancel_left]
  exact hj

set_option maxHeartbeats 4000000 in
theorem layEntry_st {w0 w : World} {l : List Thing} {pb : Nat} {xs : List UInt8} (h : St w0 w (wrt pb xs :: l)) (x : Ent) (hx : x.ok w0) (hf : bfits ((xs ++ x.bytes).length + 100)) :
    Calls Try.prog 22 #[.pointer (some ⟨pb, 0, none⟩), .agg x.cells.toArray] w (StPost (.tuple #[]) w0 (wrt pb (xs ++ x.bytes) :: l)) := by
  have hS := h.box2 #[.int .i64 x.zxid, .int .i64 x.session, .int .i64 x.xid, .int .i64 x.t.kind, .string x.t.path, .string x.t.data, .slice x.t.aclA x.t.acl.length x.t.aclC, .int .i64 x.t.owner, .int .i64 x.t.number, .int .i64 x.t.err, .slice x.t.subsA x.t.subsN x.t.subsC] 28
  have hz0 : (w.alloc (.cells #[.int .i64 x.zxid, .int .i64 x.session, .int .i64 x.xid, .int .i64 x.t.kind, .string x.t.path, .string x.t.data, .slice x.t.aclA x.t.acl.length x.t.aclC, .int .i64 x.t.owner, .int .i64 x.t.number, .int .i64 x.t.err, .slice x.t.subsA x.t.subsN x.t.subsC] 28)).heap.size = w.heap.size + 1 := World.size_alloc ..
  have HX := Lib.hid hx
  have HF := Lib.hid hf
  simp only [Ent.cells]
  clear h hx hf
  go_enter Try.func22, Try.ntmps22
  go_wp2_with fail
  generalize w.alloc (.cells #[.int .i64 x.zxid, .int .i64 x.session, .int .i64 x.xid, .int .i64 x.t.kind, .string x.t.path, .string x.t.data, .slice x.t.aclA x.t.acl.length x.t.aclC, .int .i64 x.t.owner, .int .i64 x.t.number, .int .i64 x.t.err, .slice x.t.subsA x.t.subsN x.t.subsC] 28) = W at *
  generalize w.heap.size = tb at *
  have hS := hS.slice2 #[.int .i64 x.zxid, .int .i64 x.session, .int .i64 x.xid] 3 1 3 rfl (by unfold maxLen; omega)
  rw [hz0] at hS
  refine (numbers_st hS 0 1 rfl _ 3 3 [x.zxid, x.session, x.xid] rfl (by omega) rfl (by intro t ht; simp only [List.mem_cons, List.not_mem_nil, or_false] at ht; rcases ht with rfl | rfl | rfl <;> first | exact HX.out.zxid | exact HX.out.session | exact HX.out.xid) (HF.out.mono (by unfold Ent.bytes; simp only [List.length_append, txtB, numB, toList_size]; omega)) (by omega)).mono ?_
  clear hS hz0
  rintro e w1 ⟨rfl, hS⟩
  simp only [List.set_cons_zero] at hS
  have hS := hS.tail2
  have z0 := heap_lt (hS.box 1 rfl)
  have HC : Hid (∀ j u, (x.t.cells)[j]? = some u → w1.cell? ((⟨tb, 3, none⟩ : Addr).add j) = some u) := Lib.hid (box_part (cs := x.t.cells) [.int .i64 x.zxid, .int .i64 x.session, .int .i64 x.xid] (hS.box 1 rfl))
  go_wp2_with ((with_reducible refine at_list ?_); refine wpList_load_chunk 8 _ Try.underlying26 rfl sizeTxn ⟨tb, 3, none⟩ rfl x.t.cells rfl HC.out ?_)
  refine (layPart_st hS x.t HX.out.t (HF.out.mono (by unfold Ent.bytes; simp only [List.length_append, txtB, numB, toList_size]; omega))).mono ?_
  clear hS z0 HC
  rintro e w2 ⟨rfl, hS⟩
  have z0 := heap_lt (hS.box 1 rfl)
  have c10 : w2.cell? ⟨tb, 10, none⟩ = some (.slice x.t.subsA x.subs.length x.t.subsC) := by rw [← HX.out.n]; exact blk_cell (hS.box 1 rfl) 10 _ rfl
  go_wp2_with fail
  refine (listTxn_st hS x.t.subsA x.t.subsC x.subs HX.out.rd HX.out.all (HF.out.mono (by unfold Ent.bytes; simp only [List.length_append, txtB, numB, toList_size]; omega))).mono ?_
  clear hS z0 c10
  rintro e w3 ⟨rfl, hS⟩
  go_wp2
  go_end0
  refine ⟨rfl, ?_⟩
  have e : xs ++ x.bytes = xs ++ numsB [x.zxid, x.session, x.xid] ++ x.t.bytes ++ listB Txn.bytes x.subs := by simp only [Ent.bytes, List.append_assoc]
  rw [e]
  exact hS.tail2

set_option maxHeartbeats 4000000 in
theorem layRequest_st {w0 w : World} {l : List Thing} {pb : Nat} {xs : List UInt8} (h : St w0 w (wrt pb xs :: l)) (x : Req) (hx : x.ok w0) (hf : bfits ((xs ++ x.bytes).length + 100)) :
    Calls Try.prog 40 #[.pointer (some ⟨pb, 0, none⟩), .agg x.cells.toArray] w (StPost (.tuple #[]) w0 (wrt pb (xs ++ x.bytes) :: l)) := by
  have hS := h.box2 #[.int .i64 x.q.kind, .int .i64 x.q.xid, .string x.q.path, .string x.q.data, .slice x.q.aclA x.q.acl.length x.q.aclC, .int .i64 x.q.flags, .int .i64 x.q.version, .bool x.q.watch, .slice x.q.subsA x.q.subsN x.q.subsC, .slice x.q.armedA x.q.armedN x.q.armedC] 34
  have HX := Lib.hid hx
  have HF := Lib.hid hf
  simp only [Req.cells, Op.cells]
  clear h hx hf
  go_enter Try.func40, Try.ntmps40
  go_wp2_with ((with_reducible refine at_list ?_); refine wpList_load_chunk 10 _ Try.underlying34 rfl sizeOp ⟨w.heap.size, 0, none⟩ rfl x.q.cells rfl (box_chunk (hS.box 1 rfl)) ?_)
  generalize w.alloc (.cells #[.int .i64 x.q.kind, .int .i64 x.q.xid, .string x.q.path, .string x.q.data, .slice x.q.aclA x.q.acl.length x.q.aclC, .int .i64 x.q.flags, .int .i64 x.q.version, .bool x.q.watch, .slice x.q.subsA x.q.subsN x.q.subsC, .slice x.q.armedA x.q.armedN x.q.armedC] 34) = W at *
  generalize w.heap.size = tb at *
  refine (layOp_st hS x.q HX.out.q (HF.out.mono (by unfold Req.bytes; simp only [List.length_append, txtB, numB, toList_size]; omega))).mono ?_
  clear hS
  rintro e w1 ⟨rfl, hS⟩
  have z0 := heap_lt (hS.box 1 rfl)
  have c8 : w1.cell? ⟨tb, 8, none⟩ = some (.slice x.q.subsA x.subs.length x.q.subsC) := by rw [← HX.out.n]; exact blk_cell (hS.box 1 rfl) 8 _ rfl
  go_wp2_with fail
  refine (listOp_st hS x.q.subsA x.q.subsC x.subs HX.out.rd HX.out.all (HF.out.mono (by unfold Req.bytes; simp only [List.length_append, txtB, numB, toList_size]; omega))).mono ?_
  clear hS z0 c8
  rintro e w2 ⟨rfl, hS⟩
  have z0 := heap_lt (hS.box 1 rfl)
  have c9 : w2.cell? ⟨tb, 9, none⟩ = some (.slice x.q.armedA x.armed.length x.q.armedC) := by rw [← HX.out.an]; exact blk_cell (hS.box 1 rfl) 9 _ rfl
  go_wp2_with fail
  refine (listArm_st hS x.q.armedA x.q.armedC x.armed HX.out.ard HX.out.aall (HF.out.mono (by unfold Req.bytes; simp only [List.length_append, txtB, numB, toList_size]; omega))).mono ?_
  clear hS z0 c9
  rintro e w3 ⟨rfl, hS⟩
  go_wp2
  go_end0
  refine ⟨rfl, ?_⟩
  have e : xs ++ x.bytes = xs ++ x.q.bytes ++ listB Op.bytes x.subs ++ listB Arm.bytes x.armed := by simp only [Req.bytes, List.append_assoc]
  rw [e]
  exact hS.tail2
end Go.Proofs.Ytmbkbkfcbloafab
