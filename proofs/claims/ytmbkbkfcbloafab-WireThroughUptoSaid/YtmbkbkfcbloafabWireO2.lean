/-
  Replies: what package wire lays them as.
  Conditions: the lists lie in the world at the start; the bytes fit.
-/
import Derived.Test.YtmbkbkfcbloafabWireO
import Derived.Test.YtmbkbkfcbloafabWireL2
namespace Go.Proofs.Ytmbkbkfcbloafab
open Go.RowKit
set_option linter.unusedSectionVars false
set_option linter.unusedSimpArgs false
set_option linter.unusedVariables false
set_option maxRecDepth 100000

structure Rep where
  p : Ans
  subs : List Ans
def Rep.cells (x : Rep) : List Value := x.p.cells
def Rep.bytes (x : Rep) : List UInt8 := x.p.bytes ++ listB Ans.bytes x.subs
structure Rep.ok (w : World) (x : Rep) : Prop where
  p : x.p.ok w
  n : x.p.subsN = x.subs.length
  rd : Rd w 17 x.p.subsA x.subs.length x.p.subsC (x.subs.flatMap Ans.cells)
  all : ∀ a ∈ x.subs, Ans.ok w a

set_option maxHeartbeats 4000000 in
theorem layReply_st {w0 w : World} {l : List Thing} {pb : Nat} {xs : List UInt8} (h : St w0 w (wrt pb xs :: l)) (x : Rep) (hx : x.ok w0) (hf : bfits ((xs ++ x.bytes).length + 100)) :
    Calls Try.prog 42 #[.pointer (some ⟨pb, 0, none⟩), .agg x.cells.toArray] w (StPost (.tuple #[]) w0 (wrt pb (xs ++ x.bytes) :: l)) := by
  have hS := h.box2 #[.int .i64 x.p.xid, .int .i64 x.p.zxid, .int .i64 x.p.err, .string x.p.path, .string x.p.data, .int .i64 x.p.s0, .int .i64 x.p.s1, .int .i64 x.p.s2, .int .i64 x.p.s3, .int .i64 x.p.s4, .int .i64 x.p.s5, .int .i64 x.p.s6, .int .i64 x.p.s7, .int .i64 x.p.s8, .slice x.p.aclA x.p.acl.length x.p.aclC, .slice x.p.kidsA x.p.kids.length x.p.kidsC, .slice x.p.subsA x.p.subsN x.p.subsC] 53
  have HX := Lib.hid hx
  have HF := Lib.hid hf
  simp only [Rep.cells, Ans.cells]
  clear h hx hf
  go_enter Try.func42, Try.ntmps42
  go_wp2_with ((with_reducible refine at_list ?_); refine wpList_load_chunk 17 _ Try.underlying53 rfl sizeAns ⟨w.heap.size, 0, none⟩ rfl x.p.cells rfl (box_chunk (hS.box 1 rfl)) ?_)
  generalize w.alloc (.cells #[.int .i64 x.p.xid, .int .i64 x.p.zxid, .int .i64 x.p.err, .string x.p.path, .string x.p.data, .int .i64 x.p.s0, .int .i64 x.p.s1, .int .i64 x.p.s2, .int .i64 x.p.s3, .int .i64 x.p.s4, .int .i64 x.p.s5, .int .i64 x.p.s6, .int .i64 x.p.s7, .int .i64 x.p.s8, .slice x.p.aclA x.p.acl.length x.p.aclC, .slice x.p.kidsA x.p.kids.length x.p.kidsC, .slice x.p.subsA x.p.subsN x.p.subsC] 53) = W at *
  generalize w.heap.size = tb at *
  refine (layAnswer_st hS x.p HX.out.p (HF.out.mono (by unfold Rep.bytes; simp only [List.length_append, txtB, numB, toList_size]; omega))).mono ?_
  clear hS
  rintro e w1 ⟨rfl, hS⟩
  have z0 := heap_lt (hS.box 1 rfl)
  have c16 : w1.cell? ⟨tb, 16, none⟩ = some (.slice x.p.subsA x.subs.length x.p.subsC) := by rw [← HX.out.n]; exact blk_cell (hS.box 1 rfl) 16 _ rfl
  go_wp2_with fail
  refine (listAns_st hS x.p.subsA x.p.subsC x.subs HX.out.rd HX.out.all (HF.out.mono (by unfold Rep.bytes; simp only [List.length_append, txtB, numB, toList_size]; omega))).mono ?_
  clear hS z0 c16
  rintro e w2 ⟨rfl, hS⟩
  go_wp2
  go_end0
  refine ⟨rfl, ?_⟩
  have e : xs ++ x.bytes = xs ++ x.p.bytes ++ listB Ans.bytes x.subs := by simp only [Rep.bytes, List.append_assoc]
  rw [e]
  exact hS.tail2
end Go.Proofs.Ytmbkbkfcbloafab
