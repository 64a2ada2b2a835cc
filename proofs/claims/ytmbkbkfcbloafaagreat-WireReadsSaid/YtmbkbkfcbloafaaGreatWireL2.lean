/-
  Things with lists: what package wire lays them as.
  Conditions: the lists lie in the world at the start; the bytes fit.
-/
import Derived.Test.YtmbkbkfcbloafaaGreatWireL
namespace Go.Proofs.YtmbkbkfcbloafaaGreat
open Go.RowKit
set_option linter.unusedSectionVars false
set_option linter.unusedSimpArgs false
set_option linter.unusedVariables false
set_option maxRecDepth 100000

theorem sizeStat : (Tryz.prog.info? 67).map (·.size) = some 9 := by kernel_rfl
theorem box_mid {w : World} {pb : Nat} {T : TypeId} (pre cs post : List Value) (h : w.heap[pb]? = some (.cells (pre ++ cs ++ post).toArray T (0, 0))) : ∀ j u, cs[j]? = some u → w.cell? ((⟨pb, pre.length, none⟩ : Addr).add j) = some u := by
  intro j u hj
  rw [add_none]
  refine blk_cell h _ u ?_
  have hl := (List.getElem?_eq_some_iff.1 hj).1
  rw [List.getElem?_toArray, List.append_assoc, List.getElem?_append_right (by omega), Nat.add_sub_cancel_left, List.getElem?_append_left hl]
  exact hj

structure Ans where
  xid : Int
  zxid : Int
  err : Int
  path : ByteArray
  data : ByteArray
  s0 : Int
  s1 : Int
  s2 : Int
  s3 : Int
  s4 : Int
  s5 : Int
  s6 : Int
  s7 : Int
  s8 : Int
  acl : List Acl
  aclA : Option Addr
  aclC : Nat
  kids : List ByteArray
  kidsA : Option Addr
  kidsC : Nat
  subsA : Option Addr
  subsN : Nat
  subsC : Nat
def Ans.cells (x : Ans) : List Value := [.int .i64 x.xid, .int .i64 x.zxid, .int .i64 x.err, .string x.path, .string x.data, .int .i64 x.s0, .int .i64 x.s1, .int .i64 x.s2, .int .i64 x.s3, .int .i64 x.s4, .int .i64 x.s5, .int .i64 x.s6, .int .i64 x.s7, .int .i64 x.s8, .slice x.aclA x.acl.length x.aclC, .slice x.kidsA x.kids.length x.kidsC, .slice x.subsA x.subsN x.subsC]
def Ans.bytes (x : Ans) : List UInt8 := numsB [x.xid, x.zxid, x.err] ++ txtB x.path ++ txtB x.data ++ numsB [x.s0, x.s1, x.s2, x.s3, x.s4, x.s5, x.s6, x.s7, x.s8] ++ listB Acl.bytes x.acl ++ listB txtB x.kids
def Ans.ok (w : World) (x : Ans) : Prop := i64 x.xid ∧ i64 x.zxid ∧ i64 x.err ∧ i64 x.s0 ∧ i64 x.s1 ∧ i64 x.s2 ∧ i64 x.s3 ∧ i64 x.s4 ∧ i64 x.s5 ∧ i64 x.s6 ∧ i64 x.s7 ∧ i64 x.s8 ∧ Rd w 2 x.aclA x.acl.length x.aclC (x.acl.flatMap Acl.cells) ∧ (∀ a ∈ x.acl, Acl.ok w a) ∧ Rd w 1 x.kidsA x.kids.length x.kidsC (x.kids.flatMap strC)
theorem sizeAns : (Tryz.prog.info? 70).map (·.size) = some 17 := by kernel_rfl

end Go.Proofs.YtmbkbkfcbloafaaGreat
