/-
  Things with lists taken up by package wire.
  No condition: every law states its own.
-/
import Derived.Test.YtmbkbkfcbloafabWireN
import Derived.Test.YtmbkbkfcbloafabWireL2
import Derived.Deep.RegionHeld3
namespace Go.Proofs.Ytmbkbkfcbloafab
open Go.RowKit
set_option linter.unusedSectionVars false
set_option linter.unusedSimpArgs false
set_option linter.unusedVariables false
set_option maxRecDepth 100000

def cfill (c : Array Value) (ps : List (Nat × Nat)) (f : Nat → Value) : Nat → Array Value
  | 0 => c
  | k + 1 => (cfill c ps f k).setIfInBounds (ps.getD k (0, 0)).2 (f k)
theorem vfill_one (pb : Nat) (c : Array Value) (T : TypeId) (ps : List (Nat × Nat)) (f : Nat → Value) (h : ps.all (fun p => p.1 == 0) = true) : ∀ k, vfill [⟨pb, c, T⟩] ps f k = [⟨pb, cfill c ps f k, T⟩]
  | 0 => rfl
  | k + 1 => by
    have h0 : (ps.getD k (0, 0)).1 = 0 := by
      by_cases hk : k < ps.length
      · have hm := List.all_eq_true.1 h _ (List.getElem_mem hk)
        rw [List.getD_eq_getElem?_getD, List.getElem?_eq_getElem hk]
        simpa using hm
      · rw [List.getD_eq_getElem?_getD, List.getElem?_eq_none (by omega)]; rfl
    rw [vfill, vfill_one pb c T ps f h k, h0]
    rfl
theorem fill9 (a0 a1 a2 a3 a4 z0 z1 z2 z3 z4 z5 z6 z7 z8 e0 e1 e2 : Value) (f : Nat → Value) :
    cfill #[a0, a1, a2, a3, a4, z0, z1, z2, z3, z4, z5, z6, z7, z8, e0, e1, e2] [(0, 5), (0, 6), (0, 7), (0, 8), (0, 9), (0, 10), (0, 11), (0, 12), (0, 13)] f 9 = #[a0, a1, a2, a3, a4, f 0, f 1, f 2, f 3, f 4, f 5, f 6, f 7, f 8, e0, e1, e2] := by
  simp only [cfill, List.getD_cons_zero, List.getD_cons_succ, List.setIfInBounds_toArray, List.set_cons_succ, List.set_cons_zero]

def Ans.fine (x : Ans) : Prop := i64 x.xid ∧ i64 x.zxid ∧ i64 x.err ∧ i64 x.s0 ∧ i64 x.s1 ∧ i64 x.s2 ∧ i64 x.s3 ∧ i64 x.s4 ∧ i64 x.s5 ∧ i64 x.s6 ∧ i64 x.s7 ∧ i64 x.s8 ∧ ((∀ a ∈ x.acl, Acl.fine a) ∧ x.acl.length ≤ 256) ∧ x.kids.length ≤ 256
def Ans.things (x : Ans) : List Thing := [sl 146 2 x.aclA x.acl.length x.aclC (x.acl.flatMap Acl.cells), grp (x.acl.map fun a => grp (Acl.things a)), sl 9 1 x.kidsA x.kids.length x.kidsC (x.kids.flatMap strC), grp (x.kids.map fun a => grp [])]
theorem infoAns : (Try.prog.info? 53).map (fun i => (i.zero.map (·.cells.size), i.size, i.bytes)) = some (some 17, 17, 200) := by kernel_rfl
theorem Ans.one (x : Ans) : ∀ u ∈ x.cells, u.oneCell' = true := by
  intro u hu
  simp only [Ans.cells, List.mem_cons, List.not_mem_nil, or_false] at hu
  rcases hu with rfl | rfl | rfl | rfl | rfl | rfl | rfl | rfl | rfl | rfl | rfl | rfl | rfl | rfl | rfl | rfl | rfl <;> rfl

set_option maxHeartbeats 4000000 in
theorem takeAnswer_st {w0 w : World} {l : List Thing} {pb : Nat} {bs : List UInt8} {s : RS} (h : St w0 w (rdt pb bs s :: l)) :
    Calls Try.prog 75 #[.pointer (some ⟨pb, 0, none⟩)] w (TkG (fun x => Value.agg (Ans.cells x).toArray) Ans.fine Ans.things (qAns bs) Ans.bytes w0 pb bs s l) := by
  have hS := (h.box2 #[.int .i64 0, .int .i64 0, .int .i64 0, .string ⟨#[]⟩, .string ⟨#[]⟩, .int .i64 0, .int .i64 0, .int .i64 0, .int .i64 0, .int .i64 0, .int .i64 0, .int .i64 0, .int .i64 0, .int .i64 0, .slice none 0 0, .slice none 0 0, .slice none 0 0] 53).box2 #[.int .i64 0, .int .i64 0, .int .i64 0, .string ⟨#[]⟩, .string ⟨#[]⟩, .int .i64 0, .int .i64 0, .int .i64 0, .int .i64 0, .int .i64 0, .int .i64 0, .int .i64 0, .int .i64 0, .int .i64 0, .slice none 0 0, .slice none 0 0, .slice none 0 0] 53
  have hS := (hS.box2 #[.int .i64 0] 3).perm (.cons _ (.swap _ _ _))
  simp only [World.size_alloc] at hS
  have hz0 : (((w.alloc (.cells #[.int .i64 0, .int .i64 0, .int .i64 0, .string ⟨#[]⟩, .string ⟨#[]⟩, .int .i64 0, .int .i64 0, .int .i64 0, .int .i64 0, .int .i64 0, .int .i64 0, .int .i64 0, .int .i64 0, .int .i64 0, .slice none 0 0, .slice none 0 0, .slice none 0 0] 53)).alloc (.cells #[.int .i64 0, .int .i64 0, .int .i64 0, .string ⟨#[]⟩, .string ⟨#[]⟩, .int .i64 0, .int .i64 0, .int .i64 0, .int .i64 0, .int .i64 0, .int .i64 0, .int .i64 0, .int .i64 0, .int .i64 0, .slice none 0 0, .slice none 0 0, .slice none 0 0] 53)).alloc (.cells #[.int .i64 0] 3)).heap.size = w.heap.size + 1 + 1 + 1 := by simp only [World.size_alloc]
  clear h
  go_enter Try.func75, Try.ntmps75
  go_wp2_with fail
  generalize ((w.alloc (.cells #[.int .i64 0, .int .i64 0, .int .i64 0, .string ⟨#[]⟩, .string ⟨#[]⟩, .int .i64 0, .int .i64 0, .int .i64 0, .int .i64 0, .int .i64 0, .int .i64 0, .int .i64 0, .int .i64 0, .int .i64 0, .slice none 0 0, .slice none 0 0, .slice none 0 0] 53)).alloc (.cells #[.int .i64 0, .int .i64 0, .int .i64 0, .string ⟨#[]⟩, .string ⟨#[]⟩, .int .i64 0, .int .i64 0, .int .i64 0, .int .i64 0, .int .i64 0, .int .i64 0, .int .i64 0, .int .i64 0, .int .i64 0, .slice none 0 0, .slice none 0 0, .slice none 0 0] 53)).alloc (.cells #[.int .i64 0] 3) = W at *
  generalize w.heap.size = rb at *
  have hS := hS.slice2 #[.pointer (some ⟨rb + 1, 0, none⟩), .pointer (some ⟨rb + 1, 1, none⟩), .pointer (some ⟨rb + 1 + 1, 0, none⟩)] 118 1 3 rfl (by unfold maxLen; omega)
  rw [hz0] at hS
  refine (into_st (l := bx rb #[.int .i64 0, .int .i64 0, .int .i64 0, .string ⟨#[]⟩, .string ⟨#[]⟩, .int .i64 0, .int .i64 0, .int .i64 0, .int .i64 0, .int .i64 0, .int .i64 0, .int .i64 0, .int .i64 0, .int .i64 0, .slice none 0 0, .slice none 0 0, .slice none 0 0] 53 :: l) [⟨rb + 1, #[.int .i64 0, .int .i64 0, .int .i64 0, .string ⟨#[]⟩, .string ⟨#[]⟩, .int .i64 0, .int .i64 0, .int .i64 0, .int .i64 0, .int .i64 0, .int .i64 0, .int .i64 0, .int .i64 0, .int .i64 0, .slice none 0 0, .slice none 0 0, .slice none 0 0], 53⟩, ⟨(rb + 1 + 1), #[.int .i64 0], 3⟩] [(0, 0), (0, 1), (1, 0)] hS rfl (by intro p hp; simp only [List.mem_cons, List.not_mem_nil, or_false] at hp; rcases hp with rfl | rfl | rfl <;> exact ⟨_, rfl, by simp⟩) (by omega)).mono ?_
  have hok := (hS.rok 0 rfl).1
  have KH1 : (i64 (rv bs s 0) ∧ i64 (rv bs s 1) ∧ i64 (rv bs s 2)) ∧ rs bs s 3 = rs bs s 3 ∧ Rel bs s (rs bs s 3) (numsB [rv bs s 0, rv bs s 1, rv bs s 2]) := ⟨⟨rv_i64 hok 0, rv_i64 hok 1, rv_i64 hok 2⟩, rfl, rel_nums 3⟩
  clear hS hok hz0
  rintro e w1 ⟨rfl, hS⟩
  have hS : St w0 w1 (rdt pb bs (rs bs s 3) :: sl 118 1 (some ⟨rb + 1 + 1 + 1, 0, none⟩) 3 3 #[.pointer (some ⟨rb + 1, 0, none⟩), .pointer (some ⟨rb + 1, 1, none⟩), .pointer (some ⟨(rb + 1 + 1), 0, none⟩)].toList :: bx (rb + 1) #[.int .i64 (rv bs s 0), .int .i64 (rv bs s 1), .int .i64 0, .string ⟨#[]⟩, .string ⟨#[]⟩, .int .i64 0, .int .i64 0, .int .i64 0, .int .i64 0, .int .i64 0, .int .i64 0, .int .i64 0, .int .i64 0, .int .i64 0, .slice none 0 0, .slice none 0 0, .slice none 0 0] 53 :: bx (rb + 1 + 1) #[.int .i64 (rv bs s 2)] 3 :: bx rb #[.int .i64 0, .int .i64 0, .int .i64 0, .string ⟨#[]⟩, .string ⟨#[]⟩, .int .i64 0, .int .i64 0, .int .i64 0, .int .i64 0, .int .i64 0, .int .i64 0, .int .i64 0, .int .i64 0, .int .i64 0, .slice none 0 0, .slice none 0 0, .slice none 0 0] 53 :: l) := hS
  have hS := hS.tail2
  generalize rv bs s 0 = xid_ at hS KH1
  generalize rv bs s 1 = zxid_ at hS KH1
  generalize rv bs s 2 = err_ at hS KH1
  obtain ⟨s1, hs1⟩ : ∃ x, x = rs bs s 3 := ⟨_, rfl⟩
  rw [← hs1] at hS
  have H1 : Hid ((i64 xid_ ∧ i64 zxid_ ∧ i64 err_) ∧ s1 = rs bs s 3 ∧ Rel bs s s1 (numsB [xid_, zxid_, err_])) := by rw [← hs1] at KH1; exact Lib.hid ⟨KH1.1, hs1, KH1.2.2⟩
  clear hs1 KH1
  have ce := blk_cell (hS.box 2 rfl) 0 _ rfl
  have ze := heap_lt (hS.box 2 rfl)
  have c0 := blk_cell (hS.box 1 rfl) 2 _ rfl
  have f0 := blk_free (hS.box 1 rfl) 2
  have z0 := heap_lt (hS.box 1 rfl)
  have hS := hS.set 1 rfl 2 (.int .i64 err_)
  have hS : St w0 (w1.setCell ⟨rb + 1, 2, none⟩ (.int .i64 err_)) (rdt pb bs s1 :: bx (rb + 1) #[.int .i64 xid_, .int .i64 zxid_, .int .i64 err_, .string ⟨#[]⟩, .string ⟨#[]⟩, .int .i64 0, .int .i64 0, .int .i64 0, .int .i64 0, .int .i64 0, .int .i64 0, .int .i64 0, .int .i64 0, .int .i64 0, .slice none 0 0, .slice none 0 0, .slice none 0 0] 53 :: bx (rb + 1 + 1) #[.int .i64 err_] 3 :: bx rb #[.int .i64 0, .int .i64 0, .int .i64 0, .string ⟨#[]⟩, .string ⟨#[]⟩, .int .i64 0, .int .i64 0, .int .i64 0, .int .i64 0, .int .i64 0, .int .i64 0, .int .i64 0, .int .i64 0, .int .i64 0, .slice none 0 0, .slice none 0 0, .slice none 0 0] 53 :: l) := hS
  go_wp2_with fail
  refine (ttext_st hS).mono ?_
  clear hS c0 f0 z0 ce ze
  rintro e w2 ⟨path_, s2, rfl, H2, hS⟩
  have c0 := blk_cell (hS.box 1 rfl) 3 _ rfl
  have f0 := blk_free (hS.box 1 rfl) 3
  have z0 := heap_lt (hS.box 1 rfl)
  have hS := hS.set 1 rfl 3 (.string path_)
  have hS : St w0 (w2.setCell ⟨rb + 1, 3, none⟩ (.string path_)) (rdt pb bs s2 :: bx (rb + 1) #[.int .i64 xid_, .int .i64 zxid_, .int .i64 err_, .string path_, .string ⟨#[]⟩, .int .i64 0, .int .i64 0, .int .i64 0, .int .i64 0, .int .i64 0, .int .i64 0, .int .i64 0, .int .i64 0, .int .i64 0, .slice none 0 0, .slice none 0 0, .slice none 0 0] 53 :: bx (rb + 1 + 1) #[.int .i64 err_] 3 :: bx rb #[.int .i64 0, .int .i64 0, .int .i64 0, .string ⟨#[]⟩, .string ⟨#[]⟩, .int .i64 0, .int .i64 0, .int .i64 0, .int .i64 0, .int .i64 0, .int .i64 0, .int .i64 0, .int .i64 0, .int .i64 0, .slice none 0 0, .slice none 0 0, .slice none 0 0] 53 :: l) := hS
  go_wp2_with fail
  refine (ttext_st hS).mono ?_
  clear hS c0 f0 z0
  rintro e w3 ⟨data_, s3, rfl, H3, hS⟩
  have c0 := blk_cell (hS.box 1 rfl) 4 _ rfl
  have f0 := blk_free (hS.box 1 rfl) 4
  have z0 := heap_lt (hS.box 1 rfl)
  have hS := hS.set 1 rfl 4 (.string data_)
  have hS : St w0 (w3.setCell ⟨rb + 1, 4, none⟩ (.string data_)) (rdt pb bs s3 :: bx (rb + 1) #[.int .i64 xid_, .int .i64 zxid_, .int .i64 err_, .string path_, .string data_, .int .i64 0, .int .i64 0, .int .i64 0, .int .i64 0, .int .i64 0, .int .i64 0, .int .i64 0, .int .i64 0, .int .i64 0, .slice none 0 0, .slice none 0 0, .slice none 0 0] 53 :: bx (rb + 1 + 1) #[.int .i64 err_] 3 :: bx rb #[.int .i64 0, .int .i64 0, .int .i64 0, .string ⟨#[]⟩, .string ⟨#[]⟩, .int .i64 0, .int .i64 0, .int .i64 0, .int .i64 0, .int .i64 0, .int .i64 0, .int .i64 0, .int .i64 0, .int .i64 0, .slice none 0 0, .slice none 0 0, .slice none 0 0] 53 :: l) := hS
  go_wp2
  clear c0 f0 z0
  generalize (w3.setCell ⟨rb + 1, 4, none⟩ (.string data_)) = V at hS ⊢
  have hs1 : St w0 (V.drew.alloc (.cells #[.pointer (some ⟨rb + 1, 5, none⟩), .pointer (some ⟨rb + 1, 6, none⟩), .pointer (some ⟨rb + 1, 7, none⟩), .pointer (some ⟨rb + 1, 8, none⟩), .pointer (some ⟨rb + 1, 9, none⟩), .pointer (some ⟨rb + 1, 10, none⟩), .pointer (some ⟨rb + 1, 11, none⟩), .pointer (some ⟨rb + 1, 12, none⟩), .pointer (some ⟨rb + 1, 13, none⟩)] 118)) (rdt pb bs s3 :: sl 118 1 (some ⟨V.heap.size, 0, none⟩) 9 9 #[.pointer (some ⟨rb + 1, 5, none⟩), .pointer (some ⟨rb + 1, 6, none⟩), .pointer (some ⟨rb + 1, 7, none⟩), .pointer (some ⟨rb + 1, 8, none⟩), .pointer (some ⟨rb + 1, 9, none⟩), .pointer (some ⟨rb + 1, 10, none⟩), .pointer (some ⟨rb + 1, 11, none⟩), .pointer (some ⟨rb + 1, 12, none⟩), .pointer (some ⟨rb + 1, 13, none⟩)].toList :: bx (rb + 1) #[.int .i64 xid_, .int .i64 zxid_, .int .i64 err_, .string path_, .string data_, .int .i64 0, .int .i64 0, .int .i64 0, .int .i64 0, .int .i64 0, .int .i64 0, .int .i64 0, .int .i64 0, .int .i64 0, .slice none 0 0, .slice none 0 0, .slice none 0 0] 53 :: bx (rb + 1 + 1) #[.int .i64 err_] 3 :: bx rb #[.int .i64 0, .int .i64 0, .int .i64 0, .string ⟨#[]⟩, .string ⟨#[]⟩, .int .i64 0, .int .i64 0, .int .i64 0, .int .i64 0, .int .i64 0, .int .i64 0, .int .i64 0, .int .i64 0, .int .i64 0, .slice none 0 0, .slice none 0 0, .slice none 0 0] 53 :: l) := hS.drew.slice2 #[.pointer (some ⟨rb + 1, 5, none⟩), .pointer (some ⟨rb + 1, 6, none⟩), .pointer (some ⟨rb + 1, 7, none⟩), .pointer (some ⟨rb + 1, 8, none⟩), .pointer (some ⟨rb + 1, 9, none⟩), .pointer (some ⟨rb + 1, 10, none⟩), .pointer (some ⟨rb + 1, 11, none⟩), .pointer (some ⟨rb + 1, 12, none⟩), .pointer (some ⟨rb + 1, 13, none⟩)] 118 1 9 rfl (by unfold maxLen; omega)
  have hs2 : St w0 ((V.alloc (.cells #[.pointer (some ⟨rb + 1, 5, none⟩), .pointer (some ⟨rb + 1, 6, none⟩), .pointer (some ⟨rb + 1, 7, none⟩), .pointer (some ⟨rb + 1, 8, none⟩), .pointer (some ⟨rb + 1, 9, none⟩), .pointer (some ⟨rb + 1, 10, none⟩), .pointer (some ⟨rb + 1, 11, none⟩), .pointer (some ⟨rb + 1, 12, none⟩), .pointer (some ⟨rb + 1, 13, none⟩)] 118)).drew) (rdt pb bs s3 :: sl 118 1 (some ⟨V.heap.size, 0, none⟩) 9 9 #[.pointer (some ⟨rb + 1, 5, none⟩), .pointer (some ⟨rb + 1, 6, none⟩), .pointer (some ⟨rb + 1, 7, none⟩), .pointer (some ⟨rb + 1, 8, none⟩), .pointer (some ⟨rb + 1, 9, none⟩), .pointer (some ⟨rb + 1, 10, none⟩), .pointer (some ⟨rb + 1, 11, none⟩), .pointer (some ⟨rb + 1, 12, none⟩), .pointer (some ⟨rb + 1, 13, none⟩)].toList :: bx (rb + 1) #[.int .i64 xid_, .int .i64 zxid_, .int .i64 err_, .string path_, .string data_, .int .i64 0, .int .i64 0, .int .i64 0, .int .i64 0, .int .i64 0, .int .i64 0, .int .i64 0, .int .i64 0, .int .i64 0, .slice none 0 0, .slice none 0 0, .slice none 0 0] 53 :: bx (rb + 1 + 1) #[.int .i64 err_] 3 :: bx rb #[.int .i64 0, .int .i64 0, .int .i64 0, .string ⟨#[]⟩, .string ⟨#[]⟩, .int .i64 0, .int .i64 0, .int .i64 0, .int .i64 0, .int .i64 0, .int .i64 0, .int .i64 0, .int .i64 0, .int .i64 0, .slice none 0 0, .slice none 0 0, .slice none 0 0] 53 :: l) := (hS.slice2 #[.pointer (some ⟨rb + 1, 5, none⟩), .pointer (some ⟨rb + 1, 6, none⟩), .pointer (some ⟨rb + 1, 7, none⟩), .pointer (some ⟨rb + 1, 8, none⟩), .pointer (some ⟨rb + 1, 9, none⟩), .pointer (some ⟨rb + 1, 10, none⟩), .pointer (some ⟨rb + 1, 11, none⟩), .pointer (some ⟨rb + 1, 12, none⟩), .pointer (some ⟨rb + 1, 13, none⟩)] 118 1 9 rfl (by unfold maxLen; omega)).drew
  have hok := (hS.rok 0 rfl).1
  have KH4 : (i64 (rv bs s3 0) ∧ i64 (rv bs s3 1) ∧ i64 (rv bs s3 2) ∧ i64 (rv bs s3 3) ∧ i64 (rv bs s3 4) ∧ i64 (rv bs s3 5) ∧ i64 (rv bs s3 6) ∧ i64 (rv bs s3 7) ∧ i64 (rv bs s3 8)) ∧ rs bs s3 9 = rs bs s3 9 ∧ Rel bs s3 (rs bs s3 9) (numsB [rv bs s3 0, rv bs s3 1, rv bs s3 2, rv bs s3 3, rv bs s3 4, rv bs s3 5, rv bs s3 6, rv bs s3 7, rv bs s3 8]) := ⟨⟨rv_i64 hok 0, rv_i64 hok 1, rv_i64 hok 2, rv_i64 hok 3, rv_i64 hok 4, rv_i64 hok 5, rv_i64 hok 6, rv_i64 hok 7, rv_i64 hok 8⟩, rfl, rel_nums 9⟩
  have KH4 := Lib.hid KH4
  have HS1 := Lib.hid hs1
  have HS2 := Lib.hid hs2
  clear hS hs1 hs2 hok
  go_region_held3 (fun _ => True) (first | exact trivial)
    ((first
      | (go_at_call 62; refine (into_st (l := bx (rb + 1 + 1) #[.int .i64 err_] 3 :: bx rb #[.int .i64 0, .int .i64 0, .int .i64 0, .string ⟨#[]⟩, .string ⟨#[]⟩, .int .i64 0, .int .i64 0, .int .i64 0, .int .i64 0, .int .i64 0, .int .i64 0, .int .i64 0, .int .i64 0, .int .i64 0, .slice none 0 0, .slice none 0 0, .slice none 0 0] 53 :: l) [⟨rb + 1, #[.int .i64 xid_, .int .i64 zxid_, .int .i64 err_, .string path_, .string data_, .int .i64 0, .int .i64 0, .int .i64 0, .int .i64 0, .int .i64 0, .int .i64 0, .int .i64 0, .int .i64 0, .int .i64 0, .slice none 0 0, .slice none 0 0, .slice none 0 0], 53⟩] [(0, 5), (0, 6), (0, 7), (0, 8), (0, 9), (0, 10), (0, 11), (0, 12), (0, 13)] HS1.out rfl (by intro p hp; simp only [List.mem_cons, List.not_mem_nil, or_false] at hp; rcases hp with rfl | rfl | rfl | rfl | rfl | rfl | rfl | rfl | rfl <;> exact ⟨_, rfl, by simp⟩) (by omega)).mono ?_; rintro e w4 ⟨rfl, hS⟩)
      | (go_at_call 62; refine (into_st (l := bx (rb + 1 + 1) #[.int .i64 err_] 3 :: bx rb #[.int .i64 0, .int .i64 0, .int .i64 0, .string ⟨#[]⟩, .string ⟨#[]⟩, .int .i64 0, .int .i64 0, .int .i64 0, .int .i64 0, .int .i64 0, .int .i64 0, .int .i64 0, .int .i64 0, .int .i64 0, .slice none 0 0, .slice none 0 0, .slice none 0 0] 53 :: l) [⟨rb + 1, #[.int .i64 xid_, .int .i64 zxid_, .int .i64 err_, .string path_, .string data_, .int .i64 0, .int .i64 0, .int .i64 0, .int .i64 0, .int .i64 0, .int .i64 0, .int .i64 0, .int .i64 0, .int .i64 0, .slice none 0 0, .slice none 0 0, .slice none 0 0], 53⟩] [(0, 5), (0, 6), (0, 7), (0, 8), (0, 9), (0, 10), (0, 11), (0, 12), (0, 13)] HS2.out rfl (by intro p hp; simp only [List.mem_cons, List.not_mem_nil, or_false] at hp; rcases hp with rfl | rfl | rfl | rfl | rfl | rfl | rfl | rfl | rfl <;> exact ⟨_, rfl, by simp⟩) (by omega)).mono ?_; rintro e w4 ⟨rfl, hS⟩)))
  clear HS1 HS2
  generalize V.heap.size = ab at hS ⊢
  have KH4 := KH4.out
  rw [vfill_one _ _ _ _ _ rfl, fill9] at hS
  simp only [List.map_cons, List.map_nil, List.cons_append, List.nil_append, Var.thing] at hS
  have hS : St w0 w4 (rdt pb bs (rs bs s3 9) :: sl 118 1 (some ⟨ab, 0, none⟩) 9 9 #[.pointer (some ⟨rb + 1, 5, none⟩), .pointer (some ⟨rb + 1, 6, none⟩), .pointer (some ⟨rb + 1, 7, none⟩), .pointer (some ⟨rb + 1, 8, none⟩), .pointer (some ⟨rb + 1, 9, none⟩), .pointer (some ⟨rb + 1, 10, none⟩), .pointer (some ⟨rb + 1, 11, none⟩), .pointer (some ⟨rb + 1, 12, none⟩), .pointer (some ⟨rb + 1, 13, none⟩)].toList :: bx (rb + 1) #[.int .i64 xid_, .int .i64 zxid_, .int .i64 err_, .string path_, .string data_, .int .i64 (rv bs s3 0), .int .i64 (rv bs s3 1), .int .i64 (rv bs s3 2), .int .i64 (rv bs s3 3), .int .i64 (rv bs s3 4), .int .i64 (rv bs s3 5), .int .i64 (rv bs s3 6), .int .i64 (rv bs s3 7), .int .i64 (rv bs s3 8), .slice none 0 0, .slice none 0 0, .slice none 0 0] 53 :: bx (rb + 1 + 1) #[.int .i64 err_] 3 :: bx rb #[.int .i64 0, .int .i64 0, .int .i64 0, .string ⟨#[]⟩, .string ⟨#[]⟩, .int .i64 0, .int .i64 0, .int .i64 0, .int .i64 0, .int .i64 0, .int .i64 0, .int .i64 0, .int .i64 0, .int .i64 0, .slice none 0 0, .slice none 0 0, .slice none 0 0] 53 :: l) := hS
  have hS := hS.tail2
  generalize rv bs s3 0 = s0_ at hS KH4
  generalize rv bs s3 1 = s1_ at hS KH4
  generalize rv bs s3 2 = s2_ at hS KH4
  generalize rv bs s3 3 = s3_ at hS KH4
  generalize rv bs s3 4 = s4_ at hS KH4
  generalize rv bs s3 5 = s5_ at hS KH4
  generalize rv bs s3 6 = s6_ at hS KH4
  generalize rv bs s3 7 = s7_ at hS KH4
  generalize rv bs s3 8 = s8_ at hS KH4
  obtain ⟨s4, hs4⟩ : ∃ x, x = rs bs s3 9 := ⟨_, rfl⟩
  rw [← hs4] at hS
  have H4 : Hid ((i64 s0_ ∧ i64 s1_ ∧ i64 s2_ ∧ i64 s3_ ∧ i64 s4_ ∧ i64 s5_ ∧ i64 s6_ ∧ i64 s7_ ∧ i64 s8_) ∧ s4 = rs bs s3 9 ∧ Rel bs s3 s4 (numsB [s0_, s1_, s2_, s3_, s4_, s5_, s6_, s7_, s8_])) := by rw [← hs4] at KH4; exact Lib.hid ⟨KH4.1, hs4, KH4.2.2⟩
  clear hs4 KH4
  go_wp2_with fail
  refine (rowsAcl_st hS).mono ?_
  clear hS
  rintro e w5 ⟨acl_, aclA_, aclC_, s5, rfl, H5, hS⟩
  have hS := hS.perm (.cons _ (List.perm_append_comm_assoc [_, _] [_, _, _] _))
  have c0 := blk_cell (hS.box 1 rfl) 14 _ rfl
  have f0 := blk_free (hS.box 1 rfl) 14
  have z0 := heap_lt (hS.box 1 rfl)
  have hS := hS.set 1 rfl 14 (.slice aclA_ acl_.length aclC_)
  have hS : St w0 (w5.setCell ⟨rb + 1, 14, none⟩ (.slice aclA_ acl_.length aclC_)) (rdt pb bs s5 :: bx (rb + 1) #[.int .i64 xid_, .int .i64 zxid_, .int .i64 err_, .string path_, .string data_, .int .i64 s0_, .int .i64 s1_, .int .i64 s2_, .int .i64 s3_, .int .i64 s4_, .int .i64 s5_, .int .i64 s6_, .int .i64 s7_, .int .i64 s8_, .slice aclA_ acl_.length aclC_, .slice none 0 0, .slice none 0 0] 53 :: bx (rb + 1 + 1) #[.int .i64 err_] 3 :: bx rb #[.int .i64 0, .int .i64 0, .int .i64 0, .string ⟨#[]⟩, .string ⟨#[]⟩, .int .i64 0, .int .i64 0, .int .i64 0, .int .i64 0, .int .i64 0, .int .i64 0, .int .i64 0, .int .i64 0, .int .i64 0, .slice none 0 0, .slice none 0 0, .slice none 0 0] 53 :: sl 146 2 aclA_ acl_.length aclC_ (acl_.flatMap Acl.cells) :: grp (acl_.map fun x => grp (Acl.things x)) :: l) := hS
  go_wp2_with fail
  refine (rowsStr_st hS).mono ?_
  clear hS c0 f0 z0
  rintro e w6 ⟨kids_, kidsA_, kidsC_, s6, rfl, H6, hS⟩
  have hS := hS.perm (.cons _ (List.perm_append_comm_assoc [_, _] [_, _, _, _, _] _))
  have c0 := blk_cell (hS.box 1 rfl) 15 _ rfl
  have f0 := blk_free (hS.box 1 rfl) 15
  have z0 := heap_lt (hS.box 1 rfl)
  have hS := hS.set 1 rfl 15 (.slice kidsA_ kids_.length kidsC_)
  have hS : St w0 (w6.setCell ⟨rb + 1, 15, none⟩ (.slice kidsA_ kids_.length kidsC_)) (rdt pb bs s6 :: bx (rb + 1) #[.int .i64 xid_, .int .i64 zxid_, .int .i64 err_, .string path_, .string data_, .int .i64 s0_, .int .i64 s1_, .int .i64 s2_, .int .i64 s3_, .int .i64 s4_, .int .i64 s5_, .int .i64 s6_, .int .i64 s7_, .int .i64 s8_, .slice aclA_ acl_.length aclC_, .slice kidsA_ kids_.length kidsC_, .slice none 0 0] 53 :: bx (rb + 1 + 1) #[.int .i64 err_] 3 :: bx rb #[.int .i64 0, .int .i64 0, .int .i64 0, .string ⟨#[]⟩, .string ⟨#[]⟩, .int .i64 0, .int .i64 0, .int .i64 0, .int .i64 0, .int .i64 0, .int .i64 0, .int .i64 0, .int .i64 0, .int .i64 0, .slice none 0 0, .slice none 0 0, .slice none 0 0] 53 :: sl 146 2 aclA_ acl_.length aclC_ (acl_.flatMap Acl.cells) :: grp (acl_.map fun x => grp (Acl.things x)) :: sl 9 1 kidsA_ kids_.length kidsC_ (kids_.flatMap strC) :: grp (kids_.map fun x => grp []) :: l) := hS
  obtain ⟨X, hX⟩ : ∃ x : Ans, x = ⟨xid_, zxid_, err_, path_, data_, s0_, s1_, s2_, s3_, s4_, s5_, s6_, s7_, s8_, acl_, aclA_, aclC_, kids_, kidsA_, kidsC_, none, 0, 0⟩ := ⟨_, rfl⟩
  have HQ : Hid (Ans.fine X ∧ s6 = qAns bs s ∧ Rel bs s s6 (Ans.bytes X)) := by
    rw [hX]
    exact Lib.hid ⟨⟨H1.out.1.1, H1.out.1.2.1, H1.out.1.2.2, H4.out.1.1, H4.out.1.2.1, H4.out.1.2.2.1, H4.out.1.2.2.2.1, H4.out.1.2.2.2.2.1, H4.out.1.2.2.2.2.2.1, H4.out.1.2.2.2.2.2.2.1, H4.out.1.2.2.2.2.2.2.2.1, H4.out.1.2.2.2.2.2.2.2.2, H5.out.1, H6.out.1.2⟩, by rw [H6.out.2.1, H5.out.2.1, H4.out.2.1, H3.out.2.1, H2.out.2.1, H1.out.2.1]; rfl, (((((H1.out.2.2.trans H2.out.2.2).trans H3.out.2.2).trans H4.out.2.2).trans H5.out.2.2).trans H6.out.2.2)⟩
  have hS : St w0 (w6.setCell ⟨rb + 1, 15, none⟩ (.slice kidsA_ kids_.length kidsC_)) (rdt pb bs s6 :: bx (rb + 1) X.cells.toArray 53 :: bx (rb + 1 + 1) #[.int .i64 err_] 3 :: bx rb #[.int .i64 0, .int .i64 0, .int .i64 0, .string ⟨#[]⟩, .string ⟨#[]⟩, .int .i64 0, .int .i64 0, .int .i64 0, .int .i64 0, .int .i64 0, .int .i64 0, .int .i64 0, .int .i64 0, .int .i64 0, .slice none 0 0, .slice none 0 0, .slice none 0 0] 53 :: (Ans.things X ++ l)) := by rw [hX]; exact hS
  clear hX H1 H2 H3 H4 H5 H6
  have z1 := heap_lt (hS.box 3 rfl)
  go_wp2_with (first | ((with_reducible refine at_list ?_); refine wpList_load_chunk 17 _ Try.underlying53 rfl sizeAns ⟨rb + 1, 0, none⟩ rfl X.cells rfl (box_chunk (hS.box 1 rfl)) ?_) | ((with_reducible refine at_list ?_); refine wpList_store_whole 17 sizeAns rb rfl _ _ (hS.box 3 rfl) rfl X.cells rfl rfl (by kernel_rfl) ?_; intro w30 hg4 hM4 hz4))
  refine bodyPost_ret (results_cell rfl _ w30 rb _ _ _ _ rfl hg4 Try.underlying53 rfl sizeAns) rfl ?_
  have hS := hS.rebox 3 rfl hg4 hM4
  exact ⟨X, s6, rfl, HQ, St.regrp1 (Ans.things X) hS.tail2.tail2.tail2⟩
end Go.Proofs.Ytmbkbkfcbloafab
