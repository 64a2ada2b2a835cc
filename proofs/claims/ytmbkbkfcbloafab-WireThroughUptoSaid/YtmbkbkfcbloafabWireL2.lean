/-
  Things with lists: what package wire lays them as.
  Conditions: the lists lie in the world at the start; the bytes fit.
-/
import Derived.Test.YtmbkbkfcbloafabWireL
namespace Go.Proofs.Ytmbkbkfcbloafab
open Go.RowKit
set_option linter.unusedSectionVars false
set_option linter.unusedSimpArgs false
set_option linter.unusedVariables false
set_option maxRecDepth 100000

theorem sizeStat : (Try.prog.info? 50).map (·.size) = some 9 := by kernel_rfl
theorem box_mid {w : World} {pb : Nat} {T : TypeId} (pre cs post : List Value) (h : w.heap[pb]? = some (.cells (pre ++ cs ++ post).toArray T (0, 0))) : ∀ j u, cs[j]? = some u → w.cell? ((⟨pb, pre.length, none⟩ : Addr).add j) = some u := by
  intro j u hj
  rw [add_none]
  refine blk_cell h _ u ?_
  have hl := (List.getElem?_eq_some_iff.1 hj).1
  rw [List.getElem?_toArray, List.append_assoc, List.getElem?_append_right (by omega), Nat.add_sub_cancel_left, List.getElem?_append_left hl]
  exact hj

structure Ans where
  xid : Int
  zxid : Int
  err : Int
  path : ByteArray
  data : ByteArray
  s0 : Int
  s1 : Int
  s2 : Int
  s3 : Int
  s4 : Int
  s5 : Int
  s6 : Int
  s7 : Int
  s8 : Int
  acl : List Acl
  aclA : Option Addr
  aclC : Nat
  kids : List ByteArray
  kidsA : Option Addr
  kidsC : Nat
  subsA : Option Addr
  subsN : Nat
  subsC : Nat
def Ans.cells (x : Ans) : List Value := [.int .i64 x.xid, .int .i64 x.zxid, .int .i64 x.err, .string x.path, .string x.data, .int .i64 x.s0, .int .i64 x.s1, .int .i64 x.s2, .int .i64 x.s3, .int .i64 x.s4, .int .i64 x.s5, .int .i64 x.s6, .int .i64 x.s7, .int .i64 x.s8, .slice x.aclA x.acl.length x.aclC, .slice x.kidsA x.kids.length x.kidsC, .slice x.subsA x.subsN x.subsC]
def Ans.bytes (x : Ans) : List UInt8 := numsB [x.xid, x.zxid, x.err] ++ txtB x.path ++ txtB x.data ++ numsB [x.s0, x.s1, x.s2, x.s3, x.s4, x.s5, x.s6, x.s7, x.s8] ++ listB Acl.bytes x.acl ++ listB txtB x.kids
def Ans.ok (w : World) (x : Ans) : Prop := i64 x.xid ∧ i64 x.zxid ∧ i64 x.err ∧ i64 x.s0 ∧ i64 x.s1 ∧ i64 x.s2 ∧ i64 x.s3 ∧ i64 x.s4 ∧ i64 x.s5 ∧ i64 x.s6 ∧ i64 x.s7 ∧ i64 x.s8 ∧ Rd w 2 x.aclA x.acl.length x.aclC (x.acl.flatMap Acl.cells) ∧ (∀ a ∈ x.acl, Acl.ok w a) ∧ Rd w 1 x.kidsA x.kids.length x.kidsC (x.kids.flatMap strC)
theorem sizeAns : (Try.prog.info? 53).map (·.size) = some 17 := by kernel_rfl

set_option maxHeartbeats 2000000 in
theorem layAnswer_st {w0 w : World} {l : List Thing} {pb : Nat} {xs : List UInt8} (h : St w0 w (wrt pb xs :: l)) (x : Ans) (hx : x.ok w0) (hf : bfits ((xs ++ x.bytes).length + 100)) :
    Calls Try.prog 82 #[.pointer (some ⟨pb, 0, none⟩), .agg x.cells.toArray] w (StPost (.tuple #[]) w0 (wrt pb (xs ++ x.bytes) :: l)) := by
  have hS := h.box2 #[.int .i64 x.xid, .int .i64 x.zxid, .int .i64 x.err, .string x.path, .string x.data, .int .i64 x.s0, .int .i64 x.s1, .int .i64 x.s2, .int .i64 x.s3, .int .i64 x.s4, .int .i64 x.s5, .int .i64 x.s6, .int .i64 x.s7, .int .i64 x.s8, .slice x.aclA x.acl.length x.aclC, .slice x.kidsA x.kids.length x.kidsC, .slice x.subsA x.subsN x.subsC] 53
  have hz0 : (w.alloc (.cells #[.int .i64 x.xid, .int .i64 x.zxid, .int .i64 x.err, .string x.path, .string x.data, .int .i64 x.s0, .int .i64 x.s1, .int .i64 x.s2, .int .i64 x.s3, .int .i64 x.s4, .int .i64 x.s5, .int .i64 x.s6, .int .i64 x.s7, .int .i64 x.s8, .slice x.aclA x.acl.length x.aclC, .slice x.kidsA x.kids.length x.kidsC, .slice x.subsA x.subsN x.subsC] 53)).heap.size = w.heap.size + 1 := World.size_alloc ..
  have HX := Lib.hid hx
  have HF := Lib.hid hf
  simp only [Ans.cells]
  clear h hx hf
  go_enter Try.func82, Try.ntmps82
  go_wp2_with fail
  generalize w.alloc (.cells #[.int .i64 x.xid, .int .i64 x.zxid, .int .i64 x.err, .string x.path, .string x.data, .int .i64 x.s0, .int .i64 x.s1, .int .i64 x.s2, .int .i64 x.s3, .int .i64 x.s4, .int .i64 x.s5, .int .i64 x.s6, .int .i64 x.s7, .int .i64 x.s8, .slice x.aclA x.acl.length x.aclC, .slice x.kidsA x.kids.length x.kidsC, .slice x.subsA x.subsN x.subsC] 53) = W at *
  generalize w.heap.size = tb at *
  have hS := hS.slice2 #[.int .i64 x.xid, .int .i64 x.zxid, .int .i64 x.err] 3 1 3 rfl (by unfold maxLen; omega)
  rw [hz0] at hS
  refine (numbers_st hS 0 1 rfl _ 3 3 [x.xid, x.zxid, x.err] rfl (by omega) rfl (by intro t ht; simp only [List.mem_cons, List.not_mem_nil, or_false] at ht; rcases ht with rfl | rfl | rfl <;> first | exact HX.out.1 | exact HX.out.2.1 | exact HX.out.2.2.1) (HF.out.mono (by unfold Ans.bytes; simp only [List.length_append, txtB, numB, toList_size]; omega)) (by omega)).mono ?_
  clear hS hz0
  rintro e w1 ⟨rfl, hS⟩
  simp only [List.set_cons_zero] at hS
  have hS := hS.tail2
  have z0 := heap_lt (hS.box 1 rfl)
  have c3 : w1.cell? ⟨tb, 3, none⟩ = some (.string x.path) := blk_cell (hS.box 1 rfl) 3 _ rfl
  go_wp2_with fail
  refine (wtext_st hS 0 rfl x.path (HF.out.mono (by unfold Ans.bytes; simp only [List.length_append, txtB, numB, toList_size]; omega))).mono ?_
  clear hS z0 c3
  rintro e w2 ⟨rfl, hS⟩
  simp only [List.set_cons_zero] at hS
  have z0 := heap_lt (hS.box 1 rfl)
  have c4 : w2.cell? ⟨tb, 4, none⟩ = some (.string x.data) := blk_cell (hS.box 1 rfl) 4 _ rfl
  go_wp2_with fail
  refine (wtext_st hS 0 rfl x.data (HF.out.mono (by unfold Ans.bytes; simp only [List.length_append, txtB, numB, toList_size]; omega))).mono ?_
  clear hS z0 c4
  rintro e w3 ⟨rfl, hS⟩
  simp only [List.set_cons_zero] at hS
  have z0 := heap_lt (hS.box 1 rfl)
  have HC : Hid (∀ j u, ([.int .i64 x.s0, .int .i64 x.s1, .int .i64 x.s2, .int .i64 x.s3, .int .i64 x.s4, .int .i64 x.s5, .int .i64 x.s6, .int .i64 x.s7, .int .i64 x.s8] : List Value)[j]? = some u → w3.cell? ((⟨tb, 5, none⟩ : Addr).add j) = some u) := Lib.hid (box_mid [.int .i64 x.xid, .int .i64 x.zxid, .int .i64 x.err, .string x.path, .string x.data] [.int .i64 x.s0, .int .i64 x.s1, .int .i64 x.s2, .int .i64 x.s3, .int .i64 x.s4, .int .i64 x.s5, .int .i64 x.s6, .int .i64 x.s7, .int .i64 x.s8] [.slice x.aclA x.acl.length x.aclC, .slice x.kidsA x.kids.length x.kidsC, .slice x.subsA x.subsN x.subsC] (hS.box 1 rfl))
  have hS := hS.box2 #[.int .i64 0, .int .i64 0, .int .i64 0, .int .i64 0, .int .i64 0, .int .i64 0, .int .i64 0, .int .i64 0, .int .i64 0] 50
  go_wp2_with (first | ((with_reducible refine at_list ?_); refine wpList_load_chunk 9 _ Try.underlying50 rfl sizeStat ⟨tb, 5, none⟩ rfl [.int .i64 x.s0, .int .i64 x.s1, .int .i64 x.s2, .int .i64 x.s3, .int .i64 x.s4, .int .i64 x.s5, .int .i64 x.s6, .int .i64 x.s7, .int .i64 x.s8] rfl HC.out ?_) | ((with_reducible refine at_list ?_); refine wpList_store_whole 9 sizeStat w3.heap.size rfl _ _ (hS.box 1 rfl) rfl [.int .i64 x.s0, .int .i64 x.s1, .int .i64 x.s2, .int .i64 x.s3, .int .i64 x.s4, .int .i64 x.s5, .int .i64 x.s6, .int .i64 x.s7, .int .i64 x.s8] rfl rfl (by kernel_rfl) ?_; intro w8 hg8 hM8 hz8; have hS := hS.rebox 1 rfl hg8 hM8; simp only [List.set_cons_succ, List.set_cons_zero] at hS; generalize w3.heap.size = sb at hS ⊢; have z1 := heap_lt (hS.box 1 rfl); have d0 : w8.cell? ⟨sb, 0, none⟩ = some (.int .i64 x.s0) := blk_cell (hS.box 1 rfl) 0 _ rfl; have d1 : w8.cell? ⟨sb, 1, none⟩ = some (.int .i64 x.s1) := blk_cell (hS.box 1 rfl) 1 _ rfl; have d2 : w8.cell? ⟨sb, 2, none⟩ = some (.int .i64 x.s2) := blk_cell (hS.box 1 rfl) 2 _ rfl; have d3 : w8.cell? ⟨sb, 3, none⟩ = some (.int .i64 x.s3) := blk_cell (hS.box 1 rfl) 3 _ rfl; have d4 : w8.cell? ⟨sb, 4, none⟩ = some (.int .i64 x.s4) := blk_cell (hS.box 1 rfl) 4 _ rfl; have d5 : w8.cell? ⟨sb, 5, none⟩ = some (.int .i64 x.s5) := blk_cell (hS.box 1 rfl) 5 _ rfl; have d6 : w8.cell? ⟨sb, 6, none⟩ = some (.int .i64 x.s6) := blk_cell (hS.box 1 rfl) 6 _ rfl; have d7 : w8.cell? ⟨sb, 7, none⟩ = some (.int .i64 x.s7) := blk_cell (hS.box 1 rfl) 7 _ rfl; have d8 : w8.cell? ⟨sb, 8, none⟩ = some (.int .i64 x.s8) := blk_cell (hS.box 1 rfl) 8 _ rfl; clear hg8 hM8 hz8 HC))
  have hS := hS.slice2 #[.int .i64 x.s0, .int .i64 x.s1, .int .i64 x.s2, .int .i64 x.s3, .int .i64 x.s4, .int .i64 x.s5, .int .i64 x.s6, .int .i64 x.s7, .int .i64 x.s8] 3 1 9 rfl (by unfold maxLen; omega)
  refine (numbers_st hS 0 1 rfl _ 9 9 [x.s0, x.s1, x.s2, x.s3, x.s4, x.s5, x.s6, x.s7, x.s8] rfl (by omega) rfl (by intro t ht; simp only [List.mem_cons, List.not_mem_nil, or_false] at ht; rcases ht with rfl | rfl | rfl | rfl | rfl | rfl | rfl | rfl | rfl <;> first | exact HX.out.2.2.2.1 | exact HX.out.2.2.2.2.1 | exact HX.out.2.2.2.2.2.1 | exact HX.out.2.2.2.2.2.2.1 | exact HX.out.2.2.2.2.2.2.2.1 | exact HX.out.2.2.2.2.2.2.2.2.1 | exact HX.out.2.2.2.2.2.2.2.2.2.1 | exact HX.out.2.2.2.2.2.2.2.2.2.2.1 | exact HX.out.2.2.2.2.2.2.2.2.2.2.2.1) (HF.out.mono (by unfold Ans.bytes; simp only [List.length_append, txtB, numB, toList_size]; omega)) (by omega)).mono ?_
  clear hS z0 z1 d0 d1 d2 d3 d4 d5 d6 d7 d8
  rintro e w4 ⟨rfl, hS⟩
  simp only [List.set_cons_zero] at hS
  have hS := hS.tail2.tail2
  have z0 := heap_lt (hS.box 1 rfl)
  have c14 : w4.cell? ⟨tb, 14, none⟩ = some (.slice x.aclA x.acl.length x.aclC) := blk_cell (hS.box 1 rfl) 14 _ rfl
  go_wp2_with fail
  refine (listAcl_st hS x.aclA x.aclC x.acl HX.out.2.2.2.2.2.2.2.2.2.2.2.2.1 HX.out.2.2.2.2.2.2.2.2.2.2.2.2.2.1 (HF.out.mono (by unfold Ans.bytes; simp only [List.length_append, txtB, numB, toList_size]; omega))).mono ?_
  clear hS z0 c14
  rintro e w5 ⟨rfl, hS⟩
  have z0 := heap_lt (hS.box 1 rfl)
  have c15 : w5.cell? ⟨tb, 15, none⟩ = some (.slice x.kidsA x.kids.length x.kidsC) := blk_cell (hS.box 1 rfl) 15 _ rfl
  go_wp2_with fail
  refine (listStr_st hS x.kidsA x.kidsC x.kids HX.out.2.2.2.2.2.2.2.2.2.2.2.2.2.2 (HF.out.mono (by unfold Ans.bytes; simp only [List.length_append, txtB, numB, toList_size]; omega))).mono ?_
  clear hS z0 c15
  rintro e w6 ⟨rfl, hS⟩
  go_wp2
  go_end0
  refine ⟨rfl, ?_⟩
  have e : xs ++ x.bytes = xs ++ (numsB [x.xid, x.zxid, x.err]) ++ (txtB x.path) ++ (txtB x.data) ++ (numsB [x.s0, x.s1, x.s2, x.s3, x.s4, x.s5, x.s6, x.s7, x.s8]) ++ (listB Acl.bytes x.acl) ++ (listB txtB x.kids) := by simp only [Ans.bytes, List.append_assoc]
  rw [e]
  exact hS.tail2

set_option maxHeartbeats 2000000 in
theorem listAns_st {w0 w : World} {l : List Thing} {pb : Nat} {xs : List UInt8} (h : St w0 w (wrt pb xs :: l)) (a : Option Addr) (cap : Nat) (L : List Ans) (hr : Rd w0 17 a L.length cap (L.flatMap Ans.cells)) (hok : ∀ x ∈ L, Ans.ok w0 x) (hf : bfits ((xs ++ listB Ans.bytes L).length + 100)) :
    Calls Try.prog 83 #[.pointer (some ⟨pb, 0, none⟩), .slice a L.length cap, .func (.func 82) #[] #[]] w (StPost (.tuple #[]) w0 (wrt pb (xs ++ listB Ans.bytes L) :: l)) := by
  obtain ⟨n, hn⟩ : ∃ n, L.length = n := ⟨_, rfl⟩
  rw [hn] at hr ⊢
  have hl63 : n ≤ 2 ^ 63 - 1 := by have := hr.2.1; have := hr.2.2.1; unfold maxLen at this; omega
  have HN := Lib.hid hn
  have HR := Lib.hid hr
  have HF := Lib.hid hf
  have HS := Lib.hid h
  have HO := Lib.hid hok
  clear h hn hr hf hok
  go_enter Try.func83, Try.ntmps83
  go_wp2_with fail
  refine (wcount_st HS.out 0 rfl (n : Int) (by omega) (HF.out.mono (by rw [List.length_append]; omega))).mono ?_
  rintro e w1 ⟨rfl, hS⟩
  simp only [List.set_cons_zero, Int.toNat_natCast] at hS
  clear HS
  have HS := Lib.hid hS
  clear hS
  go_wp2
  go_loopg [14] n (fun g y wr => ∃ k : Nat, k + g = n ∧ y = .int .i64 k ∧ St w0 wr (wrt pb (xs ++ sevens n ++ (L.take k).flatMap Ans.bytes) :: l))
  case atStart => exact ⟨0, by omega, rfl, by rw [List.take_zero, List.flatMap_nil, List.append_nil]; exact HS.out⟩
  case round =>
    obtain ⟨k, hkg, rfl, hS⟩ := hrel
    by_cases hlt : k < n
    · have hx : L[k]? = some (L[k]'(HN.out ▸ hlt)) := List.getElem?_eq_getElem _
      obtain ⟨t, hxx⟩ : ∃ x, L[k]'(HN.out ▸ hlt) = x := ⟨_, rfl⟩
      rw [hxx] at hx
      obtain ⟨b, o, rfl, hbl, hc⟩ := (hS.old HR.out).elem (k := 17) Ans.cells (fun _ => rfl) (by omega) hx
      have hft : bfits ((xs ++ sevens n ++ (L.take k).flatMap Ans.bytes ++ Ans.bytes t).length + 100) := HF.out.mono (by
        have h1 := flat_take_le Ans.bytes hx
        unfold listB
        simp only [List.length_append, HN.out] at h1 ⊢
        omega)
      have HX := Lib.hid hx
      have HFT := Lib.hid hft
      have HC : Hid (∀ j u, (Ans.cells t)[j]? = some u → wr.cell? ((⟨b, o + k * 17, none⟩ : Addr).add j) = some u) := Lib.hid (fun j u hj => by rw [add_none]; exact hc j u hj)
      have hS := hS.box2 #[.int .i64 0, .int .i64 0, .int .i64 0, .string ⟨#[]⟩, .string ⟨#[]⟩, .int .i64 0, .int .i64 0, .int .i64 0, .int .i64 0, .int .i64 0, .int .i64 0, .int .i64 0, .int .i64 0, .int .i64 0, .slice none 0 0, .slice none 0 0, .slice none 0 0] 53
      clear hx hxx hft hc
      go_wp2_with (first | ((with_reducible refine at_list ?_); refine wpList_load_chunk 17 _ Try.underlying53 rfl sizeAns ⟨b, o + k * 17, none⟩ rfl t.cells rfl HC.out ?_) | ((with_reducible refine at_list ?_); refine wpList_store_whole 17 sizeAns wr.heap.size rfl _ _ (hS.box 1 rfl) rfl t.cells rfl rfl (by kernel_rfl) ?_; intro w8 hg8 hM8 hz8; have hS := hS.rebox 1 rfl hg8 hM8; simp only [List.set_cons_succ, List.set_cons_zero] at hS; generalize wr.heap.size = tb at hS ⊢; clear hg8 hM8 hz8 HC) | ((with_reducible refine at_list ?_); refine wpList_load_chunk 17 _ Try.underlying53 rfl sizeAns ⟨tb, 0, none⟩ rfl t.cells rfl (box_chunk (hS.box 1 rfl)) ?_))
      refine (layAnswer_st hS t (HO.out t (List.mem_of_getElem? HX.out)) HFT.out).mono ?_
      clear hS
      rintro e w2 ⟨rfl, hS⟩
      have hS := hS.tail2
      go_wp2
      go_roundg (gk - 1)
      case measure => omega
      case rel =>
        refine ⟨k + 1, by omega, by simp, ?_⟩
        rw [flat_take_snoc Ans.bytes HX.out, ← List.append_assoc]
        exact hS
    · have hk : k = n := by omega
      clear hkg hlt
      rw [hk, List.take_of_length_le (by rw [HN.out]; exact Nat.le_refl _)] at hS
      go_wp2
      go_end0
      refine ⟨rfl, ?_⟩
      unfold listB
      rw [HN.out, ← List.append_assoc]
      exact hS
end Go.Proofs.Ytmbkbkfcbloafab
