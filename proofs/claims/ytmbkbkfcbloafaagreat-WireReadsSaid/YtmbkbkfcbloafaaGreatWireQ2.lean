/-
  Things with lists as bytes: the document's part, op, answer.
  Conditions: the lists lie in the world; the bytes fit.
-/
import Derived.Test.YtmbkbkfcbloafaaGreatWireL2
import Derived.Test.YtmbkbkfcbloafaaGreatWireQ
namespace Go.Proofs.YtmbkbkfcbloafaaGreat
open Go.RowKit
set_option linter.unusedSectionVars false
set_option linter.unusedSimpArgs false
set_option linter.unusedVariables false
set_option maxRecDepth 100000

set_option maxHeartbeats 4000000 in
theorem ranswer_any (x : Ans) (w : World) (hx : x.ok w) (hf : bfits (x.bytes.length + 100)) :
    Calls Tryz.prog 64 #[.agg x.cells.toArray] w (TextPost x.bytes w) := by
  have HX := Lib.hid hx
  have hlen : x.bytes.length = (numsB [x.xid, x.zxid, x.err]).length + (txtB x.path).length + (txtB x.data).length + (numsB [x.s0, x.s1, x.s2, x.s3, x.s4, x.s5, x.s6, x.s7, x.s8]).length + (listB Acl.bytes x.acl).length + (listB txtB x.kids).length := by unfold Ans.bytes; simp only [List.length_append]
  unfold bfits at hf
  obtain ⟨A0, hA0⟩ : ∃ A, ByteArray.mk (numsB [x.xid, x.zxid, x.err]).toArray = A := ⟨_, rfl⟩
  have hs0 : A0.size = (numsB [x.xid, x.zxid, x.err]).length := by rw [← hA0, mk_size]
  obtain ⟨A1, hA1⟩ : ∃ A, ByteArray.mk (txtB x.path).toArray = A := ⟨_, rfl⟩
  have hs1 : A1.size = (txtB x.path).length := by rw [← hA1, mk_size]
  obtain ⟨A2, hA2⟩ : ∃ A, ByteArray.mk (txtB x.data).toArray = A := ⟨_, rfl⟩
  have hs2 : A2.size = (txtB x.data).length := by rw [← hA2, mk_size]
  obtain ⟨A3, hA3⟩ : ∃ A, ByteArray.mk (numsB [x.s0, x.s1, x.s2, x.s3, x.s4, x.s5, x.s6, x.s7, x.s8]).toArray = A := ⟨_, rfl⟩
  have hs3 : A3.size = (numsB [x.s0, x.s1, x.s2, x.s3, x.s4, x.s5, x.s6, x.s7, x.s8]).length := by rw [← hA3, mk_size]
  obtain ⟨A4, hA4⟩ : ∃ A, ByteArray.mk (listB Acl.bytes x.acl).toArray = A := ⟨_, rfl⟩
  have hs4 : A4.size = (listB Acl.bytes x.acl).length := by rw [← hA4, mk_size]
  obtain ⟨A5, hA5⟩ : ∃ A, ByteArray.mk (listB txtB x.kids).toArray = A := ⟨_, rfl⟩
  have hs5 : A5.size = (listB txtB x.kids).length := by rw [← hA5, mk_size]
  have hbd1 : ¬ 9223372036854775807 < A0.size + A1.size := by omega
  have hbd2 : ¬ 9223372036854775807 < A0.size + A1.size + A2.size := by omega
  have hbd3 : ¬ 9223372036854775807 < A0.size + A1.size + A2.size + A3.size := by omega
  have hbd4 : ¬ 9223372036854775807 < A0.size + A1.size + A2.size + A3.size + A4.size := by omega
  have hbd5 : ¬ 9223372036854775807 < A0.size + A1.size + A2.size + A3.size + A4.size + A5.size := by omega
  have HAl : Hid (Mod (fun _ => False) w (w.alloc (.cells #[.int .i64 x.xid, .int .i64 x.zxid, .int .i64 x.err, .string x.path, .string x.data, .int .i64 x.s0, .int .i64 x.s1, .int .i64 x.s2, .int .i64 x.s3, .int .i64 x.s4, .int .i64 x.s5, .int .i64 x.s6, .int .i64 x.s7, .int .i64 x.s8, .slice x.aclA x.acl.length x.aclC, .slice x.kidsA x.kids.length x.kidsC, .slice x.subsA x.subsN x.subsC] 70))) := Lib.hid ((Mod.refl _ w).alloc _)
  have C0 : Hid (∀ (m : Nat) w', w'.heap[m]? = some (.cells #[.int .i64 x.xid, .int .i64 x.zxid, .int .i64 x.err] 3 (0, 0)) → Calls Tryz.prog 38 #[.slice (some ⟨m, 0, none⟩) 3 3] w' (fun e w'' => e = .returned (.string A0) ∧ Mod (fun _ => False) w' w'')) := Lib.hid fun m w' h => by rw [← hA0]; exact rnums_any _ 3 3 [x.xid, x.zxid, x.err] rfl (by intro t ht; simp only [List.mem_cons, List.not_mem_nil, or_false] at ht; rcases ht with rfl | rfl | rfl <;> first | exact HX.out.1 | exact HX.out.2.1 | exact HX.out.2.2.1) (by omega) w' (Sl.new (c := #[.int .i64 x.xid, .int .i64 x.zxid, .int .i64 x.err]) h rfl (by unfold maxLen; omega)).rd
  have C1 : Hid (∀ w', Calls Tryz.prog 40 #[.string x.path] w' (fun e w'' => e = .returned (.string A1) ∧ Mod (fun _ => False) w' w'')) := Lib.hid fun w' => by rw [← hA1]; exact rwtext_any x.path (by have : (txtB x.path).length = (sevens x.path.size).length + x.path.size := (by unfold txtB; rw [List.length_append, toList_size]); unfold bfits; omega) w'
  have C2 : Hid (∀ w', Calls Tryz.prog 40 #[.string x.data] w' (fun e w'' => e = .returned (.string A2) ∧ Mod (fun _ => False) w' w'')) := Lib.hid fun w' => by rw [← hA2]; exact rwtext_any x.data (by have : (txtB x.data).length = (sevens x.data.size).length + x.data.size := (by unfold txtB; rw [List.length_append, toList_size]); unfold bfits; omega) w'
  have C3 : Hid (∀ (m : Nat) w', w'.heap[m]? = some (.cells #[.int .i64 x.s0, .int .i64 x.s1, .int .i64 x.s2, .int .i64 x.s3, .int .i64 x.s4, .int .i64 x.s5, .int .i64 x.s6, .int .i64 x.s7, .int .i64 x.s8] 3 (0, 0)) → Calls Tryz.prog 38 #[.slice (some ⟨m, 0, none⟩) 9 9] w' (fun e w'' => e = .returned (.string A3) ∧ Mod (fun _ => False) w' w'')) := Lib.hid fun m w' h => by rw [← hA3]; exact rnums_any _ 9 9 [x.s0, x.s1, x.s2, x.s3, x.s4, x.s5, x.s6, x.s7, x.s8] rfl (by intro t ht; simp only [List.mem_cons, List.not_mem_nil, or_false] at ht; rcases ht with rfl | rfl | rfl | rfl | rfl | rfl | rfl | rfl | rfl <;> first | exact HX.out.2.2.2.1 | exact HX.out.2.2.2.2.1 | exact HX.out.2.2.2.2.2.1 | exact HX.out.2.2.2.2.2.2.1 | exact HX.out.2.2.2.2.2.2.2.1 | exact HX.out.2.2.2.2.2.2.2.2.1 | exact HX.out.2.2.2.2.2.2.2.2.2.1 | exact HX.out.2.2.2.2.2.2.2.2.2.2.1 | exact HX.out.2.2.2.2.2.2.2.2.2.2.2.1) (by omega) w' (Sl.new (c := #[.int .i64 x.s0, .int .i64 x.s1, .int .i64 x.s2, .int .i64 x.s3, .int .i64 x.s4, .int .i64 x.s5, .int .i64 x.s6, .int .i64 x.s7, .int .i64 x.s8]) h rfl (by unfold maxLen; omega)).rd
  have C4 : Hid (∀ w', Mod (fun _ => False) w w' → Calls Tryz.prog 103 #[.slice x.aclA x.acl.length x.aclC] w' (fun e w'' => e = .returned (.string A4) ∧ Mod (fun _ => False) w' w'')) := Lib.hid fun w' h => by rw [← hA4]; exact rAcls_any x.aclA x.aclC x.acl w' ((HX.out.2.2.2.2.2.2.2.2.2.2.2.2.1).mod h (fun _ _ h => h)) (fun a ha => HX.out.2.2.2.2.2.2.2.2.2.2.2.2.2.1 a ha) (by unfold bfits; omega)
  have C5 : Hid (∀ w', Mod (fun _ => False) w w' → Calls Tryz.prog 41 #[.slice x.kidsA x.kids.length x.kidsC] w' (fun e w'' => e = .returned (.string A5) ∧ Mod (fun _ => False) w' w'')) := Lib.hid fun w' h => by rw [← hA5]; exact rtexts_any x.kidsA x.kidsC x.kids w' ((HX.out.2.2.2.2.2.2.2.2.2.2.2.2.2.2).mod h (fun _ _ h => h)) (by unfold bfits; omega)
  have HA0 := Lib.hid hA0
  have HA1 := Lib.hid hA1
  have HA2 := Lib.hid hA2
  have HA3 := Lib.hid hA3
  have HA4 := Lib.hid hA4
  have HA5 := Lib.hid hA5
  have hz0 : (w.alloc (.cells #[.int .i64 x.xid, .int .i64 x.zxid, .int .i64 x.err, .string x.path, .string x.data, .int .i64 x.s0, .int .i64 x.s1, .int .i64 x.s2, .int .i64 x.s3, .int .i64 x.s4, .int .i64 x.s5, .int .i64 x.s6, .int .i64 x.s7, .int .i64 x.s8, .slice x.aclA x.acl.length x.aclC, .slice x.kidsA x.kids.length x.kidsC, .slice x.subsA x.subsN x.subsC] 70)).heap.size = w.heap.size + 1 := World.size_alloc ..
  simp only [Ans.cells]
  have hB : (w.alloc (.cells #[.int .i64 x.xid, .int .i64 x.zxid, .int .i64 x.err, .string x.path, .string x.data, .int .i64 x.s0, .int .i64 x.s1, .int .i64 x.s2, .int .i64 x.s3, .int .i64 x.s4, .int .i64 x.s5, .int .i64 x.s6, .int .i64 x.s7, .int .i64 x.s8, .slice x.aclA x.acl.length x.aclC, .slice x.kidsA x.kids.length x.kidsC, .slice x.subsA x.subsN x.subsC] 70)).heap[w.heap.size]? = some (.cells #[.int .i64 x.xid, .int .i64 x.zxid, .int .i64 x.err, .string x.path, .string x.data, .int .i64 x.s0, .int .i64 x.s1, .int .i64 x.s2, .int .i64 x.s3, .int .i64 x.s4, .int .i64 x.s5, .int .i64 x.s6, .int .i64 x.s7, .int .i64 x.s8, .slice x.aclA x.acl.length x.aclC, .slice x.kidsA x.kids.length x.kidsC, .slice x.subsA x.subsN x.subsC] 70 (0, 0)) := heap_alloc_new w _
  clear hx hf hlen hA0 hs0 hA1 hs1 hA2 hs2 hA3 hs3 hA4 hs4 hA5 hs5
  have HC : Hid (∀ j u, ([.int .i64 x.s0, .int .i64 x.s1, .int .i64 x.s2, .int .i64 x.s3, .int .i64 x.s4, .int .i64 x.s5, .int .i64 x.s6, .int .i64 x.s7, .int .i64 x.s8] : List Value)[j]? = some u → (w.alloc (.cells #[.int .i64 x.xid, .int .i64 x.zxid, .int .i64 x.err, .string x.path, .string x.data, .int .i64 x.s0, .int .i64 x.s1, .int .i64 x.s2, .int .i64 x.s3, .int .i64 x.s4, .int .i64 x.s5, .int .i64 x.s6, .int .i64 x.s7, .int .i64 x.s8, .slice x.aclA x.acl.length x.aclC, .slice x.kidsA x.kids.length x.kidsC, .slice x.subsA x.subsN x.subsC] 70)).cell? ((⟨w.heap.size, 5, none⟩ : Addr).add j) = some u) := Lib.hid (box_mid [.int .i64 x.xid, .int .i64 x.zxid, .int .i64 x.err, .string x.path, .string x.data] [.int .i64 x.s0, .int .i64 x.s1, .int .i64 x.s2, .int .i64 x.s3, .int .i64 x.s4, .int .i64 x.s5, .int .i64 x.s6, .int .i64 x.s7, .int .i64 x.s8] [.slice x.aclA x.acl.length x.aclC, .slice x.kidsA x.kids.length x.kidsC, .slice x.subsA x.subsN x.subsC] hB)
  have hB2 : ((w.alloc (.cells #[.int .i64 x.xid, .int .i64 x.zxid, .int .i64 x.err, .string x.path, .string x.data, .int .i64 x.s0, .int .i64 x.s1, .int .i64 x.s2, .int .i64 x.s3, .int .i64 x.s4, .int .i64 x.s5, .int .i64 x.s6, .int .i64 x.s7, .int .i64 x.s8, .slice x.aclA x.acl.length x.aclC, .slice x.kidsA x.kids.length x.kidsC, .slice x.subsA x.subsN x.subsC] 70)).alloc (.cells #[.int .i64 0, .int .i64 0, .int .i64 0, .int .i64 0, .int .i64 0, .int .i64 0, .int .i64 0, .int .i64 0, .int .i64 0] 67)).heap[w.heap.size + 1]? = some (.cells #[.int .i64 0, .int .i64 0, .int .i64 0, .int .i64 0, .int .i64 0, .int .i64 0, .int .i64 0, .int .i64 0, .int .i64 0] 67 (0, 0)) := heap_alloc_new1 _ _ _ _
  have HB2 := Lib.hid hB2
  have HB := Lib.hid hB
  clear hB hB2 HAl
  go_enter Tryz.func64, Tryz.ntmps64
  go_wp2_with (first | ((with_reducible refine at_list ?_); refine wpList_load_chunk 9 _ Tryz.underlying67 rfl sizeStat ⟨w.heap.size, 5, none⟩ rfl [.int .i64 x.s0, .int .i64 x.s1, .int .i64 x.s2, .int .i64 x.s3, .int .i64 x.s4, .int .i64 x.s5, .int .i64 x.s6, .int .i64 x.s7, .int .i64 x.s8] rfl HC.out ?_) | ((with_reducible refine at_list ?_); refine wpList_store_whole 9 sizeStat (w.heap.size + 1) rfl _ _ HB2.out rfl [.int .i64 x.s0, .int .i64 x.s1, .int .i64 x.s2, .int .i64 x.s3, .int .i64 x.s4, .int .i64 x.s5, .int .i64 x.s6, .int .i64 x.s7, .int .i64 x.s8] rfl rfl (by kernel_rfl) ?_; intro W hg8 hM8 hz8))
  have HAl : Hid (Mod (fun _ => False) w W) := Lib.hid ((((Mod.refl _ w).alloc _).alloc _).then hM8 (fun x hx h => by omega))
  have hB : W.heap[w.heap.size]? = some (.cells #[.int .i64 x.xid, .int .i64 x.zxid, .int .i64 x.err, .string x.path, .string x.data, .int .i64 x.s0, .int .i64 x.s1, .int .i64 x.s2, .int .i64 x.s3, .int .i64 x.s4, .int .i64 x.s5, .int .i64 x.s6, .int .i64 x.s7, .int .i64 x.s8, .slice x.aclA x.acl.length x.aclC, .slice x.kidsA x.kids.length x.kidsC, .slice x.subsA x.subsN x.subsC] 70 (0, 0)) := hM8.heap (heap_allocI HB.out) (by intro h; omega)
  have hzz : w.heap.size + 1 < W.heap.size := heap_lt hg8
  clear hM8 hz8 HC HB HB2 hz0
  generalize w.heap.size = tb at *
  have d0 : W.cell? ⟨tb + 1, 0, none⟩ = some (.int .i64 x.s0) := blk_cell hg8 0 _ rfl
  have d1 : W.cell? ⟨tb + 1, 1, none⟩ = some (.int .i64 x.s1) := blk_cell hg8 1 _ rfl
  have d2 : W.cell? ⟨tb + 1, 2, none⟩ = some (.int .i64 x.s2) := blk_cell hg8 2 _ rfl
  have d3 : W.cell? ⟨tb + 1, 3, none⟩ = some (.int .i64 x.s3) := blk_cell hg8 3 _ rfl
  have d4 : W.cell? ⟨tb + 1, 4, none⟩ = some (.int .i64 x.s4) := blk_cell hg8 4 _ rfl
  have d5 : W.cell? ⟨tb + 1, 5, none⟩ = some (.int .i64 x.s5) := blk_cell hg8 5 _ rfl
  have d6 : W.cell? ⟨tb + 1, 6, none⟩ = some (.int .i64 x.s6) := blk_cell hg8 6 _ rfl
  have d7 : W.cell? ⟨tb + 1, 7, none⟩ = some (.int .i64 x.s7) := blk_cell hg8 7 _ rfl
  have d8 : W.cell? ⟨tb + 1, 8, none⟩ = some (.int .i64 x.s8) := blk_cell hg8 8 _ rfl
  have c0 : W.cell? ⟨tb, 0, none⟩ = some (.int .i64 x.xid) := blk_cell hB 0 _ rfl
  have c1 : W.cell? ⟨tb, 1, none⟩ = some (.int .i64 x.zxid) := blk_cell hB 1 _ rfl
  have c2 : W.cell? ⟨tb, 2, none⟩ = some (.int .i64 x.err) := blk_cell hB 2 _ rfl
  have c3 : W.cell? ⟨tb, 3, none⟩ = some (.string x.path) := blk_cell hB 3 _ rfl
  have c4 : W.cell? ⟨tb, 4, none⟩ = some (.string x.data) := blk_cell hB 4 _ rfl
  have c14 : W.cell? ⟨tb, 14, none⟩ = some (.slice x.aclA x.acl.length x.aclC) := blk_cell hB 14 _ rfl
  have c15 : W.cell? ⟨tb, 15, none⟩ = some (.slice x.kidsA x.kids.length x.kidsC) := blk_cell hB 15 _ rfl
  have KP : Hid (∀ w', Mod (fun _ => False) W w' → w'.cell? ⟨tb, 0, none⟩ = some (.int .i64 x.xid) ∧ w'.cell? ⟨tb, 1, none⟩ = some (.int .i64 x.zxid) ∧ w'.cell? ⟨tb, 2, none⟩ = some (.int .i64 x.err) ∧ w'.cell? ⟨tb, 3, none⟩ = some (.string x.path) ∧ w'.cell? ⟨tb, 4, none⟩ = some (.string x.data) ∧ w'.cell? ⟨tb + 1, 0, none⟩ = some (.int .i64 x.s0) ∧ w'.cell? ⟨tb + 1, 1, none⟩ = some (.int .i64 x.s1) ∧ w'.cell? ⟨tb + 1, 2, none⟩ = some (.int .i64 x.s2) ∧ w'.cell? ⟨tb + 1, 3, none⟩ = some (.int .i64 x.s3) ∧ w'.cell? ⟨tb + 1, 4, none⟩ = some (.int .i64 x.s4) ∧ w'.cell? ⟨tb + 1, 5, none⟩ = some (.int .i64 x.s5) ∧ w'.cell? ⟨tb + 1, 6, none⟩ = some (.int .i64 x.s6) ∧ w'.cell? ⟨tb + 1, 7, none⟩ = some (.int .i64 x.s7) ∧ w'.cell? ⟨tb + 1, 8, none⟩ = some (.int .i64 x.s8) ∧ w'.cell? ⟨tb, 14, none⟩ = some (.slice x.aclA x.acl.length x.aclC) ∧ w'.cell? ⟨tb, 15, none⟩ = some (.slice x.kidsA x.kids.length x.kidsC)) := Lib.hid fun w' h => ⟨h.cell c0 id, h.cell c1 id, h.cell c2 id, h.cell c3 id, h.cell c4 id, h.cell d0 id, h.cell d1 id, h.cell d2 id, h.cell d3 id, h.cell d4 id, h.cell d5 id, h.cell d6 id, h.cell d7 id, h.cell d8 id, h.cell c14 id, h.cell c15 id⟩
  have hz : tb < W.heap.size := heap_lt hB
  clear hB hg8
  go_region_held3 (fun w' => w'.cell? ⟨tb, 0, none⟩ = some (.int .i64 x.xid) ∧ w'.cell? ⟨tb, 1, none⟩ = some (.int .i64 x.zxid) ∧ w'.cell? ⟨tb, 2, none⟩ = some (.int .i64 x.err) ∧ w'.cell? ⟨tb, 3, none⟩ = some (.string x.path) ∧ w'.cell? ⟨tb, 4, none⟩ = some (.string x.data) ∧ w'.cell? ⟨tb + 1, 0, none⟩ = some (.int .i64 x.s0) ∧ w'.cell? ⟨tb + 1, 1, none⟩ = some (.int .i64 x.s1) ∧ w'.cell? ⟨tb + 1, 2, none⟩ = some (.int .i64 x.s2) ∧ w'.cell? ⟨tb + 1, 3, none⟩ = some (.int .i64 x.s3) ∧ w'.cell? ⟨tb + 1, 4, none⟩ = some (.int .i64 x.s4) ∧ w'.cell? ⟨tb + 1, 5, none⟩ = some (.int .i64 x.s5) ∧ w'.cell? ⟨tb + 1, 6, none⟩ = some (.int .i64 x.s6) ∧ w'.cell? ⟨tb + 1, 7, none⟩ = some (.int .i64 x.s7) ∧ w'.cell? ⟨tb + 1, 8, none⟩ = some (.int .i64 x.s8) ∧ w'.cell? ⟨tb, 14, none⟩ = some (.slice x.aclA x.acl.length x.aclC) ∧ w'.cell? ⟨tb, 15, none⟩ = some (.slice x.kidsA x.kids.length x.kidsC))
    (first | (refine KP.out _ ?_; (with_reducible (repeat (first | exact Mod.refl _ _ | refine Mod.drew ?_ | refine Mod.drewN ?_ _ | refine Mod.alloc ?_ _ | refine Mod.back (by assumption) ?_)))))
    ((first
      | (go_at_call 38; refine (C0.out _ _ ?_).mono ?_; (focus (with_reducible (repeat (first | exact heap_alloc_new _ _ | exact heap_alloc_new1 _ _ _ _ | refine heap_drewI ?_ | refine heap_drewNI ?_ | refine heap_back (by assumption) ?_ | refine heap_allocI ?_)))); rintro e v0 ⟨rfl, hM0⟩; clear C0)
      | (go_at_call_of 40 (Value.string x.path); refine (C1.out _).mono ?_; rintro e v1 ⟨rfl, hM1⟩; clear C1)
      | (go_at_call_of 40 (Value.string x.data); refine (C2.out _).mono ?_; rintro e v2 ⟨rfl, hM2⟩; clear C2)
      | (go_at_call 38; refine (C3.out _ _ ?_).mono ?_; (focus (with_reducible (repeat (first | exact heap_alloc_new _ _ | exact heap_alloc_new1 _ _ _ _ | refine heap_drewI ?_ | refine heap_drewNI ?_ | refine heap_back (by assumption) ?_ | refine heap_allocI ?_)))); rintro e v3 ⟨rfl, hM3⟩; clear C3)
      | (go_at_call 103; refine (C4.out _ (HAl.out.then (by with_reducible (repeat (first | exact Mod.refl _ _ | refine Mod.drew ?_ | refine Mod.drewN ?_ _ | refine Mod.alloc ?_ _ | refine Mod.back (by assumption) ?_))) (fun _ _ h => h))).mono ?_; rintro e v4 ⟨rfl, hM4⟩; clear C4)
      | (go_at_call 41; refine (C5.out _ (HAl.out.then (by with_reducible (repeat (first | exact Mod.refl _ _ | refine Mod.drew ?_ | refine Mod.drewN ?_ _ | refine Mod.alloc ?_ _ | refine Mod.back (by assumption) ?_))) (fun _ _ h => h))).mono ?_; rintro e v5 ⟨rfl, hM5⟩; clear C5)))
  all_goals
    go_wp2
    go_ret
    refine ⟨?_, HAl.out.then (by with_reducible (repeat (first | exact Mod.refl _ _ | refine Mod.drew ?_ | refine Mod.drewN ?_ _ | refine Mod.alloc ?_ _ | refine Mod.back (by assumption) ?_))) (fun _ _ h => h)⟩
    show Ending.returned (.string (A0 ++ A1 ++ A2 ++ A3 ++ A4 ++ A5)) = _
    rw [← HA0.out, ← HA1.out, ← HA2.out, ← HA3.out, ← HA4.out, ← HA5.out, mk_append, mk_append, mk_append, mk_append, mk_append]
    rfl
end Go.Proofs.YtmbkbkfcbloafaaGreat
