/-
  Things with lists as bytes: the document's part, op, answer.
  Conditions: the lists lie in the world; the bytes fit.
-/
import Derived.Test.YtmbkbkfcbloafaaGreatWireP
namespace Go.Proofs.YtmbkbkfcbloafaaGreat
open Go.RowKit
set_option linter.unusedSectionVars false
set_option linter.unusedSimpArgs false
set_option linter.unusedVariables false
set_option maxRecDepth 100000

theorem heap_alloc_new1 (w : World) (p : Obj) (c : Array Value) (T : TypeId) : ((w.alloc p).alloc (.cells c T)).heap[w.heap.size + 1]? = some (.cells c T (0, 0)) := by
  have := heap_alloc_new (w.alloc p) (.cells c T)
  rwa [World.size_alloc] at this
theorem heap_drewI {w : World} {n : Nat} {o : Obj} (h : w.heap[n]? = some o) : w.drew.heap[n]? = some o := h
theorem heap_drewNI {w : World} {n k : Nat} {o : Obj} (h : w.heap[n]? = some o) : (w.drewN k).heap[n]? = some o := h
theorem heap_allocI {w : World} {n : Nat} {o p : Obj} (h : w.heap[n]? = some o) : (w.alloc p).heap[n]? = some o := ((Mod.refl (fun _ => False) w).alloc p).heap h id

set_option maxHeartbeats 4000000 in
theorem rpart_any (x : Txn) (w : World) (hx : x.ok w) (hf : bfits (x.bytes.length + 100)) :
    Calls Tryz.prog 97 #[.agg x.cells.toArray] w (TextPost x.bytes w) := by
  have HX := Lib.hid hx
  have hlen : x.bytes.length = (numB x.kind).length + (txtB x.path).length + (txtB x.data).length + (listB Acl.bytes x.acl).length + (numsB [x.owner, x.number, x.err]).length := by unfold Txn.bytes; simp only [List.length_append]
  unfold bfits at hf
  obtain ⟨A0, hA0⟩ : ∃ A, ByteArray.mk (numB x.kind).toArray = A := ⟨_, rfl⟩
  have hs0 : A0.size = (numB x.kind).length := by rw [← hA0, mk_size]
  obtain ⟨A1, hA1⟩ : ∃ A, ByteArray.mk (txtB x.path).toArray = A := ⟨_, rfl⟩
  have hs1 : A1.size = (txtB x.path).length := by rw [← hA1, mk_size]
  obtain ⟨A2, hA2⟩ : ∃ A, ByteArray.mk (txtB x.data).toArray = A := ⟨_, rfl⟩
  have hs2 : A2.size = (txtB x.data).length := by rw [← hA2, mk_size]
  obtain ⟨A3, hA3⟩ : ∃ A, ByteArray.mk (listB Acl.bytes x.acl).toArray = A := ⟨_, rfl⟩
  have hs3 : A3.size = (listB Acl.bytes x.acl).length := by rw [← hA3, mk_size]
  obtain ⟨A4, hA4⟩ : ∃ A, ByteArray.mk (numsB [x.owner, x.number, x.err]).toArray = A := ⟨_, rfl⟩
  have hs4 : A4.size = (numsB [x.owner, x.number, x.err]).length := by rw [← hA4, mk_size]
  have hbd1 : ¬ 9223372036854775807 < A0.size + A1.size := by omega
  have hbd2 : ¬ 9223372036854775807 < A0.size + A1.size + A2.size := by omega
  have hbd3 : ¬ 9223372036854775807 < A0.size + A1.size + A2.size + A3.size := by omega
  have hbd4 : ¬ 9223372036854775807 < A0.size + A1.size + A2.size + A3.size + A4.size := by omega
  have HAl : Hid (Mod (fun _ => False) w (w.alloc (.cells #[.int .i64 x.kind, .string x.path, .string x.data, .slice x.aclA x.acl.length x.aclC, .int .i64 x.owner, .int .i64 x.number, .int .i64 x.err, .slice x.subsA x.subsN x.subsC] 37))) := Lib.hid ((Mod.refl _ w).alloc _)
  have C0 : Hid (∀ w', Calls Tryz.prog 59 #[.int .i64 x.kind] w' (fun e w'' => e = .returned (.string A0) ∧ Mod (fun _ => False) w' w'')) := Lib.hid fun w' => by rw [← hA0]; exact rwnum_any x.kind (HX.out.1).1 (HX.out.1).2 w'
  have C1 : Hid (∀ w', Calls Tryz.prog 40 #[.string x.path] w' (fun e w'' => e = .returned (.string A1) ∧ Mod (fun _ => False) w' w'')) := Lib.hid fun w' => by rw [← hA1]; exact rwtext_any x.path (by have : (txtB x.path).length = (sevens x.path.size).length + x.path.size := (by unfold txtB; rw [List.length_append, toList_size]); unfold bfits; omega) w'
  have C2 : Hid (∀ w', Calls Tryz.prog 40 #[.string x.data] w' (fun e w'' => e = .returned (.string A2) ∧ Mod (fun _ => False) w' w'')) := Lib.hid fun w' => by rw [← hA2]; exact rwtext_any x.data (by have : (txtB x.data).length = (sevens x.data.size).length + x.data.size := (by unfold txtB; rw [List.length_append, toList_size]); unfold bfits; omega) w'
  have C3 : Hid (∀ w', Mod (fun _ => False) w w' → Calls Tryz.prog 103 #[.slice x.aclA x.acl.length x.aclC] w' (fun e w'' => e = .returned (.string A3) ∧ Mod (fun _ => False) w' w'')) := Lib.hid fun w' h => by rw [← hA3]; exact rAcls_any x.aclA x.aclC x.acl w' ((HX.out.2.2.2.2.1).mod h (fun _ _ h => h)) (fun a ha => HX.out.2.2.2.2.2 a ha) (by unfold bfits; omega)
  have C4 : Hid (∀ (m : Nat) w', w'.heap[m]? = some (.cells #[.int .i64 x.owner, .int .i64 x.number, .int .i64 x.err] 3 (0, 0)) → Calls Tryz.prog 38 #[.slice (some ⟨m, 0, none⟩) 3 3] w' (fun e w'' => e = .returned (.string A4) ∧ Mod (fun _ => False) w' w'')) := Lib.hid fun m w' h => by rw [← hA4]; exact rnums_any _ 3 3 [x.owner, x.number, x.err] rfl (by intro t ht; simp only [List.mem_cons, List.not_mem_nil, or_false] at ht; rcases ht with rfl | rfl | rfl <;> first | exact HX.out.2.1 | exact HX.out.2.2.1 | exact HX.out.2.2.2.1) (by omega) w' (Sl.new (c := #[.int .i64 x.owner, .int .i64 x.number, .int .i64 x.err]) h rfl (by unfold maxLen; omega)).rd
  have HA0 := Lib.hid hA0
  have HA1 := Lib.hid hA1
  have HA2 := Lib.hid hA2
  have HA3 := Lib.hid hA3
  have HA4 := Lib.hid hA4
  have hz0 : (w.alloc (.cells #[.int .i64 x.kind, .string x.path, .string x.data, .slice x.aclA x.acl.length x.aclC, .int .i64 x.owner, .int .i64 x.number, .int .i64 x.err, .slice x.subsA x.subsN x.subsC] 37)).heap.size = w.heap.size + 1 := World.size_alloc ..
  simp only [Txn.cells]
  have hB : (w.alloc (.cells #[.int .i64 x.kind, .string x.path, .string x.data, .slice x.aclA x.acl.length x.aclC, .int .i64 x.owner, .int .i64 x.number, .int .i64 x.err, .slice x.subsA x.subsN x.subsC] 37)).heap[w.heap.size]? = some (.cells #[.int .i64 x.kind, .string x.path, .string x.data, .slice x.aclA x.acl.length x.aclC, .int .i64 x.owner, .int .i64 x.number, .int .i64 x.err, .slice x.subsA x.subsN x.subsC] 37 (0, 0)) := heap_alloc_new w _
  clear hx hf hlen hA0 hs0 hA1 hs1 hA2 hs2 hA3 hs3 hA4 hs4
  go_enter Tryz.func97, Tryz.ntmps97
  go_wp2
  generalize w.alloc (.cells #[.int .i64 x.kind, .string x.path, .string x.data, .slice x.aclA x.acl.length x.aclC, .int .i64 x.owner, .int .i64 x.number, .int .i64 x.err, .slice x.subsA x.subsN x.subsC] 37) = W at *
  generalize w.heap.size = tb at *
  have c0 : W.cell? ⟨tb, 0, none⟩ = some (.int .i64 x.kind) := blk_cell hB 0 _ rfl
  have c1 : W.cell? ⟨tb, 1, none⟩ = some (.string x.path) := blk_cell hB 1 _ rfl
  have c2 : W.cell? ⟨tb, 2, none⟩ = some (.string x.data) := blk_cell hB 2 _ rfl
  have c3 : W.cell? ⟨tb, 3, none⟩ = some (.slice x.aclA x.acl.length x.aclC) := blk_cell hB 3 _ rfl
  have c4 : W.cell? ⟨tb, 4, none⟩ = some (.int .i64 x.owner) := blk_cell hB 4 _ rfl
  have c5 : W.cell? ⟨tb, 5, none⟩ = some (.int .i64 x.number) := blk_cell hB 5 _ rfl
  have c6 : W.cell? ⟨tb, 6, none⟩ = some (.int .i64 x.err) := blk_cell hB 6 _ rfl
  have KP : Hid (∀ w', Mod (fun _ => False) W w' → w'.cell? ⟨tb, 0, none⟩ = some (.int .i64 x.kind) ∧ w'.cell? ⟨tb, 1, none⟩ = some (.string x.path) ∧ w'.cell? ⟨tb, 2, none⟩ = some (.string x.data) ∧ w'.cell? ⟨tb, 3, none⟩ = some (.slice x.aclA x.acl.length x.aclC) ∧ w'.cell? ⟨tb, 4, none⟩ = some (.int .i64 x.owner) ∧ w'.cell? ⟨tb, 5, none⟩ = some (.int .i64 x.number) ∧ w'.cell? ⟨tb, 6, none⟩ = some (.int .i64 x.err)) := Lib.hid fun w' h => ⟨h.cell c0 id, h.cell c1 id, h.cell c2 id, h.cell c3 id, h.cell c4 id, h.cell c5 id, h.cell c6 id⟩
  have hz : tb < W.heap.size := heap_lt hB
  clear hB hz0
  go_region_held3 (fun w' => w'.cell? ⟨tb, 0, none⟩ = some (.int .i64 x.kind) ∧ w'.cell? ⟨tb, 1, none⟩ = some (.string x.path) ∧ w'.cell? ⟨tb, 2, none⟩ = some (.string x.data) ∧ w'.cell? ⟨tb, 3, none⟩ = some (.slice x.aclA x.acl.length x.aclC) ∧ w'.cell? ⟨tb, 4, none⟩ = some (.int .i64 x.owner) ∧ w'.cell? ⟨tb, 5, none⟩ = some (.int .i64 x.number) ∧ w'.cell? ⟨tb, 6, none⟩ = some (.int .i64 x.err))
    (first | (refine KP.out _ ?_; (with_reducible (repeat (first | exact Mod.refl _ _ | refine Mod.drew ?_ | refine Mod.drewN ?_ _ | refine Mod.alloc ?_ _ | refine Mod.back (by assumption) ?_)))))
    ((first
      | (go_at_call_of 59 (Value.int IntKind.i64 x.kind); refine (C0.out _).mono ?_; rintro e v0 ⟨rfl, hM0⟩; clear C0)
      | (go_at_call_of 40 (Value.string x.path); refine (C1.out _).mono ?_; rintro e v1 ⟨rfl, hM1⟩; clear C1)
      | (go_at_call_of 40 (Value.string x.data); refine (C2.out _).mono ?_; rintro e v2 ⟨rfl, hM2⟩; clear C2)
      | (go_at_call 103; refine (C3.out _ (HAl.out.then (by with_reducible (repeat (first | exact Mod.refl _ _ | refine Mod.drew ?_ | refine Mod.drewN ?_ _ | refine Mod.alloc ?_ _ | refine Mod.back (by assumption) ?_))) (fun _ _ h => h))).mono ?_; rintro e v3 ⟨rfl, hM3⟩; clear C3)
      | (go_at_call 38; refine (C4.out _ _ ?_).mono ?_; (focus (with_reducible (repeat (first | exact heap_alloc_new _ _ | exact heap_alloc_new1 _ _ _ _ | refine heap_drewI ?_ | refine heap_drewNI ?_ | refine heap_back (by assumption) ?_ | refine heap_allocI ?_)))); rintro e v4 ⟨rfl, hM4⟩; clear C4)))
  all_goals
    go_wp2
    go_ret
    refine ⟨?_, HAl.out.then (by with_reducible (repeat (first | exact Mod.refl _ _ | refine Mod.drew ?_ | refine Mod.drewN ?_ _ | refine Mod.alloc ?_ _ | refine Mod.back (by assumption) ?_))) (fun _ _ h => h)⟩
    show Ending.returned (.string (A0 ++ A1 ++ A2 ++ A3 ++ A4)) = _
    rw [← HA0.out, ← HA1.out, ← HA2.out, ← HA3.out, ← HA4.out, mk_append, mk_append, mk_append, mk_append]
    rfl

set_option maxHeartbeats 4000000 in
theorem rop_any (x : Op) (w : World) (hx : x.ok w) (hf : bfits (x.bytes.length + 100)) :
    Calls Tryz.prog 58 #[.agg x.cells.toArray] w (TextPost x.bytes w) := by
  have HX := Lib.hid hx
  have hlen : x.bytes.length = (numsB [x.kind, x.xid]).length + (txtB x.path).length + (txtB x.data).length + (listB Acl.bytes x.acl).length + (numsB [x.flags, x.version]).length + (flagB x.watch).length := by unfold Op.bytes; simp only [List.length_append]
  unfold bfits at hf
  obtain ⟨A0, hA0⟩ : ∃ A, ByteArray.mk (numsB [x.kind, x.xid]).toArray = A := ⟨_, rfl⟩
  have hs0 : A0.size = (numsB [x.kind, x.xid]).length := by rw [← hA0, mk_size]
  obtain ⟨A1, hA1⟩ : ∃ A, ByteArray.mk (txtB x.path).toArray = A := ⟨_, rfl⟩
  have hs1 : A1.size = (txtB x.path).length := by rw [← hA1, mk_size]
  obtain ⟨A2, hA2⟩ : ∃ A, ByteArray.mk (txtB x.data).toArray = A := ⟨_, rfl⟩
  have hs2 : A2.size = (txtB x.data).length := by rw [← hA2, mk_size]
  obtain ⟨A3, hA3⟩ : ∃ A, ByteArray.mk (listB Acl.bytes x.acl).toArray = A := ⟨_, rfl⟩
  have hs3 : A3.size = (listB Acl.bytes x.acl).length := by rw [← hA3, mk_size]
  obtain ⟨A4, hA4⟩ : ∃ A, ByteArray.mk (numsB [x.flags, x.version]).toArray = A := ⟨_, rfl⟩
  have hs4 : A4.size = (numsB [x.flags, x.version]).length := by rw [← hA4, mk_size]
  obtain ⟨A5, hA5⟩ : ∃ A, ByteArray.mk (flagB x.watch).toArray = A := ⟨_, rfl⟩
  have hs5 : A5.size = (flagB x.watch).length := by rw [← hA5, mk_size]
  have hbd1 : ¬ 9223372036854775807 < A0.size + A1.size := by omega
  have hbd2 : ¬ 9223372036854775807 < A0.size + A1.size + A2.size := by omega
  have hbd3 : ¬ 9223372036854775807 < A0.size + A1.size + A2.size + A3.size := by omega
  have hbd4 : ¬ 9223372036854775807 < A0.size + A1.size + A2.size + A3.size + A4.size := by omega
  have hbd5 : ¬ 9223372036854775807 < A0.size + A1.size + A2.size + A3.size + A4.size + A5.size := by omega
  have HAl : Hid (Mod (fun _ => False) w (w.alloc (.cells #[.int .i64 x.kind, .int .i64 x.xid, .string x.path, .string x.data, .slice x.aclA x.acl.length x.aclC, .int .i64 x.flags, .int .i64 x.version, .bool x.watch, .slice x.subsA x.subsN x.subsC, .slice x.armedA x.armedN x.armedC] 30))) := Lib.hid ((Mod.refl _ w).alloc _)
  have C0 : Hid (∀ (m : Nat) w', w'.heap[m]? = some (.cells #[.int .i64 x.kind, .int .i64 x.xid] 3 (0, 0)) → Calls Tryz.prog 38 #[.slice (some ⟨m, 0, none⟩) 2 2] w' (fun e w'' => e = .returned (.string A0) ∧ Mod (fun _ => False) w' w'')) := Lib.hid fun m w' h => by rw [← hA0]; exact rnums_any _ 2 2 [x.kind, x.xid] rfl (by intro t ht; simp only [List.mem_cons, List.not_mem_nil, or_false] at ht; rcases ht with rfl | rfl <;> first | exact HX.out.1 | exact HX.out.2.1) (by omega) w' (Sl.new (c := #[.int .i64 x.kind, .int .i64 x.xid]) h rfl (by unfold maxLen; omega)).rd
  have C1 : Hid (∀ w', Calls Tryz.prog 40 #[.string x.path] w' (fun e w'' => e = .returned (.string A1) ∧ Mod (fun _ => False) w' w'')) := Lib.hid fun w' => by rw [← hA1]; exact rwtext_any x.path (by have : (txtB x.path).length = (sevens x.path.size).length + x.path.size := (by unfold txtB; rw [List.length_append, toList_size]); unfold bfits; omega) w'
  have C2 : Hid (∀ w', Calls Tryz.prog 40 #[.string x.data] w' (fun e w'' => e = .returned (.string A2) ∧ Mod (fun _ => False) w' w'')) := Lib.hid fun w' => by rw [← hA2]; exact rwtext_any x.data (by have : (txtB x.data).length = (sevens x.data.size).length + x.data.size := (by unfold txtB; rw [List.length_append, toList_size]); unfold bfits; omega) w'
  have C3 : Hid (∀ w', Mod (fun _ => False) w w' → Calls Tryz.prog 103 #[.slice x.aclA x.acl.length x.aclC] w' (fun e w'' => e = .returned (.string A3) ∧ Mod (fun _ => False) w' w'')) := Lib.hid fun w' h => by rw [← hA3]; exact rAcls_any x.aclA x.aclC x.acl w' ((HX.out.2.2.2.2.1).mod h (fun _ _ h => h)) (fun a ha => HX.out.2.2.2.2.2 a ha) (by unfold bfits; omega)
  have C4 : Hid (∀ (m : Nat) w', w'.heap[m]? = some (.cells #[.int .i64 x.flags, .int .i64 x.version] 3 (0, 0)) → Calls Tryz.prog 38 #[.slice (some ⟨m, 0, none⟩) 2 2] w' (fun e w'' => e = .returned (.string A4) ∧ Mod (fun _ => False) w' w'')) := Lib.hid fun m w' h => by rw [← hA4]; exact rnums_any _ 2 2 [x.flags, x.version] rfl (by intro t ht; simp only [List.mem_cons, List.not_mem_nil, or_false] at ht; rcases ht with rfl | rfl <;> first | exact HX.out.2.2.1 | exact HX.out.2.2.2.1) (by omega) w' (Sl.new (c := #[.int .i64 x.flags, .int .i64 x.version]) h rfl (by unfold maxLen; omega)).rd
  have C5 : Hid (∀ w', Calls Tryz.prog 104 #[.bool x.watch] w' (fun e w'' => e = .returned (.string A5) ∧ Mod (fun _ => False) w' w'')) := Lib.hid fun w' => by rw [← hA5]; exact rwflag_any x.watch w'
  have HA0 := Lib.hid hA0
  have HA1 := Lib.hid hA1
  have HA2 := Lib.hid hA2
  have HA3 := Lib.hid hA3
  have HA4 := Lib.hid hA4
  have HA5 := Lib.hid hA5
  have hz0 : (w.alloc (.cells #[.int .i64 x.kind, .int .i64 x.xid, .string x.path, .string x.data, .slice x.aclA x.acl.length x.aclC, .int .i64 x.flags, .int .i64 x.version, .bool x.watch, .slice x.subsA x.subsN x.subsC, .slice x.armedA x.armedN x.armedC] 30)).heap.size = w.heap.size + 1 := World.size_alloc ..
  simp only [Op.cells]
  have hB : (w.alloc (.cells #[.int .i64 x.kind, .int .i64 x.xid, .string x.path, .string x.data, .slice x.aclA x.acl.length x.aclC, .int .i64 x.flags, .int .i64 x.version, .bool x.watch, .slice x.subsA x.subsN x.subsC, .slice x.armedA x.armedN x.armedC] 30)).heap[w.heap.size]? = some (.cells #[.int .i64 x.kind, .int .i64 x.xid, .string x.path, .string x.data, .slice x.aclA x.acl.length x.aclC, .int .i64 x.flags, .int .i64 x.version, .bool x.watch, .slice x.subsA x.subsN x.subsC, .slice x.armedA x.armedN x.armedC] 30 (0, 0)) := heap_alloc_new w _
  clear hx hf hlen hA0 hs0 hA1 hs1 hA2 hs2 hA3 hs3 hA4 hs4 hA5 hs5
  go_enter Tryz.func58, Tryz.ntmps58
  go_wp2
  generalize w.alloc (.cells #[.int .i64 x.kind, .int .i64 x.xid, .string x.path, .string x.data, .slice x.aclA x.acl.length x.aclC, .int .i64 x.flags, .int .i64 x.version, .bool x.watch, .slice x.subsA x.subsN x.subsC, .slice x.armedA x.armedN x.armedC] 30) = W at *
  generalize w.heap.size = tb at *
  have c0 : W.cell? ⟨tb, 0, none⟩ = some (.int .i64 x.kind) := blk_cell hB 0 _ rfl
  have c1 : W.cell? ⟨tb, 1, none⟩ = some (.int .i64 x.xid) := blk_cell hB 1 _ rfl
  have c2 : W.cell? ⟨tb, 2, none⟩ = some (.string x.path) := blk_cell hB 2 _ rfl
  have c3 : W.cell? ⟨tb, 3, none⟩ = some (.string x.data) := blk_cell hB 3 _ rfl
  have c4 : W.cell? ⟨tb, 4, none⟩ = some (.slice x.aclA x.acl.length x.aclC) := blk_cell hB 4 _ rfl
  have c5 : W.cell? ⟨tb, 5, none⟩ = some (.int .i64 x.flags) := blk_cell hB 5 _ rfl
  have c6 : W.cell? ⟨tb, 6, none⟩ = some (.int .i64 x.version) := blk_cell hB 6 _ rfl
  have c7 : W.cell? ⟨tb, 7, none⟩ = some (.bool x.watch) := blk_cell hB 7 _ rfl
  have KP : Hid (∀ w', Mod (fun _ => False) W w' → w'.cell? ⟨tb, 0, none⟩ = some (.int .i64 x.kind) ∧ w'.cell? ⟨tb, 1, none⟩ = some (.int .i64 x.xid) ∧ w'.cell? ⟨tb, 2, none⟩ = some (.string x.path) ∧ w'.cell? ⟨tb, 3, none⟩ = some (.string x.data) ∧ w'.cell? ⟨tb, 4, none⟩ = some (.slice x.aclA x.acl.length x.aclC) ∧ w'.cell? ⟨tb, 5, none⟩ = some (.int .i64 x.flags) ∧ w'.cell? ⟨tb, 6, none⟩ = some (.int .i64 x.version) ∧ w'.cell? ⟨tb, 7, none⟩ = some (.bool x.watch)) := Lib.hid fun w' h => ⟨h.cell c0 id, h.cell c1 id, h.cell c2 id, h.cell c3 id, h.cell c4 id, h.cell c5 id, h.cell c6 id, h.cell c7 id⟩
  have hz : tb < W.heap.size := heap_lt hB
  clear hB hz0
  go_region_held3 (fun w' => w'.cell? ⟨tb, 0, none⟩ = some (.int .i64 x.kind) ∧ w'.cell? ⟨tb, 1, none⟩ = some (.int .i64 x.xid) ∧ w'.cell? ⟨tb, 2, none⟩ = some (.string x.path) ∧ w'.cell? ⟨tb, 3, none⟩ = some (.string x.data) ∧ w'.cell? ⟨tb, 4, none⟩ = some (.slice x.aclA x.acl.length x.aclC) ∧ w'.cell? ⟨tb, 5, none⟩ = some (.int .i64 x.flags) ∧ w'.cell? ⟨tb, 6, none⟩ = some (.int .i64 x.version) ∧ w'.cell? ⟨tb, 7, none⟩ = some (.bool x.watch))
    (first | (refine KP.out _ ?_; (with_reducible (repeat (first | exact Mod.refl _ _ | refine Mod.drew ?_ | refine Mod.drewN ?_ _ | refine Mod.alloc ?_ _ | refine Mod.back (by assumption) ?_)))))
    ((first
      | (go_at_call 38; refine (C0.out _ _ ?_).mono ?_; (focus (with_reducible (repeat (first | exact heap_alloc_new _ _ | exact heap_alloc_new1 _ _ _ _ | refine heap_drewI ?_ | refine heap_drewNI ?_ | refine heap_back (by assumption) ?_ | refine heap_allocI ?_)))); rintro e v0 ⟨rfl, hM0⟩; clear C0)
      | (go_at_call_of 40 (Value.string x.path); refine (C1.out _).mono ?_; rintro e v1 ⟨rfl, hM1⟩; clear C1)
      | (go_at_call_of 40 (Value.string x.data); refine (C2.out _).mono ?_; rintro e v2 ⟨rfl, hM2⟩; clear C2)
      | (go_at_call 103; refine (C3.out _ (HAl.out.then (by with_reducible (repeat (first | exact Mod.refl _ _ | refine Mod.drew ?_ | refine Mod.drewN ?_ _ | refine Mod.alloc ?_ _ | refine Mod.back (by assumption) ?_))) (fun _ _ h => h))).mono ?_; rintro e v3 ⟨rfl, hM3⟩; clear C3)
      | (go_at_call 38; refine (C4.out _ _ ?_).mono ?_; (focus (with_reducible (repeat (first | exact heap_alloc_new _ _ | exact heap_alloc_new1 _ _ _ _ | refine heap_drewI ?_ | refine heap_drewNI ?_ | refine heap_back (by assumption) ?_ | refine heap_allocI ?_)))); rintro e v4 ⟨rfl, hM4⟩; clear C4)
      | (go_at_call 104; refine (C5.out _).mono ?_; rintro e v5 ⟨rfl, hM5⟩; clear C5)))
  all_goals
    go_wp2
    go_ret
    refine ⟨?_, HAl.out.then (by with_reducible (repeat (first | exact Mod.refl _ _ | refine Mod.drew ?_ | refine Mod.drewN ?_ _ | refine Mod.alloc ?_ _ | refine Mod.back (by assumption) ?_))) (fun _ _ h => h)⟩
    show Ending.returned (.string (A0 ++ A1 ++ A2 ++ A3 ++ A4 ++ A5)) = _
    rw [← HA0.out, ← HA1.out, ← HA2.out, ← HA3.out, ← HA4.out, ← HA5.out, mk_append, mk_append, mk_append, mk_append, mk_append]
    rfl
end Go.Proofs.YtmbkbkfcbloafaaGreat
