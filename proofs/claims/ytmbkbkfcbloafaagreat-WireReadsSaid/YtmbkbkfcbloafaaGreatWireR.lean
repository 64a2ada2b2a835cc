/-
  Things with lists as bytes: the document's part, op, answer.
  Conditions: the lists lie in the world; the bytes fit.
-/
import Derived.Test.YtmbkbkfcbloafaaGreatWireQ
import Derived.Test.YtmbkbkfcbloafaaGreatWireO
namespace Go.Proofs.YtmbkbkfcbloafaaGreat
open Go.RowKit
set_option linter.unusedSectionVars false
set_option linter.unusedSimpArgs false
set_option linter.unusedVariables false
set_option maxRecDepth 100000
theorem Txn.okmod {w w' : World} {x : Txn} (hx : x.ok w) (h : Mod (fun _ => False) w w') : x.ok w' := ⟨hx.1, hx.2.1, hx.2.2.1, hx.2.2.2.1, (hx.2.2.2.2.1).mod h (fun _ _ h => h), fun a ha => hx.2.2.2.2.2 a ha⟩
theorem Op.okmod {w w' : World} {x : Op} (hx : x.ok w) (h : Mod (fun _ => False) w w') : x.ok w' := ⟨hx.1, hx.2.1, hx.2.2.1, hx.2.2.2.1, (hx.2.2.2.2.1).mod h (fun _ _ h => h), fun a ha => hx.2.2.2.2.2 a ha⟩

set_option maxHeartbeats 4000000 in
theorem rTxn_any (x : Txn) (subs : List Txn) (w : World) (hx : x.ok w) (hn : x.subsN = subs.length) (hr : Rd w 8 x.subsA subs.length x.subsC (subs.flatMap Txn.cells)) (hall : ∀ a ∈ subs, Txn.ok w a) (hf : bfits ((x.bytes ++ listB Txn.bytes subs).length + 100)) :
    Calls Tryz.prog 54 #[.agg x.cells.toArray] w (TextPost (x.bytes ++ listB Txn.bytes subs) w) := by
  obtain ⟨n, hnn⟩ : ∃ n, subs.length = n := ⟨_, rfl⟩
  rw [hnn] at hr hn
  have hl63 : n ≤ 2 ^ 63 - 1 := by have := hr.2.1; have := hr.2.2.1; unfold maxLen at this; omega
  have HF := Lib.hid hf
  have HN := Lib.hid hnn
  obtain ⟨A, hA⟩ : ∃ A, ByteArray.mk x.bytes.toArray = A := ⟨_, rfl⟩
  obtain ⟨B, hB⟩ : ∃ B, ByteArray.mk (sevens n).toArray = B := ⟨_, rfl⟩
  have hAs : A.size = x.bytes.length := by rw [← hA, mk_size]
  have hBs : B.size = (sevens n).length := by rw [← hB, mk_size]
  have hbd1 : ¬ 9223372036854775807 < A.size + B.size := by
    have := hf
    unfold bfits listB at this
    rw [List.length_append, List.length_append, hnn] at this
    omega
  have HAl : Hid (Mod (fun _ => False) w (w.alloc (.cells x.cells.toArray 37))) := Lib.hid ((Mod.refl _ w).alloc _)
  have C0 : Hid (∀ w', Mod (fun _ => False) w w' → Calls Tryz.prog 97 #[.agg x.cells.toArray] w' (fun e w'' => e = .returned (.string A) ∧ Mod (fun _ => False) w' w'')) := Lib.hid fun w' h => by
    rw [← hA]; exact rpart_any x w' (Txn.okmod hx h) (by have := hf; unfold bfits at this ⊢; rw [List.length_append] at this; omega)
  have C1 : Hid (∀ w', Calls Tryz.prog 39 #[.int .i64 (n : Int)] w' (fun e w'' => e = .returned (.string B) ∧ Mod (fun _ => False) w' w'')) := Lib.hid fun w' => by
    rw [← hB]; have := rwcount_any (n : Int) (by omega) (by omega) w'; rwa [Int.toNat_natCast] at this
  have C2 : Hid (∀ t ∈ subs, ∀ w', Mod (fun _ => False) w w' → Calls Tryz.prog 97 #[.agg t.cells.toArray] w' (TextPost t.bytes w')) := Lib.hid fun t ht w' h =>
    rpart_any t w' (Txn.okmod (hall t ht) h) (by
      obtain ⟨k, hk⟩ := List.mem_iff_getElem?.1 ht
      have h1 := flat_take_le Txn.bytes hk
      have := hf
      unfold listB at this
      unfold bfits at this ⊢
      rw [List.length_append, List.length_append] at this
      omega)
  have HR := Lib.hid hr
  have HA := Lib.hid hA
  have HB := Lib.hid hB
  have hB0 : (w.alloc (.cells x.cells.toArray 37)).heap[w.heap.size]? = some (.cells x.cells.toArray 37 (0, 0)) := heap_alloc_new w _
  simp only [Txn.cells, hn] at C0 hB0 HAl ⊢
  clear hx hf hnn hn hr hall hA hB hAs hBs
  go_enter Tryz.func54, Tryz.ntmps54
  go_wp2
  generalize w.alloc (.cells #[.int .i64 x.kind, .string x.path, .string x.data, .slice x.aclA x.acl.length x.aclC, .int .i64 x.owner, .int .i64 x.number, .int .i64 x.err, .slice x.subsA n x.subsC] 37) = W at *
  generalize w.heap.size = tb at *
  have c0 : W.cell? ⟨tb, 0, none⟩ = some (.int .i64 x.kind) := blk_cell hB0 0 _ rfl
  have c1 : W.cell? ⟨tb, 1, none⟩ = some (.string x.path) := blk_cell hB0 1 _ rfl
  have c2 : W.cell? ⟨tb, 2, none⟩ = some (.string x.data) := blk_cell hB0 2 _ rfl
  have c3 : W.cell? ⟨tb, 3, none⟩ = some (.slice x.aclA x.acl.length x.aclC) := blk_cell hB0 3 _ rfl
  have c4 : W.cell? ⟨tb, 4, none⟩ = some (.int .i64 x.owner) := blk_cell hB0 4 _ rfl
  have c5 : W.cell? ⟨tb, 5, none⟩ = some (.int .i64 x.number) := blk_cell hB0 5 _ rfl
  have c6 : W.cell? ⟨tb, 6, none⟩ = some (.int .i64 x.err) := blk_cell hB0 6 _ rfl
  have c7 : W.cell? ⟨tb, 7, none⟩ = some (.slice x.subsA n x.subsC) := blk_cell hB0 7 _ rfl
  have KP : Hid (∀ w', Mod (fun _ => False) W w' → w'.cell? ⟨tb, 0, none⟩ = some (.int .i64 x.kind) ∧ w'.cell? ⟨tb, 1, none⟩ = some (.string x.path) ∧ w'.cell? ⟨tb, 2, none⟩ = some (.string x.data) ∧ w'.cell? ⟨tb, 3, none⟩ = some (.slice x.aclA x.acl.length x.aclC) ∧ w'.cell? ⟨tb, 4, none⟩ = some (.int .i64 x.owner) ∧ w'.cell? ⟨tb, 5, none⟩ = some (.int .i64 x.number) ∧ w'.cell? ⟨tb, 6, none⟩ = some (.int .i64 x.err) ∧ w'.cell? ⟨tb, 7, none⟩ = some (.slice x.subsA n x.subsC)) := Lib.hid fun w' h => ⟨h.cell c0 id, h.cell c1 id, h.cell c2 id, h.cell c3 id, h.cell c4 id, h.cell c5 id, h.cell c6 id, h.cell c7 id⟩
  have hz : tb < W.heap.size := heap_lt hB0
  clear hB0
  go_region_held3 (fun w' => w'.cell? ⟨tb, 0, none⟩ = some (.int .i64 x.kind) ∧ w'.cell? ⟨tb, 1, none⟩ = some (.string x.path) ∧ w'.cell? ⟨tb, 2, none⟩ = some (.string x.data) ∧ w'.cell? ⟨tb, 3, none⟩ = some (.slice x.aclA x.acl.length x.aclC) ∧ w'.cell? ⟨tb, 4, none⟩ = some (.int .i64 x.owner) ∧ w'.cell? ⟨tb, 5, none⟩ = some (.int .i64 x.number) ∧ w'.cell? ⟨tb, 6, none⟩ = some (.int .i64 x.err) ∧ w'.cell? ⟨tb, 7, none⟩ = some (.slice x.subsA n x.subsC))
    (first | (refine KP.out _ ?_; with_reducible (repeat (first | exact Mod.refl _ _ | refine Mod.drew ?_ | refine Mod.drewN ?_ _ | refine Mod.alloc ?_ _ | refine Mod.back (by assumption) ?_))))
    ((first
      | (go_at_call 97; refine (C0.out _ (HAl.out.then (by with_reducible (repeat (first | exact Mod.refl _ _ | refine Mod.drew ?_ | refine Mod.drewN ?_ _ | refine Mod.alloc ?_ _ | refine Mod.back (by assumption) ?_))) (fun _ _ h => h))).mono ?_; rintro e v0 ⟨rfl, hM0⟩; clear C0)
      | (go_at_call 39; refine (C1.out _).mono ?_; rintro e v1 ⟨rfl, hM1⟩; clear C1)))
  have HM : Hid (Mod (fun _ => False) W v1) := Lib.hid (by with_reducible (repeat (first | exact Mod.refl _ _ | refine Mod.drew ?_ | refine Mod.drewN ?_ _ | refine Mod.alloc ?_ _ | refine Mod.back (by assumption) ?_)))
  have HM : Hid (Mod (fun _ => False) W v1) := Lib.hid (by with_reducible (repeat (first | exact Mod.refl _ _ | refine Mod.drew ?_ | refine Mod.drewN ?_ _ | refine Mod.alloc ?_ _ | refine Mod.back (by assumption) ?_)))
  have cs := c7
  clear hM0 hM1 KP hz hbd1 c0 c1 c2 c3 c4 c5 c6 c7
  have HCS := Lib.hid cs
  clear cs
  go_wp2
  go_loopg [3, 4] n (fun g x_ y wr => ∃ k : Nat, k + g = n ∧ y = .int .i64 k ∧ x_ = .string ⟨(x.bytes ++ (sevens n ++ (subs.take k).flatMap Txn.bytes)).toArray⟩ ∧ Mod (fun _ => False) W wr)
  case atStart => exact ⟨0, by omega, rfl, by rw [List.take_zero, List.flatMap_nil, List.append_nil, ← mk_append, HA.out, HB.out], HM.out⟩
  case round =>
    obtain ⟨k, hkg, rfl, rfl, hM⟩ := hrel
    obtain ⟨D, hD⟩ : ∃ D, ByteArray.mk (x.bytes ++ (sevens n ++ (subs.take k).flatMap Txn.bytes)).toArray = D := ⟨_, rfl⟩
    rw [hD]
    have HD := Lib.hid hD
    have cw : wr.cell? ⟨tb, 7, none⟩ = some (.slice x.subsA n x.subsC) := hM.cell HCS.out id
    have HM := Lib.hid hM
    by_cases hlt : k < n
    · have hx : subs[k]? = some (subs[k]'(HN.out ▸ hlt)) := List.getElem?_eq_getElem _
      obtain ⟨t, hxx⟩ : ∃ x, subs[k]'(HN.out ▸ hlt) = x := ⟨_, rfl⟩
      rw [hxx] at hx
      obtain ⟨b, o, hae, hbl, hc⟩ := ((HR.out.mod HAl.out (fun _ _ => id)).mod hM (fun _ _ => id)).elem (k := 8) Txn.cells (fun _ => rfl) (by omega) hx
      have h1 := flat_take_le Txn.bytes hx
      have hft := HF.out
      unfold bfits listB at hft
      simp only [List.length_append, HN.out] at hft
      have hDs : D.size = (x.bytes).length + ((sevens n).length + ((subs.take k).flatMap Txn.bytes).length) := by rw [← hD, mk_size]; simp only [List.length_append]
      obtain ⟨E, hE⟩ : ∃ E, ByteArray.mk t.bytes.toArray = E := ⟨_, rfl⟩
      have hEs : E.size = t.bytes.length := by rw [← hE, mk_size]
      have hbd : ¬ 9223372036854775807 < D.size + E.size := by (try simp only [List.length_append] at hDs); omega
      have HX := Lib.hid hx
      have HE := Lib.hid hE
      have HC : Hid (∀ j u, ((Txn.cells t)[j]? = some u) → wr.cell? ((⟨b, o + k * 8, none⟩ : Addr).add j) = some u) := Lib.hid (fun j u hj => by rw [add_none]; exact hc j u hj)
      rw [hae] at cw
      have CT := Lib.hid (C2.out t (List.mem_of_getElem? hx) wr (HAl.out.then hM (fun _ _ h => h)))
      clear hx hxx hc h1 hft hDs hEs hE hD hM hae
      go_wp2_with ((with_reducible refine at_list ?_); refine wpList_load_chunk 8 _ Tryz.underlying37 rfl sizeTxn ⟨b, o + k * 8, none⟩ rfl t.cells rfl HC.out ?_)
      refine CT.out.mono ?_
      rintro e w2 ⟨rfl, hM2⟩
      rw [HE.out]
      go_wp2
      go_roundg (gk - 1)
      case measure => omega
      case rel =>
        refine ⟨k + 1, by omega, by simp, ?_, HM.out.then hM2 (fun _ _ h => h)⟩
        show Value.string (D ++ E) = _
        rw [flat_take_snoc Txn.bytes HX.out, ← HD.out, ← HE.out, mk_append]
        simp only [List.append_assoc]
    · have hk : k = n := by omega
      clear hkg hlt
      rw [hk, List.take_of_length_le (by rw [HN.out]; exact Nat.le_refl _)] at HD
      go_wp2
      go_ret
      refine ⟨?_, HAl.out.then HM.out (fun _ _ h => h)⟩
      unfold listB
      rw [HN.out, HD.out]
      rfl

set_option maxHeartbeats 4000000 in
theorem rPutEntry_any (x : Ent) (w : World) (hx : x.ok w) (hf : bfits (x.bytes.length + 100)) :
    Calls Tryz.prog 21 #[.agg x.cells.toArray] w (TextPost x.bytes w) := by
  have hlen : x.bytes.length = (numsB [x.zxid, x.session, x.xid]).length + (x.t.bytes ++ listB Txn.bytes x.subs).length := by unfold Ent.bytes; simp only [List.length_append]; omega
  unfold bfits at hf
  obtain ⟨A, hA⟩ : ∃ A, ByteArray.mk (numsB [x.zxid, x.session, x.xid]).toArray = A := ⟨_, rfl⟩
  obtain ⟨B, hB⟩ : ∃ B, ByteArray.mk (x.t.bytes ++ listB Txn.bytes x.subs).toArray = B := ⟨_, rfl⟩
  have hAs : A.size = (numsB [x.zxid, x.session, x.xid]).length := by rw [← hA, mk_size]
  have hBs : B.size = (x.t.bytes ++ listB Txn.bytes x.subs).length := by rw [← hB, mk_size]
  have hbd1 : ¬ 9223372036854775807 < A.size + B.size := by omega
  have HAl : Hid (Mod (fun _ => False) w (w.alloc (.cells #[.int .i64 x.zxid, .int .i64 x.session, .int .i64 x.xid, .int .i64 x.t.kind, .string x.t.path, .string x.t.data, .slice x.t.aclA x.t.acl.length x.t.aclC, .int .i64 x.t.owner, .int .i64 x.t.number, .int .i64 x.t.err, .slice x.t.subsA x.t.subsN x.t.subsC] 39))) := Lib.hid ((Mod.refl _ w).alloc _)
  have C0 : Hid (∀ (m : Nat) w', w'.heap[m]? = some (.cells #[.int .i64 x.zxid, .int .i64 x.session, .int .i64 x.xid] 3 (0, 0)) → Calls Tryz.prog 38 #[.slice (some ⟨m, 0, none⟩) 3 3] w' (fun e w'' => e = .returned (.string A) ∧ Mod (fun _ => False) w' w'')) := Lib.hid fun m w' h => by
    rw [← hA]; exact rnums_any _ 3 3 [x.zxid, x.session, x.xid] rfl (by intro t ht; simp only [List.mem_cons, List.not_mem_nil, or_false] at ht; rcases ht with rfl | rfl | rfl <;> first | exact hx.zxid | exact hx.session | exact hx.xid) (by omega) w' (Sl.new (c := #[.int .i64 x.zxid, .int .i64 x.session, .int .i64 x.xid]) h rfl (by unfold maxLen; omega)).rd
  have C1 : Hid (∀ w', Mod (fun _ => False) w w' → Calls Tryz.prog 54 #[.agg x.t.cells.toArray] w' (fun e w'' => e = .returned (.string B) ∧ Mod (fun _ => False) w' w'')) := Lib.hid fun w' h => by
    rw [← hB]; exact rTxn_any x.t x.subs w' (Txn.okmod hx.t h) hx.n (hx.rd.mod h (fun _ _ h => h)) (fun a ha => Txn.okmod (hx.all a ha) h) (by unfold bfits; omega)
  have HA := Lib.hid hA
  have HB := Lib.hid hB
  have hB0 : (w.alloc (.cells #[.int .i64 x.zxid, .int .i64 x.session, .int .i64 x.xid, .int .i64 x.t.kind, .string x.t.path, .string x.t.data, .slice x.t.aclA x.t.acl.length x.t.aclC, .int .i64 x.t.owner, .int .i64 x.t.number, .int .i64 x.t.err, .slice x.t.subsA x.t.subsN x.t.subsC] 39)).heap[w.heap.size]? = some (.cells #[.int .i64 x.zxid, .int .i64 x.session, .int .i64 x.xid, .int .i64 x.t.kind, .string x.t.path, .string x.t.data, .slice x.t.aclA x.t.acl.length x.t.aclC, .int .i64 x.t.owner, .int .i64 x.t.number, .int .i64 x.t.err, .slice x.t.subsA x.t.subsN x.t.subsC] 39 (0, 0)) := heap_alloc_new w _
  simp only [Ent.cells, Txn.cells] at C1 ⊢
  clear hx hf hlen hA hB hAs hBs
  go_enter Tryz.func21, Tryz.ntmps21
  go_wp2
  generalize w.alloc (.cells #[.int .i64 x.zxid, .int .i64 x.session, .int .i64 x.xid, .int .i64 x.t.kind, .string x.t.path, .string x.t.data, .slice x.t.aclA x.t.acl.length x.t.aclC, .int .i64 x.t.owner, .int .i64 x.t.number, .int .i64 x.t.err, .slice x.t.subsA x.t.subsN x.t.subsC] 39) = W at *
  generalize w.heap.size = tb at *
  have c0 : W.cell? ⟨tb, 0, none⟩ = some (.int .i64 x.zxid) := blk_cell hB0 0 _ rfl
  have c1 : W.cell? ⟨tb, 1, none⟩ = some (.int .i64 x.session) := blk_cell hB0 1 _ rfl
  have c2 : W.cell? ⟨tb, 2, none⟩ = some (.int .i64 x.xid) := blk_cell hB0 2 _ rfl
  have c3 : W.cell? ⟨tb, 3, none⟩ = some (.int .i64 x.t.kind) := blk_cell hB0 3 _ rfl
  have c4 : W.cell? ⟨tb, 4, none⟩ = some (.string x.t.path) := blk_cell hB0 4 _ rfl
  have c5 : W.cell? ⟨tb, 5, none⟩ = some (.string x.t.data) := blk_cell hB0 5 _ rfl
  have c6 : W.cell? ⟨tb, 6, none⟩ = some (.slice x.t.aclA x.t.acl.length x.t.aclC) := blk_cell hB0 6 _ rfl
  have c7 : W.cell? ⟨tb, 7, none⟩ = some (.int .i64 x.t.owner) := blk_cell hB0 7 _ rfl
  have c8 : W.cell? ⟨tb, 8, none⟩ = some (.int .i64 x.t.number) := blk_cell hB0 8 _ rfl
  have c9 : W.cell? ⟨tb, 9, none⟩ = some (.int .i64 x.t.err) := blk_cell hB0 9 _ rfl
  have c10 : W.cell? ⟨tb, 10, none⟩ = some (.slice x.t.subsA x.t.subsN x.t.subsC) := blk_cell hB0 10 _ rfl
  have KP : Hid (∀ w', Mod (fun _ => False) W w' → w'.cell? ⟨tb, 0, none⟩ = some (.int .i64 x.zxid) ∧ w'.cell? ⟨tb, 1, none⟩ = some (.int .i64 x.session) ∧ w'.cell? ⟨tb, 2, none⟩ = some (.int .i64 x.xid) ∧ w'.cell? ⟨tb, 3, none⟩ = some (.int .i64 x.t.kind) ∧ w'.cell? ⟨tb, 4, none⟩ = some (.string x.t.path) ∧ w'.cell? ⟨tb, 5, none⟩ = some (.string x.t.data) ∧ w'.cell? ⟨tb, 6, none⟩ = some (.slice x.t.aclA x.t.acl.length x.t.aclC) ∧ w'.cell? ⟨tb, 7, none⟩ = some (.int .i64 x.t.owner) ∧ w'.cell? ⟨tb, 8, none⟩ = some (.int .i64 x.t.number) ∧ w'.cell? ⟨tb, 9, none⟩ = some (.int .i64 x.t.err) ∧ w'.cell? ⟨tb, 10, none⟩ = some (.slice x.t.subsA x.t.subsN x.t.subsC)) := Lib.hid fun w' h => ⟨h.cell c0 id, h.cell c1 id, h.cell c2 id, h.cell c3 id, h.cell c4 id, h.cell c5 id, h.cell c6 id, h.cell c7 id, h.cell c8 id, h.cell c9 id, h.cell c10 id⟩
  have hz : tb < W.heap.size := heap_lt hB0
  clear hB0
  go_region_held3 (fun w' => w'.cell? ⟨tb, 0, none⟩ = some (.int .i64 x.zxid) ∧ w'.cell? ⟨tb, 1, none⟩ = some (.int .i64 x.session) ∧ w'.cell? ⟨tb, 2, none⟩ = some (.int .i64 x.xid) ∧ w'.cell? ⟨tb, 3, none⟩ = some (.int .i64 x.t.kind) ∧ w'.cell? ⟨tb, 4, none⟩ = some (.string x.t.path) ∧ w'.cell? ⟨tb, 5, none⟩ = some (.string x.t.data) ∧ w'.cell? ⟨tb, 6, none⟩ = some (.slice x.t.aclA x.t.acl.length x.t.aclC) ∧ w'.cell? ⟨tb, 7, none⟩ = some (.int .i64 x.t.owner) ∧ w'.cell? ⟨tb, 8, none⟩ = some (.int .i64 x.t.number) ∧ w'.cell? ⟨tb, 9, none⟩ = some (.int .i64 x.t.err) ∧ w'.cell? ⟨tb, 10, none⟩ = some (.slice x.t.subsA x.t.subsN x.t.subsC))
    (first | (refine KP.out _ ?_; with_reducible (repeat (first | exact Mod.refl _ _ | refine Mod.drew ?_ | refine Mod.drewN ?_ _ | refine Mod.alloc ?_ _ | refine Mod.back (by assumption) ?_))))
    ((first
      | (go_at_call 38; refine (C0.out _ _ ?_).mono ?_; (focus (with_reducible (repeat (first | exact heap_alloc_new _ _ | exact heap_alloc_new1 _ _ _ _ | refine heap_drewI ?_ | refine heap_drewNI ?_ | refine heap_back (by assumption) ?_ | refine heap_allocI ?_)))); rintro e v0 ⟨rfl, hM0⟩; clear C0)
      | (go_at_call 54; refine (C1.out _ (HAl.out.then (by with_reducible (repeat (first | exact Mod.refl _ _ | refine Mod.drew ?_ | refine Mod.drewN ?_ _ | refine Mod.alloc ?_ _ | refine Mod.back (by assumption) ?_))) (fun _ _ h => h))).mono ?_; rintro e v1 ⟨rfl, hM1⟩; clear C1)))
  all_goals
    go_wp2
    go_ret
    refine ⟨?_, HAl.out.then (by with_reducible (repeat (first | exact Mod.refl _ _ | refine Mod.drew ?_ | refine Mod.drewN ?_ _ | refine Mod.alloc ?_ _ | refine Mod.back (by assumption) ?_))) (fun _ _ h => h)⟩
    show Ending.returned (.string (A ++ B)) = _
    rw [← HA.out, ← HB.out, mk_append]
    unfold Ent.bytes
    simp only [List.append_assoc]
end Go.Proofs.YtmbkbkfcbloafaaGreat
