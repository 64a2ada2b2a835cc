/-
  WireReplies, walked, and for arguments as they come in.
  Conditions: the reply is laid as at most 20000000 bytes; its bulk.
-/
import Derived.Test.YtmbkbkfcbloafaaWireLawP
import Derived.Test.YtmbkbkfcbloafaaWireOpnP
import Derived.Test.YtmbkbkfcbloafaaWireS3
import Derived.Test.YtmbkbkfcbloafaaWireK
namespace Go.Proofs.Ytmbkbkfcbloafaa
open Go.ChangeShapes Go.WideShapes Go.ChangeAt Go.RowKit
set_option linter.unusedSectionVars false
set_option linter.unusedSimpArgs false
set_option linter.unusedVariables false
set_option maxRecDepth 100000

set_option maxHeartbeats 8000000 in
theorem wireReplies_walk (x : Rep) (w : World) (hx : x.ok w) (hb : x.bytes.length ≤ 20000000) : Calls Try.prog 5 #[.agg x.cells.toArray] w (ValPost (.bool true) w) := by
  obtain ⟨Bt, hBt⟩ : ∃ Bt, ByteArray.mk x.bytes.toArray = Bt := ⟨_, rfl⟩
  have hBs : Bt.size = x.bytes.length := by rw [← hBt, mk_size]
  have C0 : Hid (∀ w', Calls Try.prog 7 #[] w' (fun e w'' => e = .returned (.bool true) ∧ Mod (fun _ => False) w' w'')) := Lib.hid fun w' => awake_any w'
  have C1 : Hid (∀ w', Mod (fun _ => False) w w' → Calls Try.prog 20 #[.agg x.cells.toArray] w' (fun e w'' => e = .returned (.string Bt) ∧ Mod (fun _ => False) w' w'')) := Lib.hid fun w' h => by
    rw [← hBt]; exact PutReply_any x w' (Rep.okmod hx h) (by unfold bfits; omega)
  have C2 : Hid (∀ w', Mod (fun _ => False) w w' → Calls Try.prog 21 #[.agg x.cells.toArray] w' (fun e w'' => e = .returned (.string Bt) ∧ Mod (fun _ => False) w' w'')) := Lib.hid fun w' h => by
    rw [← hBt]; exact rPutReply_any x.p x.subs w' (Ans.okmod hx.p h) hx.n (hx.rd.mod h (fun _ _ h => h)) (fun a ha => Ans.okmod (hx.all a ha) h) (by have : ((x.p.bytes ++ listB Ans.bytes x.subs).length) = x.bytes.length := rfl; rw [this]; unfold bfits; omega)
  have C3 : Hid (∀ w', Calls Try.prog 22 #[.string Bt] w' (fun e w'' => e = .returned (.bool true) ∧ Mod (fun _ => False) w' w'')) := Lib.hid fun w' => reply_any Bt (by unfold bfits; omega) w'
  have hBB : (Bt.toList == Bt.toList) = true := by simp
  have HAl : Hid (Mod (fun _ => False) w (w.alloc (.cells #[.int .i64 x.p.xid, .int .i64 x.p.zxid, .int .i64 x.p.err, .string x.p.path, .string x.p.data, .int .i64 x.p.s0, .int .i64 x.p.s1, .int .i64 x.p.s2, .int .i64 x.p.s3, .int .i64 x.p.s4, .int .i64 x.p.s5, .int .i64 x.p.s6, .int .i64 x.p.s7, .int .i64 x.p.s8, .slice x.p.aclA x.p.acl.length x.p.aclC, .slice x.p.kidsA x.p.kids.length x.p.kidsC, .slice x.p.subsA x.p.subsN x.p.subsC] 50))) := Lib.hid ((Mod.refl _ w).alloc _)
  have hB0 : (w.alloc (.cells #[.int .i64 x.p.xid, .int .i64 x.p.zxid, .int .i64 x.p.err, .string x.p.path, .string x.p.data, .int .i64 x.p.s0, .int .i64 x.p.s1, .int .i64 x.p.s2, .int .i64 x.p.s3, .int .i64 x.p.s4, .int .i64 x.p.s5, .int .i64 x.p.s6, .int .i64 x.p.s7, .int .i64 x.p.s8, .slice x.p.aclA x.p.acl.length x.p.aclC, .slice x.p.kidsA x.p.kids.length x.p.kidsC, .slice x.p.subsA x.p.subsN x.p.subsC] 50)).heap[w.heap.size]? = some (.cells #[.int .i64 x.p.xid, .int .i64 x.p.zxid, .int .i64 x.p.err, .string x.p.path, .string x.p.data, .int .i64 x.p.s0, .int .i64 x.p.s1, .int .i64 x.p.s2, .int .i64 x.p.s3, .int .i64 x.p.s4, .int .i64 x.p.s5, .int .i64 x.p.s6, .int .i64 x.p.s7, .int .i64 x.p.s8, .slice x.p.aclA x.p.acl.length x.p.aclC, .slice x.p.kidsA x.p.kids.length x.p.kidsC, .slice x.p.subsA x.p.subsN x.p.subsC] 50 (0, 0)) := heap_alloc_new w _
  simp only [Rep.cells, Ans.cells] at C1 C2 ⊢
  clear hx hb hBt hBs
  go_enter Try.func5, Try.ntmps5
  go_wp2_with fail
  generalize w.alloc (.cells #[.int .i64 x.p.xid, .int .i64 x.p.zxid, .int .i64 x.p.err, .string x.p.path, .string x.p.data, .int .i64 x.p.s0, .int .i64 x.p.s1, .int .i64 x.p.s2, .int .i64 x.p.s3, .int .i64 x.p.s4, .int .i64 x.p.s5, .int .i64 x.p.s6, .int .i64 x.p.s7, .int .i64 x.p.s8, .slice x.p.aclA x.p.acl.length x.p.aclC, .slice x.p.kidsA x.p.kids.length x.p.kidsC, .slice x.p.subsA x.p.subsN x.p.subsC] 50) = W at *
  generalize w.heap.size = tb at *
  have KP : Hid (∀ w', Mod (fun _ => False) W w' → w'.cell? ⟨tb, 0, none⟩ = some (.int .i64 x.p.xid) ∧ w'.cell? ⟨tb, 1, none⟩ = some (.int .i64 x.p.zxid) ∧ w'.cell? ⟨tb, 2, none⟩ = some (.int .i64 x.p.err) ∧ w'.cell? ⟨tb, 3, none⟩ = some (.string x.p.path) ∧ w'.cell? ⟨tb, 4, none⟩ = some (.string x.p.data) ∧ w'.cell? ⟨tb, 5, none⟩ = some (.int .i64 x.p.s0) ∧ w'.cell? ⟨tb, 6, none⟩ = some (.int .i64 x.p.s1) ∧ w'.cell? ⟨tb, 7, none⟩ = some (.int .i64 x.p.s2) ∧ w'.cell? ⟨tb, 8, none⟩ = some (.int .i64 x.p.s3) ∧ w'.cell? ⟨tb, 9, none⟩ = some (.int .i64 x.p.s4) ∧ w'.cell? ⟨tb, 10, none⟩ = some (.int .i64 x.p.s5) ∧ w'.cell? ⟨tb, 11, none⟩ = some (.int .i64 x.p.s6) ∧ w'.cell? ⟨tb, 12, none⟩ = some (.int .i64 x.p.s7) ∧ w'.cell? ⟨tb, 13, none⟩ = some (.int .i64 x.p.s8) ∧ w'.cell? ⟨tb, 14, none⟩ = some (.slice x.p.aclA x.p.acl.length x.p.aclC) ∧ w'.cell? ⟨tb, 15, none⟩ = some (.slice x.p.kidsA x.p.kids.length x.p.kidsC) ∧ w'.cell? ⟨tb, 16, none⟩ = some (.slice x.p.subsA x.p.subsN x.p.subsC)) := Lib.hid fun w' h => ⟨h.cell (blk_cell hB0 0 _ rfl) id, h.cell (blk_cell hB0 1 _ rfl) id, h.cell (blk_cell hB0 2 _ rfl) id, h.cell (blk_cell hB0 3 _ rfl) id, h.cell (blk_cell hB0 4 _ rfl) id, h.cell (blk_cell hB0 5 _ rfl) id, h.cell (blk_cell hB0 6 _ rfl) id, h.cell (blk_cell hB0 7 _ rfl) id, h.cell (blk_cell hB0 8 _ rfl) id, h.cell (blk_cell hB0 9 _ rfl) id, h.cell (blk_cell hB0 10 _ rfl) id, h.cell (blk_cell hB0 11 _ rfl) id, h.cell (blk_cell hB0 12 _ rfl) id, h.cell (blk_cell hB0 13 _ rfl) id, h.cell (blk_cell hB0 14 _ rfl) id, h.cell (blk_cell hB0 15 _ rfl) id, h.cell (blk_cell hB0 16 _ rfl) id⟩
  have hz : tb < W.heap.size := heap_lt hB0
  clear hB0
  go_wp2_with (first
    | (go_at_call 7; refine (C0.out _).mono ?_; rintro e w1 ⟨rfl, hM1⟩; obtain ⟨c0, c1, c2, c3, c4, c5, c6, c7, c8, c9, c10, c11, c12, c13, c14, c15, c16⟩ := KP.out w1 (by with_reducible (repeat (first | exact Mod.refl _ _ | refine Mod.drew ?_ | refine Mod.drewN ?_ _ | refine Mod.alloc ?_ _ | refine Mod.back (by assumption) ?_))); clear C0)
    | (go_at_call 20; refine (C1.out _ (HAl.out.then (by with_reducible (repeat (first | exact Mod.refl _ _ | refine Mod.drew ?_ | refine Mod.drewN ?_ _ | refine Mod.alloc ?_ _ | refine Mod.back (by assumption) ?_))) (fun _ _ h => h))).mono ?_; rintro e w2 ⟨rfl, hM2⟩; clear c0 c1 c2 c3 c4 c5 c6 c7 c8 c9 c10 c11 c12 c13 c14 c15 c16; obtain ⟨c0, c1, c2, c3, c4, c5, c6, c7, c8, c9, c10, c11, c12, c13, c14, c15, c16⟩ := KP.out w2 (by with_reducible (repeat (first | exact Mod.refl _ _ | refine Mod.drew ?_ | refine Mod.drewN ?_ _ | refine Mod.alloc ?_ _ | refine Mod.back (by assumption) ?_))); clear C1)
    | (go_at_call 21; refine (C2.out _ (HAl.out.then (by with_reducible (repeat (first | exact Mod.refl _ _ | refine Mod.drew ?_ | refine Mod.drewN ?_ _ | refine Mod.alloc ?_ _ | refine Mod.back (by assumption) ?_))) (fun _ _ h => h))).mono ?_; rintro e w3 ⟨rfl, hM3⟩; clear c0 c1 c2 c3 c4 c5 c6 c7 c8 c9 c10 c11 c12 c13 c14 c15 c16; clear C2)
    | (go_at_call 22; refine (C3.out _).mono ?_; rintro e w4 ⟨rfl, hM4⟩; clear C3))
  go_ret
  exact ⟨rfl, HAl.out.then (by with_reducible (repeat (first | exact Mod.refl _ _ | refine Mod.drew ?_ | refine Mod.drewN ?_ _ | refine Mod.alloc ?_ _ | refine Mod.back (by assumption) ?_))) (fun _ _ h => h)⟩

theorem wireReplies_contract {H : Type} {enc : TypeId × Value → H} (W : World) (base : Nat) (v0 : Value) (d0 : DataW H) (p0 : List MemPlace)
    (k0 : DataW.Trod enc Try.prog W 0 (fun _ => true) true 50 v0 d0 p0) (o0 : Value.okWide Try.prog W .any base 50 v0) (hkk : Rows.uptoBulkAll [d0] ≤ 1048576) :
    Calls Try.prog 5 #[v0] W (ValPost (.bool true) W) := by
  simp only [Rows.uptoBulkAll] at hkk
  obtain ⟨x, rfl, hx, hb⟩ := open_rep k0 o0
  exact wireReplies_walk x W hx (by omega)
end Go.Proofs.Ytmbkbkfcbloafaa
