/-
  WireRequests, walked, and for arguments as they come in.
  Conditions: the request is laid as at most 20000000 bytes; its bulk.
-/
import Derived.Test.YtmbkbkfcbloafaaWireLawQ
import Derived.Test.YtmbkbkfcbloafaaWireOpnQ
import Derived.Test.YtmbkbkfcbloafaaWireS
import Derived.Test.YtmbkbkfcbloafaaWireK
namespace Go.Proofs.Ytmbkbkfcbloafaa
open Go.ChangeShapes Go.WideShapes Go.ChangeAt Go.RowKit
set_option linter.unusedSectionVars false
set_option linter.unusedSimpArgs false
set_option linter.unusedVariables false
set_option maxRecDepth 100000

set_option maxHeartbeats 8000000 in
theorem wireRequests_walk (x : Req) (w : World) (hx : x.ok w) (hb : x.bytes.length ≤ 20000000) : Calls Try.prog 6 #[.agg x.cells.toArray] w (ValPost (.bool true) w) := by
  obtain ⟨Bt, hBt⟩ : ∃ Bt, ByteArray.mk x.bytes.toArray = Bt := ⟨_, rfl⟩
  have hBs : Bt.size = x.bytes.length := by rw [← hBt, mk_size]
  have C0 : Hid (∀ w', Calls Try.prog 7 #[] w' (fun e w'' => e = .returned (.bool true) ∧ Mod (fun _ => False) w' w'')) := Lib.hid fun w' => awake_any w'
  have C1 : Hid (∀ w', Mod (fun _ => False) w w' → Calls Try.prog 23 #[.agg x.cells.toArray] w' (fun e w'' => e = .returned (.string Bt) ∧ Mod (fun _ => False) w' w'')) := Lib.hid fun w' h => by
    rw [← hBt]; exact PutRequest_any x w' (Req.okmod hx h) (by unfold bfits; omega)
  have C2 : Hid (∀ w', Mod (fun _ => False) w w' → Calls Try.prog 24 #[.agg x.cells.toArray] w' (fun e w'' => e = .returned (.string Bt) ∧ Mod (fun _ => False) w' w'')) := Lib.hid fun w' h => by
    rw [← hBt]; exact rPutRequest_any x w' (Req.okmod hx h) (by unfold bfits; omega)
  have C3 : Hid (∀ w', Calls Try.prog 25 #[.string Bt] w' (fun e w'' => e = .returned (.bool true) ∧ Mod (fun _ => False) w' w'')) := Lib.hid fun w' => request_any Bt (by unfold bfits; omega) w'
  have hBB : (Bt.toList == Bt.toList) = true := by simp
  have HAl : Hid (Mod (fun _ => False) w (w.alloc (.cells #[.int .i64 x.q.kind, .int .i64 x.q.xid, .string x.q.path, .string x.q.data, .slice x.q.aclA x.q.acl.length x.q.aclC, .int .i64 x.q.flags, .int .i64 x.q.version, .bool x.q.watch, .slice x.q.subsA x.q.subsN x.q.subsC, .slice x.q.armedA x.q.armedN x.q.armedC] 56))) := Lib.hid ((Mod.refl _ w).alloc _)
  have hB0 : (w.alloc (.cells #[.int .i64 x.q.kind, .int .i64 x.q.xid, .string x.q.path, .string x.q.data, .slice x.q.aclA x.q.acl.length x.q.aclC, .int .i64 x.q.flags, .int .i64 x.q.version, .bool x.q.watch, .slice x.q.subsA x.q.subsN x.q.subsC, .slice x.q.armedA x.q.armedN x.q.armedC] 56)).heap[w.heap.size]? = some (.cells #[.int .i64 x.q.kind, .int .i64 x.q.xid, .string x.q.path, .string x.q.data, .slice x.q.aclA x.q.acl.length x.q.aclC, .int .i64 x.q.flags, .int .i64 x.q.version, .bool x.q.watch, .slice x.q.subsA x.q.subsN x.q.subsC, .slice x.q.armedA x.q.armedN x.q.armedC] 56 (0, 0)) := heap_alloc_new w _
  simp only [Req.cells, Op.cells] at C1 C2 ⊢
  clear hx hb hBt hBs
  go_enter Try.func6, Try.ntmps6
  go_wp2_with fail
  generalize w.alloc (.cells #[.int .i64 x.q.kind, .int .i64 x.q.xid, .string x.q.path, .string x.q.data, .slice x.q.aclA x.q.acl.length x.q.aclC, .int .i64 x.q.flags, .int .i64 x.q.version, .bool x.q.watch, .slice x.q.subsA x.q.subsN x.q.subsC, .slice x.q.armedA x.q.armedN x.q.armedC] 56) = W at *
  generalize w.heap.size = tb at *
  have KP : Hid (∀ w', Mod (fun _ => False) W w' → w'.cell? ⟨tb, 0, none⟩ = some (.int .i64 x.q.kind) ∧ w'.cell? ⟨tb, 1, none⟩ = some (.int .i64 x.q.xid) ∧ w'.cell? ⟨tb, 2, none⟩ = some (.string x.q.path) ∧ w'.cell? ⟨tb, 3, none⟩ = some (.string x.q.data) ∧ w'.cell? ⟨tb, 4, none⟩ = some (.slice x.q.aclA x.q.acl.length x.q.aclC) ∧ w'.cell? ⟨tb, 5, none⟩ = some (.int .i64 x.q.flags) ∧ w'.cell? ⟨tb, 6, none⟩ = some (.int .i64 x.q.version) ∧ w'.cell? ⟨tb, 7, none⟩ = some (.bool x.q.watch) ∧ w'.cell? ⟨tb, 8, none⟩ = some (.slice x.q.subsA x.q.subsN x.q.subsC) ∧ w'.cell? ⟨tb, 9, none⟩ = some (.slice x.q.armedA x.q.armedN x.q.armedC)) := Lib.hid fun w' h => ⟨h.cell (blk_cell hB0 0 _ rfl) id, h.cell (blk_cell hB0 1 _ rfl) id, h.cell (blk_cell hB0 2 _ rfl) id, h.cell (blk_cell hB0 3 _ rfl) id, h.cell (blk_cell hB0 4 _ rfl) id, h.cell (blk_cell hB0 5 _ rfl) id, h.cell (blk_cell hB0 6 _ rfl) id, h.cell (blk_cell hB0 7 _ rfl) id, h.cell (blk_cell hB0 8 _ rfl) id, h.cell (blk_cell hB0 9 _ rfl) id⟩
  have hz : tb < W.heap.size := heap_lt hB0
  clear hB0
  go_wp2_with (first
    | (go_at_call 7; refine (C0.out _).mono ?_; rintro e w1 ⟨rfl, hM1⟩; obtain ⟨c0, c1, c2, c3, c4, c5, c6, c7, c8, c9⟩ := KP.out w1 (by with_reducible (repeat (first | exact Mod.refl _ _ | refine Mod.drew ?_ | refine Mod.drewN ?_ _ | refine Mod.alloc ?_ _ | refine Mod.back (by assumption) ?_))); clear C0)
    | (go_at_call 23; refine (C1.out _ (HAl.out.then (by with_reducible (repeat (first | exact Mod.refl _ _ | refine Mod.drew ?_ | refine Mod.drewN ?_ _ | refine Mod.alloc ?_ _ | refine Mod.back (by assumption) ?_))) (fun _ _ h => h))).mono ?_; rintro e w2 ⟨rfl, hM2⟩; clear c0 c1 c2 c3 c4 c5 c6 c7 c8 c9; obtain ⟨c0, c1, c2, c3, c4, c5, c6, c7, c8, c9⟩ := KP.out w2 (by with_reducible (repeat (first | exact Mod.refl _ _ | refine Mod.drew ?_ | refine Mod.drewN ?_ _ | refine Mod.alloc ?_ _ | refine Mod.back (by assumption) ?_))); clear C1)
    | (go_at_call 24; refine (C2.out _ (HAl.out.then (by with_reducible (repeat (first | exact Mod.refl _ _ | refine Mod.drew ?_ | refine Mod.drewN ?_ _ | refine Mod.alloc ?_ _ | refine Mod.back (by assumption) ?_))) (fun _ _ h => h))).mono ?_; rintro e w3 ⟨rfl, hM3⟩; clear c0 c1 c2 c3 c4 c5 c6 c7 c8 c9; clear C2)
    | (go_at_call 25; refine (C3.out _).mono ?_; rintro e w4 ⟨rfl, hM4⟩; clear C3))
  go_ret
  exact ⟨rfl, HAl.out.then (by with_reducible (repeat (first | exact Mod.refl _ _ | refine Mod.drew ?_ | refine Mod.drewN ?_ _ | refine Mod.alloc ?_ _ | refine Mod.back (by assumption) ?_))) (fun _ _ h => h)⟩

theorem wireRequests_contract {H : Type} {enc : TypeId × Value → H} (W : World) (base : Nat) (v0 : Value) (d0 : DataW H) (p0 : List MemPlace)
    (k0 : DataW.Trod enc Try.prog W 0 (fun _ => true) true 56 v0 d0 p0) (o0 : Value.okWide Try.prog W .any base 56 v0) (hkk : Rows.uptoBulkAll [d0] ≤ 1048576) :
    Calls Try.prog 6 #[v0] W (ValPost (.bool true) W) := by
  simp only [Rows.uptoBulkAll] at hkk
  obtain ⟨x, rfl, hx, hb⟩ := open_req k0 o0
  exact wireRequests_walk x W hx (by omega)
end Go.Proofs.Ytmbkbkfcbloafaa
