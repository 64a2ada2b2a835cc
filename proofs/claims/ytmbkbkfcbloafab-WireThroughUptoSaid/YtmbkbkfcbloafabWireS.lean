/-
  Whole things as bytes: package wire's put, Put...
  Conditions: the lists lie in the world; the bytes fit.
-/
import Derived.Test.YtmbkbkfcbloafabWireR
namespace Go.Proofs.Ytmbkbkfcbloafab
open Go.RowKit
set_option linter.unusedSectionVars false
set_option linter.unusedSimpArgs false
set_option linter.unusedVariables false
set_option maxRecDepth 100000
theorem Ent.okmod {w w' : World} {x : Ent} (hx : x.ok w) (h : Mod (fun _ => False) w w') : x.ok w' := ⟨hx.zxid, hx.session, hx.xid, Txn.okmod hx.t h, hx.n, hx.rd.mod h (fun _ _ h => h), fun a ha => Txn.okmod (hx.all a ha) h⟩
theorem Req.okmod {w w' : World} {x : Req} (hx : x.ok w) (h : Mod (fun _ => False) w w') : x.ok w' := ⟨Op.okmod hx.q h, hx.n, hx.rd.mod h (fun _ _ h => h), fun a ha => Op.okmod (hx.all a ha) h, hx.an, hx.ard.mod h (fun _ _ h => h), fun a ha => hx.aall a ha⟩

set_option maxHeartbeats 4000000 in
theorem putEntry_any (x : Ent) (w : World) (hx : x.ok w) (hf : bfits (x.bytes.length + 100)) :
    Calls Try.prog 21 #[.agg x.cells.toArray, .func (.func 22) #[] #[]] w (TextPost x.bytes w) := by
  have hS := (St.start w).box1 x.cells.toArray 28
  have HX := Lib.hid hx
  have HF := Lib.hid hf
  simp only [Ent.cells, Txn.cells] at hS ⊢
  clear hx hf
  go_enter Try.func21, Try.ntmps21
  go_wp2_with fail
  refine (wnew_st hS).mono ?_
  clear hS
  rintro e w1 ⟨pb, rfl, hS⟩
  generalize w.heap.size = tb at hS ⊢
  go_wp2_with ((with_reducible refine at_list ?_); refine wpList_load_chunk 11 _ Try.underlying28 rfl sizeEnt ⟨tb, 0, none⟩ rfl x.cells rfl (box_chunk (hS.box 1 rfl)) ?_)
  refine (layEntry_st hS x HX.out (HF.out.mono (by rw [List.nil_append]; exact Nat.le_refl _))).mono ?_
  clear hS
  rintro e w2 ⟨rfl, hS⟩
  go_wp2_with fail
  refine (wbytes_st hS 0 rfl).mono ?_
  rintro e w3 ⟨rfl, rfl⟩
  rw [List.nil_append]
  go_wp2
  go_ret
  exact ⟨rfl, hS.1⟩

theorem PutEntry_any (x : Ent) (w : World) (hx : x.ok w) (hf : bfits (x.bytes.length + 100)) :
    Calls Try.prog 7 #[.agg x.cells.toArray] w (TextPost x.bytes w) := by
  have hS := (St.start w).box1 x.cells.toArray 28
  have C : Hid (∀ w', Mod (fun _ => False) w w' → Calls Try.prog 21 #[.agg x.cells.toArray, .func (.func 22) #[] #[]] w' (TextPost x.bytes w')) := Lib.hid fun w' h => putEntry_any x w' (Ent.okmod hx h) hf
  simp only [Ent.cells, Txn.cells] at hS C ⊢
  clear hx hf
  go_enter Try.func7, Try.ntmps7
  go_wp2_with ((with_reducible refine at_list ?_); refine wpList_load_chunk 11 _ Try.underlying28 rfl sizeEnt ⟨w.heap.size, 0, none⟩ rfl x.cells rfl (box_chunk (hS.box 0 rfl)) ?_)
  refine (C.out _ ((Mod.refl _ w).alloc _)).mono ?_
  rintro e w1 ⟨rfl, hM⟩
  go_wp2
  go_ret
  exact ⟨rfl, ((Mod.refl _ w).alloc _).then hM (fun _ _ h => h)⟩

set_option maxHeartbeats 4000000 in
theorem putRequest_any (x : Req) (w : World) (hx : x.ok w) (hf : bfits (x.bytes.length + 100)) :
    Calls Try.prog 39 #[.agg x.cells.toArray, .func (.func 40) #[] #[]] w (TextPost x.bytes w) := by
  have hS := (St.start w).box1 x.cells.toArray 34
  have HX := Lib.hid hx
  have HF := Lib.hid hf
  simp only [Req.cells, Op.cells] at hS ⊢
  clear hx hf
  go_enter Try.func39, Try.ntmps39
  go_wp2_with fail
  refine (wnew_st hS).mono ?_
  clear hS
  rintro e w1 ⟨pb, rfl, hS⟩
  generalize w.heap.size = tb at hS ⊢
  go_wp2_with ((with_reducible refine at_list ?_); refine wpList_load_chunk 10 _ Try.underlying34 rfl sizeOp ⟨tb, 0, none⟩ rfl x.cells rfl (box_chunk (hS.box 1 rfl)) ?_)
  refine (layRequest_st hS x HX.out (HF.out.mono (by rw [List.nil_append]; exact Nat.le_refl _))).mono ?_
  clear hS
  rintro e w2 ⟨rfl, hS⟩
  go_wp2_with fail
  refine (wbytes_st hS 0 rfl).mono ?_
  rintro e w3 ⟨rfl, rfl⟩
  rw [List.nil_append]
  go_wp2
  go_ret
  exact ⟨rfl, hS.1⟩

theorem PutRequest_any (x : Req) (w : World) (hx : x.ok w) (hf : bfits (x.bytes.length + 100)) :
    Calls Try.prog 16 #[.agg x.cells.toArray] w (TextPost x.bytes w) := by
  have hS := (St.start w).box1 x.cells.toArray 34
  have C : Hid (∀ w', Mod (fun _ => False) w w' → Calls Try.prog 39 #[.agg x.cells.toArray, .func (.func 40) #[] #[]] w' (TextPost x.bytes w')) := Lib.hid fun w' h => putRequest_any x w' (Req.okmod hx h) hf
  simp only [Req.cells, Op.cells] at hS C ⊢
  clear hx hf
  go_enter Try.func16, Try.ntmps16
  go_wp2_with ((with_reducible refine at_list ?_); refine wpList_load_chunk 10 _ Try.underlying34 rfl sizeOp ⟨w.heap.size, 0, none⟩ rfl x.cells rfl (box_chunk (hS.box 0 rfl)) ?_)
  refine (C.out _ ((Mod.refl _ w).alloc _)).mono ?_
  rintro e w1 ⟨rfl, hM⟩
  go_wp2
  go_ret
  exact ⟨rfl, ((Mod.refl _ w).alloc _).then hM (fun _ _ h => h)⟩
end Go.Proofs.Ytmbkbkfcbloafab
