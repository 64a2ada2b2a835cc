/-
  Whole things as bytes: package wire's put, Put...
  Conditions: the lists lie in the world; the bytes fit.
-/
import Derived.Test.YtmbkbkfcbloafabWireR3
namespace Go.Proofs.Ytmbkbkfcbloafab
open Go.RowKit
set_option linter.unusedSectionVars false
set_option linter.unusedSimpArgs false
set_option linter.unusedVariables false
set_option maxRecDepth 100000
theorem Rep.okmod {w w' : World} {x : Rep} (hx : x.ok w) (h : Mod (fun _ => False) w w') : x.ok w' := ⟨Ans.okmod hx.p h, hx.n, hx.rd.mod h (fun _ _ h => h), fun a ha => Ans.okmod (hx.all a ha) h⟩

set_option maxHeartbeats 4000000 in
theorem putReply_any (x : Rep) (w : World) (hx : x.ok w) (hf : bfits (x.bytes.length + 100)) :
    Calls Try.prog 41 #[.agg x.cells.toArray, .func (.func 42) #[] #[]] w (TextPost x.bytes w) := by
  have hS := (St.start w).box1 x.cells.toArray 53
  have HX := Lib.hid hx
  have HF := Lib.hid hf
  simp only [Rep.cells, Ans.cells] at hS ⊢
  clear hx hf
  go_enter Try.func41, Try.ntmps41
  go_wp2_with fail
  refine (wnew_st hS).mono ?_
  clear hS
  rintro e w1 ⟨pb, rfl, hS⟩
  generalize w.heap.size = tb at hS ⊢
  go_wp2_with ((with_reducible refine at_list ?_); refine wpList_load_chunk 17 _ Try.underlying53 rfl sizeAns ⟨tb, 0, none⟩ rfl x.cells rfl (box_chunk (hS.box 1 rfl)) ?_)
  refine (layReply_st hS x HX.out (HF.out.mono (by rw [List.nil_append]; exact Nat.le_refl _))).mono ?_
  clear hS
  rintro e w2 ⟨rfl, hS⟩
  go_wp2_with fail
  refine (wbytes_st hS 0 rfl).mono ?_
  rintro e w3 ⟨rfl, rfl⟩
  rw [List.nil_append]
  go_wp2
  go_ret
  exact ⟨rfl, hS.1⟩

theorem PutReply_any (x : Rep) (w : World) (hx : x.ok w) (hf : bfits (x.bytes.length + 100)) :
    Calls Try.prog 17 #[.agg x.cells.toArray] w (TextPost x.bytes w) := by
  have hS := (St.start w).box1 x.cells.toArray 53
  have C : Hid (∀ w', Mod (fun _ => False) w w' → Calls Try.prog 41 #[.agg x.cells.toArray, .func (.func 42) #[] #[]] w' (TextPost x.bytes w')) := Lib.hid fun w' h => putReply_any x w' (Rep.okmod hx h) hf
  simp only [Rep.cells, Ans.cells] at hS C ⊢
  clear hx hf
  go_enter Try.func17, Try.ntmps17
  go_wp2_with ((with_reducible refine at_list ?_); refine wpList_load_chunk 17 _ Try.underlying53 rfl sizeAns ⟨w.heap.size, 0, none⟩ rfl x.cells rfl (box_chunk (hS.box 0 rfl)) ?_)
  refine (C.out _ ((Mod.refl _ w).alloc _)).mono ?_
  rintro e w1 ⟨rfl, hM⟩
  go_wp2
  go_ret
  exact ⟨rfl, ((Mod.refl _ w).alloc _).then hM (fun _ _ h => h)⟩
end Go.Proofs.Ytmbkbkfcbloafab
