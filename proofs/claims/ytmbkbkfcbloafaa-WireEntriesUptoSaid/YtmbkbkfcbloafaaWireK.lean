/-
  The law's awake: the chapter's examples are as the document says.
  No condition.
-/
import Derived.Test.YtmbkbkfcbloafaaWireI
namespace Go.Proofs.Ytmbkbkfcbloafaa
open Go.RowKit
set_option linter.unusedSectionVars false
set_option linter.unusedSimpArgs false
set_option linter.unusedVariables false
set_option maxRecDepth 100000

def bsA : ByteArray := ⟨#[6, 2, 47, 97, 14]⟩
def bsB : ByteArray := ⟨#[6, 2, 47, 97, 14, 0]⟩
def evA : Ev := ⟨3, ⟨#[47, 97]⟩, 7⟩
def heA : He := ⟨1, 0, 10, ⟨#[115]⟩⟩
def noA : No := ⟨1, 2, 3, 4, 5, 6⟩
theorem evA_bytes : evA.bytes = [6, 2, 47, 97, 14] := by
  show sevens (zig 3) ++ (sevens 2 ++ [47, 97]) ++ sevens (zig 7) = _
  rw [show zig 3 = 6 from rfl, show zig 7 = 14 from rfl, sevens_small (by omega), sevens_small (by omega), sevens_small (by omega)]; rfl
theorem heA_bytes : heA.bytes = [2, 0, 20, 1, 115] := by
  show (sevens (zig 1) ++ (sevens (zig 0) ++ (sevens (zig 10) ++ []))) ++ (sevens 1 ++ [115]) = _
  rw [show zig 1 = 2 from rfl, show zig 0 = 0 from rfl, show zig 10 = 20 from rfl, sevens_small (by omega), sevens_small (by omega), sevens_small (by omega), sevens_small (by omega)]; rfl
theorem noA_bytes : noA.bytes = [2, 4, 6, 8, 10, 12] := by
  show sevens (zig 1) ++ (sevens (zig 2) ++ (sevens (zig 3) ++ (sevens (zig 4) ++ (sevens (zig 5) ++ (sevens (zig 6) ++ []))))) = _
  rw [show zig 1 = 2 from rfl, show zig 2 = 4 from rfl, show zig 3 = 6 from rfl, show zig 4 = 8 from rfl, show zig 5 = 10 from rfl, show zig 6 = 12 from rfl, sevens_small (by omega), sevens_small (by omega), sevens_small (by omega), sevens_small (by omega), sevens_small (by omega), sevens_small (by omega)]; rfl
theorem gEvA : gEv ⟨#[6, 2, 47, 97, 14]⟩ = (⟨3, ⟨#[47, 97]⟩, 7⟩, 0) := by kernel_rfl
theorem gEvB : gEv ⟨#[6, 2, 47, 97, 14, 0]⟩ = (⟨0, ⟨#[]⟩, 0⟩, 120) := by kernel_rfl

set_option maxHeartbeats 4000000 in
theorem awake_any (w : World) : Calls Try.prog 7 #[] w (ValPost (.bool true) w) := by
  have hS := St.start w
  go_enter Try.func7, Try.ntmps7
  go_wp2_with fail
  have hC := PutEvent_any evA ⟨⟨by decide, by decide⟩, ⟨by decide, by decide⟩, bfits_small (by decide)⟩ w
  rw [evA_bytes] at hC
  refine hC.mono ?_
  clear hC
  rintro e u1 ⟨rfl, hM⟩
  have hS := hS.mod hM
  clear hM
  go_wp2_with fail
  have hC := GetEvent_any ⟨#[6, 2, 47, 97, 14]⟩ (bfits_small (by decide)) u1
  rw [gEvA] at hC
  refine hC.mono ?_
  clear hC
  rintro e u2 ⟨rfl, hM⟩
  have hS := (hS.mod hM).box1 #[.int .i64 0, .string ⟨#[]⟩, .int .i64 0] 23
  go_wp2_with ((with_reducible refine at_list ?_); refine wpList_store_whole 3 sizeEv u2.heap.size rfl _ _ (hS.box 0 rfl) rfl evA.cells rfl rfl (by kernel_rfl) ?_; intro v2 hg hM2 hz; have hS := hS.rebox 0 rfl hg hM2; simp only [List.set_cons_zero] at hS; obtain ⟨b2, hb⟩ : ∃ b, u2.heap.size = b := ⟨_, rfl⟩; rw [hb] at hS ⊢; clear hg hM2 hz hb hM)
  have hC := GetEvent_any ⟨#[6, 2, 47, 97, 14, 0]⟩ (bfits_small (by decide)) v2
  rw [gEvB] at hC
  refine hC.mono ?_
  clear hC
  rintro e u3 ⟨rfl, hM⟩
  have hS := (hS.mod hM).box1 #[.int .i64 0, .string ⟨#[]⟩, .int .i64 0] 23
  go_wp2_with ((with_reducible refine at_list ?_); refine wpList_store_whole 3 sizeEv u3.heap.size rfl _ _ (hS.box 0 rfl) rfl Ev.zero.cells rfl rfl (by kernel_rfl) ?_; intro v3 hg hM2 hz; have hS := hS.rebox 0 rfl hg hM2; simp only [List.set_cons_zero] at hS; obtain ⟨b3, hb⟩ : ∃ b, u3.heap.size = b := ⟨_, rfl⟩; rw [hb] at hS ⊢; clear hg hM2 hz hb hM)
  have hC := PutHello_any heA ⟨⟨by decide, by decide⟩, ⟨by decide, by decide⟩, ⟨by decide, by decide⟩, bfits_small (by decide)⟩ v3
  rw [heA_bytes] at hC
  refine hC.mono ?_
  clear hC
  rintro e u4 ⟨rfl, hM⟩
  have hS := hS.mod hM
  clear hM
  go_wp2_with fail
  have hC := PutNote_any noA ⟨⟨by decide, by decide⟩, ⟨by decide, by decide⟩, ⟨by decide, by decide⟩, ⟨by decide, by decide⟩, ⟨by decide, by decide⟩, ⟨by decide, by decide⟩⟩ u4
  rw [noA_bytes] at hC
  refine hC.mono ?_
  clear hC
  rintro e u5 ⟨rfl, hM⟩
  have hS := hS.mod hM
  have c0 : u5.cell? ⟨b2, 0, none⟩ = some (.int .i64 3) := blk_cell (hS.box 1 rfl) 0 _ rfl
  have c1 : u5.cell? ⟨b2, 1, none⟩ = some (.string ⟨#[47, 97]⟩) := blk_cell (hS.box 1 rfl) 1 _ rfl
  have c2 : u5.cell? ⟨b2, 2, none⟩ = some (.int .i64 7) := blk_cell (hS.box 1 rfl) 2 _ rfl
  have z0 := heap_lt (hS.box 1 rfl)
  have HS := Lib.hid hS
  clear hS hM
  go_wp2
  go_ret
  exact ⟨rfl, HS.out.1⟩
end Go.Proofs.Ytmbkbkfcbloafaa
