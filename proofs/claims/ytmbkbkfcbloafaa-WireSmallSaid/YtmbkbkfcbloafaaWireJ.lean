/-
  Any bytes as an event, a hello, a note: the law's small is true.
  Conditions: the text fits.
-/
import Derived.Test.YtmbkbkfcbloafaaWireI
namespace Go.Proofs.Ytmbkbkfcbloafaa
open Go.RowKit
set_option linter.unusedSectionVars false
set_option linter.unusedSimpArgs false
set_option linter.unusedVariables false
set_option maxRecDepth 100000

set_option maxHeartbeats 4000000 in
theorem small_any (S : ByteArray) (hf : bfits S.size) (w : World) : Calls Try.prog 14 #[.string S] w (ValPost (.bool true) w) := by
  have hS := St.start w
  have HF := Lib.hid hf
  clear hf
  obtain ⟨re, hre⟩ : ∃ r, gEv S = r := ⟨_, rfl⟩
  obtain ⟨rh, hrh⟩ : ∃ r, gHe S = r := ⟨_, rfl⟩
  obtain ⟨rn, hrn⟩ : ∃ r, gNo S = r := ⟨_, rfl⟩
  have HE := Lib.hid hre
  have HH := Lib.hid hrh
  have HN := Lib.hid hrn
  clear hre hrh hrn
  go_enter Try.func14, Try.ntmps14
  go_wp2_with fail
  have hC := GetEvent_any S HF.out w
  rw [HE.out] at hC
  refine hC.mono ?_
  clear hC
  rintro e u1 ⟨rfl, hM⟩
  have hS := (hS.mod hM).box1 #[.int .i64 0, .string ⟨#[]⟩, .int .i64 0] 23
  go_wp2_with ((with_reducible refine at_list ?_); refine wpList_store_whole 3 sizeEv u1.heap.size rfl _ _ (hS.box 0 rfl) rfl re.1.cells rfl rfl (by kernel_rfl) ?_; intro v1 hg hM2 hz; have hS := hS.rebox 0 rfl hg hM2; simp only [List.set_cons_zero] at hS; obtain ⟨b1, hb⟩ : ∃ b, u1.heap.size = b := ⟨_, rfl⟩; rw [hb] at hS ⊢; clear hg hM2 hz hb hM)
  go_wp2_with fail
  have hC := GetHello_any S HF.out v1
  rw [HH.out] at hC
  refine hC.mono ?_
  clear hC
  rintro e u2 ⟨rfl, hM⟩
  have hS := (hS.mod hM).box1 #[.int .i64 0, .int .i64 0, .int .i64 0, .string ⟨#[]⟩] 25
  go_wp2_with ((with_reducible refine at_list ?_); refine wpList_store_whole 4 sizeHe u2.heap.size rfl _ _ (hS.box 0 rfl) rfl rh.1.cells rfl rfl (by kernel_rfl) ?_; intro v2 hg hM2 hz; have hS := hS.rebox 0 rfl hg hM2; simp only [List.set_cons_zero] at hS; obtain ⟨b2, hb⟩ : ∃ b, u2.heap.size = b := ⟨_, rfl⟩; rw [hb] at hS ⊢; clear hg hM2 hz hb hM)
  go_wp2_with fail
  have hC := GetNote_any S HF.out v2
  rw [HN.out] at hC
  refine hC.mono ?_
  clear hC
  rintro e u3 ⟨rfl, hM⟩
  have hS := (hS.mod hM).box1 #[.int .i64 0, .int .i64 0, .int .i64 0, .int .i64 0, .int .i64 0, .int .i64 0] 27
  go_wp2_with ((with_reducible refine at_list ?_); refine wpList_store_whole 6 sizeNo u3.heap.size rfl _ _ (hS.box 0 rfl) rfl rn.1.cells rfl rfl (by kernel_rfl) ?_; intro v3 hg hM2 hz; have hS := hS.rebox 0 rfl hg hM2; simp only [List.set_cons_zero] at hS; obtain ⟨b3, hb⟩ : ∃ b, u3.heap.size = b := ⟨_, rfl⟩; rw [hb] at hS ⊢; clear hg hM2 hz hb hM)
  go_wp2_with fail
  have hC := rGetEvent_any S HF.out v3
  rw [HE.out] at hC
  refine hC.mono ?_
  clear hC
  rintro e u4 ⟨rfl, hM⟩
  have hS := (hS.mod hM).box1 #[.int .i64 0, .string ⟨#[]⟩, .int .i64 0] 23
  go_wp2_with ((with_reducible refine at_list ?_); refine wpList_store_whole 3 sizeEv u4.heap.size rfl _ _ (hS.box 0 rfl) rfl re.1.cells rfl rfl (by kernel_rfl) ?_; intro v4 hg hM2 hz; have hS := hS.rebox 0 rfl hg hM2; simp only [List.set_cons_zero] at hS; obtain ⟨b4, hb⟩ : ∃ b, u4.heap.size = b := ⟨_, rfl⟩; rw [hb] at hS ⊢; clear hg hM2 hz hb hM)
  go_wp2_with fail
  have hC := rGetHello_any S HF.out v4
  rw [HH.out] at hC
  refine hC.mono ?_
  clear hC
  rintro e u5 ⟨rfl, hM⟩
  have hS := (hS.mod hM).box1 #[.int .i64 0, .int .i64 0, .int .i64 0, .string ⟨#[]⟩] 25
  go_wp2_with ((with_reducible refine at_list ?_); refine wpList_store_whole 4 sizeHe u5.heap.size rfl _ _ (hS.box 0 rfl) rfl rh.1.cells rfl rfl (by kernel_rfl) ?_; intro v5 hg hM2 hz; have hS := hS.rebox 0 rfl hg hM2; simp only [List.set_cons_zero] at hS; obtain ⟨b5, hb⟩ : ∃ b, u5.heap.size = b := ⟨_, rfl⟩; rw [hb] at hS ⊢; clear hg hM2 hz hb hM)
  go_wp2_with fail
  have hC := rGetNote_any S HF.out v5
  rw [HN.out] at hC
  refine hC.mono ?_
  clear hC
  rintro e u6 ⟨rfl, hM⟩
  have hS := (hS.mod hM).box1 #[.int .i64 0, .int .i64 0, .int .i64 0, .int .i64 0, .int .i64 0, .int .i64 0] 27
  go_wp2_with ((with_reducible refine at_list ?_); refine wpList_store_whole 6 sizeNo u6.heap.size rfl _ _ (hS.box 0 rfl) rfl rn.1.cells rfl rfl (by kernel_rfl) ?_; intro v6 hg hM2 hz; have hS := hS.rebox 0 rfl hg hM2; simp only [List.set_cons_zero] at hS; obtain ⟨b6, hb⟩ : ∃ b, u6.heap.size = b := ⟨_, rfl⟩; rw [hb] at hS ⊢; clear hg hM2 hz hb hM; have c10 : v6.cell? ⟨b1, 0, none⟩ = some (.int .i64 re.1.kind) := blk_cell (hS.box 5 rfl) 0 _ rfl; have c11 : v6.cell? ⟨b1, 1, none⟩ = some (.string re.1.path) := blk_cell (hS.box 5 rfl) 1 _ rfl; have c12 : v6.cell? ⟨b1, 2, none⟩ = some (.int .i64 re.1.zxid) := blk_cell (hS.box 5 rfl) 2 _ rfl; have z1 := heap_lt (hS.box 5 rfl); have c40 : v6.cell? ⟨b4, 0, none⟩ = some (.int .i64 re.1.kind) := blk_cell (hS.box 2 rfl) 0 _ rfl; have c41 : v6.cell? ⟨b4, 1, none⟩ = some (.string re.1.path) := blk_cell (hS.box 2 rfl) 1 _ rfl; have c42 : v6.cell? ⟨b4, 2, none⟩ = some (.int .i64 re.1.zxid) := blk_cell (hS.box 2 rfl) 2 _ rfl; have z4 := heap_lt (hS.box 2 rfl); have c20 : v6.cell? ⟨b2, 0, none⟩ = some (.int .i64 rh.1.session) := blk_cell (hS.box 4 rfl) 0 _ rfl; have c21 : v6.cell? ⟨b2, 1, none⟩ = some (.int .i64 rh.1.zxid) := blk_cell (hS.box 4 rfl) 1 _ rfl; have c22 : v6.cell? ⟨b2, 2, none⟩ = some (.int .i64 rh.1.timeout) := blk_cell (hS.box 4 rfl) 2 _ rfl; have c23 : v6.cell? ⟨b2, 3, none⟩ = some (.string rh.1.secret) := blk_cell (hS.box 4 rfl) 3 _ rfl; have z2 := heap_lt (hS.box 4 rfl); have c50 : v6.cell? ⟨b5, 0, none⟩ = some (.int .i64 rh.1.session) := blk_cell (hS.box 1 rfl) 0 _ rfl; have c51 : v6.cell? ⟨b5, 1, none⟩ = some (.int .i64 rh.1.zxid) := blk_cell (hS.box 1 rfl) 1 _ rfl; have c52 : v6.cell? ⟨b5, 2, none⟩ = some (.int .i64 rh.1.timeout) := blk_cell (hS.box 1 rfl) 2 _ rfl; have c53 : v6.cell? ⟨b5, 3, none⟩ = some (.string rh.1.secret) := blk_cell (hS.box 1 rfl) 3 _ rfl; have z5 := heap_lt (hS.box 1 rfl); have c30 : v6.cell? ⟨b3, 0, none⟩ = some (.int .i64 rn.1.a) := blk_cell (hS.box 3 rfl) 0 _ rfl; have c31 : v6.cell? ⟨b3, 1, none⟩ = some (.int .i64 rn.1.b) := blk_cell (hS.box 3 rfl) 1 _ rfl; have c32 : v6.cell? ⟨b3, 2, none⟩ = some (.int .i64 rn.1.c) := blk_cell (hS.box 3 rfl) 2 _ rfl; have c33 : v6.cell? ⟨b3, 3, none⟩ = some (.int .i64 rn.1.d) := blk_cell (hS.box 3 rfl) 3 _ rfl; have c34 : v6.cell? ⟨b3, 4, none⟩ = some (.int .i64 rn.1.e) := blk_cell (hS.box 3 rfl) 4 _ rfl; have c35 : v6.cell? ⟨b3, 5, none⟩ = some (.int .i64 rn.1.f) := blk_cell (hS.box 3 rfl) 5 _ rfl; have z3 := heap_lt (hS.box 3 rfl); have c60 : v6.cell? ⟨b6, 0, none⟩ = some (.int .i64 rn.1.a) := blk_cell (hS.box 0 rfl) 0 _ rfl; have c61 : v6.cell? ⟨b6, 1, none⟩ = some (.int .i64 rn.1.b) := blk_cell (hS.box 0 rfl) 1 _ rfl; have c62 : v6.cell? ⟨b6, 2, none⟩ = some (.int .i64 rn.1.c) := blk_cell (hS.box 0 rfl) 2 _ rfl; have c63 : v6.cell? ⟨b6, 3, none⟩ = some (.int .i64 rn.1.d) := blk_cell (hS.box 0 rfl) 3 _ rfl; have c64 : v6.cell? ⟨b6, 4, none⟩ = some (.int .i64 rn.1.e) := blk_cell (hS.box 0 rfl) 4 _ rfl; have c65 : v6.cell? ⟨b6, 5, none⟩ = some (.int .i64 rn.1.f) := blk_cell (hS.box 0 rfl) 5 _ rfl; have z6 := heap_lt (hS.box 0 rfl); have HS := Lib.hid hS; clear hS)
  go_ret
  exact ⟨rfl, HS.out.1⟩
end Go.Proofs.Ytmbkbkfcbloafaa
