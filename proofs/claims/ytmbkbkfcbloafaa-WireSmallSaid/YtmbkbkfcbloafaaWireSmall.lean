/-
  WireSmall: any event, hello, note: what they are laid as, and what is read of that.
  Conditions: the texts fit.
-/
import Derived.Test.YtmbkbkfcbloafaaWireJ
import Derived.Test.YtmbkbkfcbloafaaWireK
namespace Go.Proofs.Ytmbkbkfcbloafaa
open Go.RowKit
set_option linter.unusedSectionVars false
set_option linter.unusedSimpArgs false
set_option linter.unusedVariables false
set_option maxRecDepth 100000

theorem Ev.bytes_fit {x : Ev} (h : x.ok) : bfits (ByteArray.mk x.bytes.toArray).size := by
  obtain ⟨h1, h2, h3⟩ := h
  rw [mk_size]
  have a := numB_len h1
  have b := numB_len h2
  have c := txtB_len (h3.mono (Nat.le_add_right _ _))
  exact h3.mono (by unfold Ev.bytes; rw [List.length_append, List.length_append]; omega)
theorem He.bytes_fit {x : He} (h : x.ok) : bfits (ByteArray.mk x.bytes.toArray).size := by
  obtain ⟨h1, h2, h3, h4⟩ := h
  rw [mk_size]
  have a := numsB_len [x.session, x.zxid, x.timeout] (by simp [h1, h2, h3])
  have c := txtB_len (h4.mono (Nat.le_add_right _ _))
  simp only [List.length_cons, List.length_nil] at a
  exact h4.mono (by unfold He.bytes; rw [List.length_append]; omega)
theorem No.bytes_fit {x : No} (h : x.ok) : bfits (ByteArray.mk x.bytes.toArray).size := by
  obtain ⟨h1, h2, h3, h4, h5, h6⟩ := h
  rw [mk_size]
  have a := numsB_len [x.a, x.b, x.c, x.d, x.e, x.f] (by simp [h1, h2, h3, h4, h5, h6])
  simp only [List.length_cons, List.length_nil] at a
  exact bfits_small (by unfold No.bytes; omega)

set_option maxHeartbeats 4000000 in
theorem wireSmall_walk (x : Ev) (y : He) (z : No) (hx : x.ok) (hy : y.ok) (hz : z.ok) (w : World) :
    Calls Try.prog 3 #[.agg x.cells.toArray, .agg y.cells.toArray, .agg z.cells.toArray] w (ValPost (.bool true) w) := by
  obtain ⟨A, hA⟩ : ∃ A, ByteArray.mk x.bytes.toArray = A := ⟨_, rfl⟩
  obtain ⟨B, hB⟩ : ∃ A, ByteArray.mk y.bytes.toArray = A := ⟨_, rfl⟩
  obtain ⟨C, hC⟩ : ∃ A, ByteArray.mk z.bytes.toArray = A := ⟨_, rfl⟩
  have fA : Hid (bfits A.size) := Lib.hid (hA ▸ Ev.bytes_fit hx)
  have fB : Hid (bfits B.size) := Lib.hid (hB ▸ He.bytes_fit hy)
  have fC : Hid (bfits C.size) := Lib.hid (hC ▸ No.bytes_fit hz)
  have HA := Lib.hid hA
  have HB := Lib.hid hB
  have HC := Lib.hid hC
  have HX := Lib.hid hx
  have HY := Lib.hid hy
  have HZ := Lib.hid hz
  have hS := (((St.start w).box1 x.cells.toArray 23).box1 y.cells.toArray 25).box1 z.cells.toArray 27
  simp only [World.size_alloc] at hS
  rw [show w.heap.size + 1 + 1 = w.heap.size + 2 from rfl] at hS
  clear hx hy hz hA hB hC
  go_enter Try.func3, Try.ntmps3
  go_wp2_with fail
  generalize ((w.alloc (.cells x.cells.toArray 23)).alloc (.cells y.cells.toArray 25)).alloc (.cells z.cells.toArray 27) = W at *
  generalize w.heap.size = rb at *
  go_wp2_with fail
  have hC := awake_any W
  refine hC.mono ?_
  clear hC
  rintro e u1 ⟨rfl, hM⟩
  have hS := hS.mod hM
  clear hM
  have c00 : u1.cell? ⟨rb + 2, 0, none⟩ = some (.int .i64 z.a) := blk_cell (hS.box 0 rfl) 0 _ rfl
  have c01 : u1.cell? ⟨rb + 2, 1, none⟩ = some (.int .i64 z.b) := blk_cell (hS.box 0 rfl) 1 _ rfl
  have c02 : u1.cell? ⟨rb + 2, 2, none⟩ = some (.int .i64 z.c) := blk_cell (hS.box 0 rfl) 2 _ rfl
  have c03 : u1.cell? ⟨rb + 2, 3, none⟩ = some (.int .i64 z.d) := blk_cell (hS.box 0 rfl) 3 _ rfl
  have c04 : u1.cell? ⟨rb + 2, 4, none⟩ = some (.int .i64 z.e) := blk_cell (hS.box 0 rfl) 4 _ rfl
  have c05 : u1.cell? ⟨rb + 2, 5, none⟩ = some (.int .i64 z.f) := blk_cell (hS.box 0 rfl) 5 _ rfl
  have z0 := heap_lt (hS.box 0 rfl)
  have c10 : u1.cell? ⟨rb + 1, 0, none⟩ = some (.int .i64 y.session) := blk_cell (hS.box 1 rfl) 0 _ rfl
  have c11 : u1.cell? ⟨rb + 1, 1, none⟩ = some (.int .i64 y.zxid) := blk_cell (hS.box 1 rfl) 1 _ rfl
  have c12 : u1.cell? ⟨rb + 1, 2, none⟩ = some (.int .i64 y.timeout) := blk_cell (hS.box 1 rfl) 2 _ rfl
  have c13 : u1.cell? ⟨rb + 1, 3, none⟩ = some (.string y.secret) := blk_cell (hS.box 1 rfl) 3 _ rfl
  have z1 := heap_lt (hS.box 1 rfl)
  have c20 : u1.cell? ⟨rb, 0, none⟩ = some (.int .i64 x.kind) := blk_cell (hS.box 2 rfl) 0 _ rfl
  have c21 : u1.cell? ⟨rb, 1, none⟩ = some (.string x.path) := blk_cell (hS.box 2 rfl) 1 _ rfl
  have c22 : u1.cell? ⟨rb, 2, none⟩ = some (.int .i64 x.zxid) := blk_cell (hS.box 2 rfl) 2 _ rfl
  have z2 := heap_lt (hS.box 2 rfl)
  go_wp2_with fail
  have hC := PutEvent_any x HX.out u1
  unfold TextPost at hC
  rw [HA.out] at hC
  refine hC.mono ?_
  clear hC
  clear c00 c01 c02 c03 c04 c05 c10 c11 c12 c13 c20 c21 c22 z0 z1 z2
  rintro e u2 ⟨rfl, hM⟩
  have hS := hS.mod hM
  clear hM
  have c00 : u2.cell? ⟨rb + 2, 0, none⟩ = some (.int .i64 z.a) := blk_cell (hS.box 0 rfl) 0 _ rfl
  have c01 : u2.cell? ⟨rb + 2, 1, none⟩ = some (.int .i64 z.b) := blk_cell (hS.box 0 rfl) 1 _ rfl
  have c02 : u2.cell? ⟨rb + 2, 2, none⟩ = some (.int .i64 z.c) := blk_cell (hS.box 0 rfl) 2 _ rfl
  have c03 : u2.cell? ⟨rb + 2, 3, none⟩ = some (.int .i64 z.d) := blk_cell (hS.box 0 rfl) 3 _ rfl
  have c04 : u2.cell? ⟨rb + 2, 4, none⟩ = some (.int .i64 z.e) := blk_cell (hS.box 0 rfl) 4 _ rfl
  have c05 : u2.cell? ⟨rb + 2, 5, none⟩ = some (.int .i64 z.f) := blk_cell (hS.box 0 rfl) 5 _ rfl
  have z0 := heap_lt (hS.box 0 rfl)
  have c10 : u2.cell? ⟨rb + 1, 0, none⟩ = some (.int .i64 y.session) := blk_cell (hS.box 1 rfl) 0 _ rfl
  have c11 : u2.cell? ⟨rb + 1, 1, none⟩ = some (.int .i64 y.zxid) := blk_cell (hS.box 1 rfl) 1 _ rfl
  have c12 : u2.cell? ⟨rb + 1, 2, none⟩ = some (.int .i64 y.timeout) := blk_cell (hS.box 1 rfl) 2 _ rfl
  have c13 : u2.cell? ⟨rb + 1, 3, none⟩ = some (.string y.secret) := blk_cell (hS.box 1 rfl) 3 _ rfl
  have z1 := heap_lt (hS.box 1 rfl)
  have c20 : u2.cell? ⟨rb, 0, none⟩ = some (.int .i64 x.kind) := blk_cell (hS.box 2 rfl) 0 _ rfl
  have c21 : u2.cell? ⟨rb, 1, none⟩ = some (.string x.path) := blk_cell (hS.box 2 rfl) 1 _ rfl
  have c22 : u2.cell? ⟨rb, 2, none⟩ = some (.int .i64 x.zxid) := blk_cell (hS.box 2 rfl) 2 _ rfl
  have z2 := heap_lt (hS.box 2 rfl)
  go_wp2_with fail
  have hC := PutHello_any y HY.out u2
  unfold TextPost at hC
  rw [HB.out] at hC
  refine hC.mono ?_
  clear hC
  clear c00 c01 c02 c03 c04 c05 c10 c11 c12 c13 c20 c21 c22 z0 z1 z2
  rintro e u3 ⟨rfl, hM⟩
  have hS := hS.mod hM
  clear hM
  have c00 : u3.cell? ⟨rb + 2, 0, none⟩ = some (.int .i64 z.a) := blk_cell (hS.box 0 rfl) 0 _ rfl
  have c01 : u3.cell? ⟨rb + 2, 1, none⟩ = some (.int .i64 z.b) := blk_cell (hS.box 0 rfl) 1 _ rfl
  have c02 : u3.cell? ⟨rb + 2, 2, none⟩ = some (.int .i64 z.c) := blk_cell (hS.box 0 rfl) 2 _ rfl
  have c03 : u3.cell? ⟨rb + 2, 3, none⟩ = some (.int .i64 z.d) := blk_cell (hS.box 0 rfl) 3 _ rfl
  have c04 : u3.cell? ⟨rb + 2, 4, none⟩ = some (.int .i64 z.e) := blk_cell (hS.box 0 rfl) 4 _ rfl
  have c05 : u3.cell? ⟨rb + 2, 5, none⟩ = some (.int .i64 z.f) := blk_cell (hS.box 0 rfl) 5 _ rfl
  have z0 := heap_lt (hS.box 0 rfl)
  have c10 : u3.cell? ⟨rb + 1, 0, none⟩ = some (.int .i64 y.session) := blk_cell (hS.box 1 rfl) 0 _ rfl
  have c11 : u3.cell? ⟨rb + 1, 1, none⟩ = some (.int .i64 y.zxid) := blk_cell (hS.box 1 rfl) 1 _ rfl
  have c12 : u3.cell? ⟨rb + 1, 2, none⟩ = some (.int .i64 y.timeout) := blk_cell (hS.box 1 rfl) 2 _ rfl
  have c13 : u3.cell? ⟨rb + 1, 3, none⟩ = some (.string y.secret) := blk_cell (hS.box 1 rfl) 3 _ rfl
  have z1 := heap_lt (hS.box 1 rfl)
  have c20 : u3.cell? ⟨rb, 0, none⟩ = some (.int .i64 x.kind) := blk_cell (hS.box 2 rfl) 0 _ rfl
  have c21 : u3.cell? ⟨rb, 1, none⟩ = some (.string x.path) := blk_cell (hS.box 2 rfl) 1 _ rfl
  have c22 : u3.cell? ⟨rb, 2, none⟩ = some (.int .i64 x.zxid) := blk_cell (hS.box 2 rfl) 2 _ rfl
  have z2 := heap_lt (hS.box 2 rfl)
  go_wp2_with fail
  have hC := PutNote_any z HZ.out u3
  unfold TextPost at hC
  rw [HC.out] at hC
  refine hC.mono ?_
  clear hC
  clear c00 c01 c02 c03 c04 c05 c10 c11 c12 c13 c20 c21 c22 z0 z1 z2
  rintro e u4 ⟨rfl, hM⟩
  have hS := hS.mod hM
  clear hM
  have c00 : u4.cell? ⟨rb + 2, 0, none⟩ = some (.int .i64 z.a) := blk_cell (hS.box 0 rfl) 0 _ rfl
  have c01 : u4.cell? ⟨rb + 2, 1, none⟩ = some (.int .i64 z.b) := blk_cell (hS.box 0 rfl) 1 _ rfl
  have c02 : u4.cell? ⟨rb + 2, 2, none⟩ = some (.int .i64 z.c) := blk_cell (hS.box 0 rfl) 2 _ rfl
  have c03 : u4.cell? ⟨rb + 2, 3, none⟩ = some (.int .i64 z.d) := blk_cell (hS.box 0 rfl) 3 _ rfl
  have c04 : u4.cell? ⟨rb + 2, 4, none⟩ = some (.int .i64 z.e) := blk_cell (hS.box 0 rfl) 4 _ rfl
  have c05 : u4.cell? ⟨rb + 2, 5, none⟩ = some (.int .i64 z.f) := blk_cell (hS.box 0 rfl) 5 _ rfl
  have z0 := heap_lt (hS.box 0 rfl)
  have c10 : u4.cell? ⟨rb + 1, 0, none⟩ = some (.int .i64 y.session) := blk_cell (hS.box 1 rfl) 0 _ rfl
  have c11 : u4.cell? ⟨rb + 1, 1, none⟩ = some (.int .i64 y.zxid) := blk_cell (hS.box 1 rfl) 1 _ rfl
  have c12 : u4.cell? ⟨rb + 1, 2, none⟩ = some (.int .i64 y.timeout) := blk_cell (hS.box 1 rfl) 2 _ rfl
  have c13 : u4.cell? ⟨rb + 1, 3, none⟩ = some (.string y.secret) := blk_cell (hS.box 1 rfl) 3 _ rfl
  have z1 := heap_lt (hS.box 1 rfl)
  have c20 : u4.cell? ⟨rb, 0, none⟩ = some (.int .i64 x.kind) := blk_cell (hS.box 2 rfl) 0 _ rfl
  have c21 : u4.cell? ⟨rb, 1, none⟩ = some (.string x.path) := blk_cell (hS.box 2 rfl) 1 _ rfl
  have c22 : u4.cell? ⟨rb, 2, none⟩ = some (.int .i64 x.zxid) := blk_cell (hS.box 2 rfl) 2 _ rfl
  have z2 := heap_lt (hS.box 2 rfl)
  go_wp2_with fail
  have hC := rPutEvent_any x HX.out u4
  unfold TextPost at hC
  rw [HA.out] at hC
  refine hC.mono ?_
  clear hC
  clear c00 c01 c02 c03 c04 c05 c10 c11 c12 c13 c20 c21 c22 z0 z1 z2
  rintro e u5 ⟨rfl, hM⟩
  have hS := hS.mod hM
  clear hM
  have c00 : u5.cell? ⟨rb + 2, 0, none⟩ = some (.int .i64 z.a) := blk_cell (hS.box 0 rfl) 0 _ rfl
  have c01 : u5.cell? ⟨rb + 2, 1, none⟩ = some (.int .i64 z.b) := blk_cell (hS.box 0 rfl) 1 _ rfl
  have c02 : u5.cell? ⟨rb + 2, 2, none⟩ = some (.int .i64 z.c) := blk_cell (hS.box 0 rfl) 2 _ rfl
  have c03 : u5.cell? ⟨rb + 2, 3, none⟩ = some (.int .i64 z.d) := blk_cell (hS.box 0 rfl) 3 _ rfl
  have c04 : u5.cell? ⟨rb + 2, 4, none⟩ = some (.int .i64 z.e) := blk_cell (hS.box 0 rfl) 4 _ rfl
  have c05 : u5.cell? ⟨rb + 2, 5, none⟩ = some (.int .i64 z.f) := blk_cell (hS.box 0 rfl) 5 _ rfl
  have z0 := heap_lt (hS.box 0 rfl)
  have c10 : u5.cell? ⟨rb + 1, 0, none⟩ = some (.int .i64 y.session) := blk_cell (hS.box 1 rfl) 0 _ rfl
  have c11 : u5.cell? ⟨rb + 1, 1, none⟩ = some (.int .i64 y.zxid) := blk_cell (hS.box 1 rfl) 1 _ rfl
  have c12 : u5.cell? ⟨rb + 1, 2, none⟩ = some (.int .i64 y.timeout) := blk_cell (hS.box 1 rfl) 2 _ rfl
  have c13 : u5.cell? ⟨rb + 1, 3, none⟩ = some (.string y.secret) := blk_cell (hS.box 1 rfl) 3 _ rfl
  have z1 := heap_lt (hS.box 1 rfl)
  have c20 : u5.cell? ⟨rb, 0, none⟩ = some (.int .i64 x.kind) := blk_cell (hS.box 2 rfl) 0 _ rfl
  have c21 : u5.cell? ⟨rb, 1, none⟩ = some (.string x.path) := blk_cell (hS.box 2 rfl) 1 _ rfl
  have c22 : u5.cell? ⟨rb, 2, none⟩ = some (.int .i64 x.zxid) := blk_cell (hS.box 2 rfl) 2 _ rfl
  have z2 := heap_lt (hS.box 2 rfl)
  go_wp2_with fail
  have hC := rPutHello_any y HY.out u5
  unfold TextPost at hC
  rw [HB.out] at hC
  refine hC.mono ?_
  clear hC
  clear c00 c01 c02 c03 c04 c05 c10 c11 c12 c13 c20 c21 c22 z0 z1 z2
  rintro e u6 ⟨rfl, hM⟩
  have hS := hS.mod hM
  clear hM
  have c00 : u6.cell? ⟨rb + 2, 0, none⟩ = some (.int .i64 z.a) := blk_cell (hS.box 0 rfl) 0 _ rfl
  have c01 : u6.cell? ⟨rb + 2, 1, none⟩ = some (.int .i64 z.b) := blk_cell (hS.box 0 rfl) 1 _ rfl
  have c02 : u6.cell? ⟨rb + 2, 2, none⟩ = some (.int .i64 z.c) := blk_cell (hS.box 0 rfl) 2 _ rfl
  have c03 : u6.cell? ⟨rb + 2, 3, none⟩ = some (.int .i64 z.d) := blk_cell (hS.box 0 rfl) 3 _ rfl
  have c04 : u6.cell? ⟨rb + 2, 4, none⟩ = some (.int .i64 z.e) := blk_cell (hS.box 0 rfl) 4 _ rfl
  have c05 : u6.cell? ⟨rb + 2, 5, none⟩ = some (.int .i64 z.f) := blk_cell (hS.box 0 rfl) 5 _ rfl
  have z0 := heap_lt (hS.box 0 rfl)
  have c10 : u6.cell? ⟨rb + 1, 0, none⟩ = some (.int .i64 y.session) := blk_cell (hS.box 1 rfl) 0 _ rfl
  have c11 : u6.cell? ⟨rb + 1, 1, none⟩ = some (.int .i64 y.zxid) := blk_cell (hS.box 1 rfl) 1 _ rfl
  have c12 : u6.cell? ⟨rb + 1, 2, none⟩ = some (.int .i64 y.timeout) := blk_cell (hS.box 1 rfl) 2 _ rfl
  have c13 : u6.cell? ⟨rb + 1, 3, none⟩ = some (.string y.secret) := blk_cell (hS.box 1 rfl) 3 _ rfl
  have z1 := heap_lt (hS.box 1 rfl)
  have c20 : u6.cell? ⟨rb, 0, none⟩ = some (.int .i64 x.kind) := blk_cell (hS.box 2 rfl) 0 _ rfl
  have c21 : u6.cell? ⟨rb, 1, none⟩ = some (.string x.path) := blk_cell (hS.box 2 rfl) 1 _ rfl
  have c22 : u6.cell? ⟨rb, 2, none⟩ = some (.int .i64 x.zxid) := blk_cell (hS.box 2 rfl) 2 _ rfl
  have z2 := heap_lt (hS.box 2 rfl)
  go_wp2_with fail
  have hC := rPutNote_any z HZ.out u6
  unfold TextPost at hC
  rw [HC.out] at hC
  refine hC.mono ?_
  clear hC
  clear c00 c01 c02 c03 c04 c05 c10 c11 c12 c13 c20 c21 c22 z0 z1 z2
  rintro e u7 ⟨rfl, hM⟩
  have hS := hS.mod hM
  clear hM
  have c00 : u7.cell? ⟨rb + 2, 0, none⟩ = some (.int .i64 z.a) := blk_cell (hS.box 0 rfl) 0 _ rfl
  have c01 : u7.cell? ⟨rb + 2, 1, none⟩ = some (.int .i64 z.b) := blk_cell (hS.box 0 rfl) 1 _ rfl
  have c02 : u7.cell? ⟨rb + 2, 2, none⟩ = some (.int .i64 z.c) := blk_cell (hS.box 0 rfl) 2 _ rfl
  have c03 : u7.cell? ⟨rb + 2, 3, none⟩ = some (.int .i64 z.d) := blk_cell (hS.box 0 rfl) 3 _ rfl
  have c04 : u7.cell? ⟨rb + 2, 4, none⟩ = some (.int .i64 z.e) := blk_cell (hS.box 0 rfl) 4 _ rfl
  have c05 : u7.cell? ⟨rb + 2, 5, none⟩ = some (.int .i64 z.f) := blk_cell (hS.box 0 rfl) 5 _ rfl
  have z0 := heap_lt (hS.box 0 rfl)
  have c10 : u7.cell? ⟨rb + 1, 0, none⟩ = some (.int .i64 y.session) := blk_cell (hS.box 1 rfl) 0 _ rfl
  have c11 : u7.cell? ⟨rb + 1, 1, none⟩ = some (.int .i64 y.zxid) := blk_cell (hS.box 1 rfl) 1 _ rfl
  have c12 : u7.cell? ⟨rb + 1, 2, none⟩ = some (.int .i64 y.timeout) := blk_cell (hS.box 1 rfl) 2 _ rfl
  have c13 : u7.cell? ⟨rb + 1, 3, none⟩ = some (.string y.secret) := blk_cell (hS.box 1 rfl) 3 _ rfl
  have z1 := heap_lt (hS.box 1 rfl)
  have c20 : u7.cell? ⟨rb, 0, none⟩ = some (.int .i64 x.kind) := blk_cell (hS.box 2 rfl) 0 _ rfl
  have c21 : u7.cell? ⟨rb, 1, none⟩ = some (.string x.path) := blk_cell (hS.box 2 rfl) 1 _ rfl
  have c22 : u7.cell? ⟨rb, 2, none⟩ = some (.int .i64 x.zxid) := blk_cell (hS.box 2 rfl) 2 _ rfl
  have z2 := heap_lt (hS.box 2 rfl)
  go_wp2_with fail
  have hC := small_any A fA.out u7
  refine hC.mono ?_
  clear hC
  clear c00 c01 c02 c03 c04 c05 c10 c11 c12 c13 c20 c21 c22 z0 z1 z2
  rintro e u8 ⟨rfl, hM⟩
  have hS := hS.mod hM
  clear hM
  have c00 : u8.cell? ⟨rb + 2, 0, none⟩ = some (.int .i64 z.a) := blk_cell (hS.box 0 rfl) 0 _ rfl
  have c01 : u8.cell? ⟨rb + 2, 1, none⟩ = some (.int .i64 z.b) := blk_cell (hS.box 0 rfl) 1 _ rfl
  have c02 : u8.cell? ⟨rb + 2, 2, none⟩ = some (.int .i64 z.c) := blk_cell (hS.box 0 rfl) 2 _ rfl
  have c03 : u8.cell? ⟨rb + 2, 3, none⟩ = some (.int .i64 z.d) := blk_cell (hS.box 0 rfl) 3 _ rfl
  have c04 : u8.cell? ⟨rb + 2, 4, none⟩ = some (.int .i64 z.e) := blk_cell (hS.box 0 rfl) 4 _ rfl
  have c05 : u8.cell? ⟨rb + 2, 5, none⟩ = some (.int .i64 z.f) := blk_cell (hS.box 0 rfl) 5 _ rfl
  have z0 := heap_lt (hS.box 0 rfl)
  have c10 : u8.cell? ⟨rb + 1, 0, none⟩ = some (.int .i64 y.session) := blk_cell (hS.box 1 rfl) 0 _ rfl
  have c11 : u8.cell? ⟨rb + 1, 1, none⟩ = some (.int .i64 y.zxid) := blk_cell (hS.box 1 rfl) 1 _ rfl
  have c12 : u8.cell? ⟨rb + 1, 2, none⟩ = some (.int .i64 y.timeout) := blk_cell (hS.box 1 rfl) 2 _ rfl
  have c13 : u8.cell? ⟨rb + 1, 3, none⟩ = some (.string y.secret) := blk_cell (hS.box 1 rfl) 3 _ rfl
  have z1 := heap_lt (hS.box 1 rfl)
  have c20 : u8.cell? ⟨rb, 0, none⟩ = some (.int .i64 x.kind) := blk_cell (hS.box 2 rfl) 0 _ rfl
  have c21 : u8.cell? ⟨rb, 1, none⟩ = some (.string x.path) := blk_cell (hS.box 2 rfl) 1 _ rfl
  have c22 : u8.cell? ⟨rb, 2, none⟩ = some (.int .i64 x.zxid) := blk_cell (hS.box 2 rfl) 2 _ rfl
  have z2 := heap_lt (hS.box 2 rfl)
  go_wp2_with fail
  have hC := small_any B fB.out u8
  refine hC.mono ?_
  clear hC
  clear c00 c01 c02 c03 c04 c05 c10 c11 c12 c13 c20 c21 c22 z0 z1 z2
  rintro e u9 ⟨rfl, hM⟩
  have hS := hS.mod hM
  clear hM
  have c00 : u9.cell? ⟨rb + 2, 0, none⟩ = some (.int .i64 z.a) := blk_cell (hS.box 0 rfl) 0 _ rfl
  have c01 : u9.cell? ⟨rb + 2, 1, none⟩ = some (.int .i64 z.b) := blk_cell (hS.box 0 rfl) 1 _ rfl
  have c02 : u9.cell? ⟨rb + 2, 2, none⟩ = some (.int .i64 z.c) := blk_cell (hS.box 0 rfl) 2 _ rfl
  have c03 : u9.cell? ⟨rb + 2, 3, none⟩ = some (.int .i64 z.d) := blk_cell (hS.box 0 rfl) 3 _ rfl
  have c04 : u9.cell? ⟨rb + 2, 4, none⟩ = some (.int .i64 z.e) := blk_cell (hS.box 0 rfl) 4 _ rfl
  have c05 : u9.cell? ⟨rb + 2, 5, none⟩ = some (.int .i64 z.f) := blk_cell (hS.box 0 rfl) 5 _ rfl
  have z0 := heap_lt (hS.box 0 rfl)
  have c10 : u9.cell? ⟨rb + 1, 0, none⟩ = some (.int .i64 y.session) := blk_cell (hS.box 1 rfl) 0 _ rfl
  have c11 : u9.cell? ⟨rb + 1, 1, none⟩ = some (.int .i64 y.zxid) := blk_cell (hS.box 1 rfl) 1 _ rfl
  have c12 : u9.cell? ⟨rb + 1, 2, none⟩ = some (.int .i64 y.timeout) := blk_cell (hS.box 1 rfl) 2 _ rfl
  have c13 : u9.cell? ⟨rb + 1, 3, none⟩ = some (.string y.secret) := blk_cell (hS.box 1 rfl) 3 _ rfl
  have z1 := heap_lt (hS.box 1 rfl)
  have c20 : u9.cell? ⟨rb, 0, none⟩ = some (.int .i64 x.kind) := blk_cell (hS.box 2 rfl) 0 _ rfl
  have c21 : u9.cell? ⟨rb, 1, none⟩ = some (.string x.path) := blk_cell (hS.box 2 rfl) 1 _ rfl
  have c22 : u9.cell? ⟨rb, 2, none⟩ = some (.int .i64 x.zxid) := blk_cell (hS.box 2 rfl) 2 _ rfl
  have z2 := heap_lt (hS.box 2 rfl)
  go_wp2_with fail
  have hC := small_any C fC.out u9
  refine hC.mono ?_
  clear hC
  clear c00 c01 c02 c03 c04 c05 c10 c11 c12 c13 c20 c21 c22 z0 z1 z2
  rintro e u10 ⟨rfl, hM⟩
  have hS := hS.mod hM
  clear hM
  have c00 : u10.cell? ⟨rb + 2, 0, none⟩ = some (.int .i64 z.a) := blk_cell (hS.box 0 rfl) 0 _ rfl
  have c01 : u10.cell? ⟨rb + 2, 1, none⟩ = some (.int .i64 z.b) := blk_cell (hS.box 0 rfl) 1 _ rfl
  have c02 : u10.cell? ⟨rb + 2, 2, none⟩ = some (.int .i64 z.c) := blk_cell (hS.box 0 rfl) 2 _ rfl
  have c03 : u10.cell? ⟨rb + 2, 3, none⟩ = some (.int .i64 z.d) := blk_cell (hS.box 0 rfl) 3 _ rfl
  have c04 : u10.cell? ⟨rb + 2, 4, none⟩ = some (.int .i64 z.e) := blk_cell (hS.box 0 rfl) 4 _ rfl
  have c05 : u10.cell? ⟨rb + 2, 5, none⟩ = some (.int .i64 z.f) := blk_cell (hS.box 0 rfl) 5 _ rfl
  have z0 := heap_lt (hS.box 0 rfl)
  have c10 : u10.cell? ⟨rb + 1, 0, none⟩ = some (.int .i64 y.session) := blk_cell (hS.box 1 rfl) 0 _ rfl
  have c11 : u10.cell? ⟨rb + 1, 1, none⟩ = some (.int .i64 y.zxid) := blk_cell (hS.box 1 rfl) 1 _ rfl
  have c12 : u10.cell? ⟨rb + 1, 2, none⟩ = some (.int .i64 y.timeout) := blk_cell (hS.box 1 rfl) 2 _ rfl
  have c13 : u10.cell? ⟨rb + 1, 3, none⟩ = some (.string y.secret) := blk_cell (hS.box 1 rfl) 3 _ rfl
  have z1 := heap_lt (hS.box 1 rfl)
  have c20 : u10.cell? ⟨rb, 0, none⟩ = some (.int .i64 x.kind) := blk_cell (hS.box 2 rfl) 0 _ rfl
  have c21 : u10.cell? ⟨rb, 1, none⟩ = some (.string x.path) := blk_cell (hS.box 2 rfl) 1 _ rfl
  have c22 : u10.cell? ⟨rb, 2, none⟩ = some (.int .i64 x.zxid) := blk_cell (hS.box 2 rfl) 2 _ rfl
  have z2 := heap_lt (hS.box 2 rfl)
  go_wp2
  go_ret
  exact ⟨rfl, hS.1⟩
end Go.Proofs.Ytmbkbkfcbloafaa
