/-
  Events, hellos, notes as bytes: the document's PutEvent, PutHello, PutNote.
  Conditions: the texts fit.
-/
import Derived.Test.YtmbkbkfcbloafaaWireC
namespace Go.Proofs.Ytmbkbkfcbloafaa
open Go.RowKit
set_option linter.unusedSectionVars false
set_option linter.unusedSimpArgs false
set_option linter.unusedVariables false
set_option maxRecDepth 100000

theorem rPutEvent_any (x : Ev) (hx : x.ok) (w : World) :
    Calls Try.prog 11 #[.agg x.cells.toArray] w (TextPost x.bytes w) := by
  obtain ⟨a, b, c⟩ := x
  obtain ⟨h1, h2, h3⟩ := hx
  simp only [Ev.cells]
  obtain ⟨A, hA⟩ : ∃ A, ByteArray.mk (sevens (zig a)).toArray = A := ⟨_, rfl⟩
  obtain ⟨B, hB⟩ : ∃ B, ByteArray.mk (sevens b.size ++ b.data.toList).toArray = B := ⟨_, rfl⟩
  obtain ⟨C, hC⟩ : ∃ C, ByteArray.mk (sevens (zig c)).toArray = C := ⟨_, rfl⟩
  have hAs : A.size ≤ 10 := by rw [← hA, mk_size]; exact numB_len h1
  have hCs : C.size ≤ 10 := by rw [← hC, mk_size]; exact numB_len h2
  have hBs : B.size ≤ 200000000000000 := by
    rw [← hB, mk_size]; have h1 := txtB_len (s := b) (h3.mono (Nat.le_add_right _ _)); have h2 := h3; unfold bfits at h2; unfold txtB at h1; (try simp only at h2); omega
  have hbd1 : ¬ 9223372036854775807 < A.size + B.size := by omega
  have hbd2 : ¬ 9223372036854775807 < A.size + B.size + C.size := by omega
  have HAA := Lib.hid hA
  have HBB := Lib.hid hB
  have HCC := Lib.hid hC
  clear hA hB hC hAs hBs hCs
  have HA := Lib.hid h1
  have HC := Lib.hid h2
  have HF := Lib.hid h3
  have hS := (St.start w).box1 #[.int .i64 a, .string b, .int .i64 c] 23
  have c0 := blk_cell (hS.box 0 rfl) 0 (.int .i64 a) rfl
  have c1 := blk_cell (hS.box 0 rfl) 1 (.string b) rfl
  have c2 := blk_cell (hS.box 0 rfl) 2 (.int .i64 c) rfl
  have hz := heap_lt (hS.box 0 rfl)
  have HS := Lib.hid hS
  clear h1 h2 h3 hS
  go_enter Try.func11, Try.ntmps11
  go_wp2
  generalize w.alloc (.cells #[.int .i64 a, .string b, .int .i64 c] 23) = W at *
  generalize w.heap.size = tb at *
  go_region_held3 (fun w' => w'.cell? ⟨tb, 0, none⟩ = some (.int .i64 a) ∧ w'.cell? ⟨tb, 1, none⟩ = some (.string b) ∧ w'.cell? ⟨tb, 2, none⟩ = some (.int .i64 c))
    (first | exact ⟨c0, c1, c2⟩ | exact ⟨d0, d1, d2⟩ | exact ⟨e0, e1, e2⟩ | exact ⟨f0, f1, f2⟩)
    ((first
      | (go_at_call_of 33 (Value.int IntKind.i64 a); have _t := HA; refine (rwnum_any a HA.out.1 HA.out.2 _).mono ?_; rintro e w1 ⟨rfl, hM1⟩; have d0 : w1.cell? ⟨tb, 0, none⟩ = some (.int .i64 a) := hM1.cell c0 id; have d1 : w1.cell? ⟨tb, 1, none⟩ = some (.string b) := hM1.cell c1 id; have d2 : w1.cell? ⟨tb, 2, none⟩ = some (.int .i64 c) := hM1.cell c2 id; rw [HAA.out]; clear HA)
      | (go_at_call 34; refine (rwtext_any b (HF.out.mono (by (try simp only); omega)) _).mono ?_; rintro e w2 ⟨rfl, hM2⟩; have e0 : w2.cell? ⟨tb, 0, none⟩ = some (.int .i64 a) := hM2.cell d0 id; have e1 : w2.cell? ⟨tb, 1, none⟩ = some (.string b) := hM2.cell d1 id; have e2 : w2.cell? ⟨tb, 2, none⟩ = some (.int .i64 c) := hM2.cell d2 id; rw [HBB.out])
      | (go_at_call 33; refine (rwnum_any c HC.out.1 HC.out.2 _).mono ?_; rintro e w3 ⟨rfl, hM3⟩; have f0 : w3.cell? ⟨tb, 0, none⟩ = some (.int .i64 a) := hM3.cell e0 id; have f1 : w3.cell? ⟨tb, 1, none⟩ = some (.string b) := hM3.cell e1 id; have f2 : w3.cell? ⟨tb, 2, none⟩ = some (.int .i64 c) := hM3.cell e2 id; rw [HCC.out])))
  go_wp2
  go_ret
  refine ⟨?_, ((((HS.out.1).drewN _).then hM1 (fun _ _ h => h)).then hM2 (fun _ _ h => h)).then hM3 (fun _ _ h => h)⟩
  show Ending.returned (.string (A ++ B ++ C)) = _
  rw [← HAA.out, ← HBB.out, ← HCC.out, mk_append, mk_append]
  rfl

theorem rPutHello_any (x : He) (hx : x.ok) (w : World) :
    Calls Try.prog 12 #[.agg x.cells.toArray] w (TextPost x.bytes w) := by
  obtain ⟨a, b, c, s⟩ := x
  obtain ⟨h1, h2, h3, h4⟩ := hx
  simp only [He.cells]
  have hr : ∀ t ∈ [a, b, c], i64 t := by simp [h1, h2, h3]
  obtain ⟨A, hA⟩ : ∃ A, ByteArray.mk (numsB [a, b, c]).toArray = A := ⟨_, rfl⟩
  obtain ⟨B, hB⟩ : ∃ B, ByteArray.mk (sevens s.size ++ s.data.toList).toArray = B := ⟨_, rfl⟩
  have hAs : A.size ≤ 30 := by rw [← hA, mk_size]; exact numsB_len _ hr
  have hBs : B.size ≤ 200000000000000 := by
    rw [← hB, mk_size]; have h1 := txtB_len (s := s) (h4.mono (Nat.le_add_right _ _)); have h2 := h4; unfold bfits at h2; unfold txtB at h1; (try simp only at h2); omega
  have hbd1 : ¬ 9223372036854775807 < A.size + B.size := by omega
  have HAA := Lib.hid hA
  have HBB := Lib.hid hB
  clear hA hB hAs hBs
  have HR := Lib.hid hr
  have HF := Lib.hid h4
  have hS := (St.start w).box1 #[.int .i64 a, .int .i64 b, .int .i64 c, .string s] 25
  have c0 := blk_cell (hS.box 0 rfl) 0 (.int .i64 a) rfl
  have c1 := blk_cell (hS.box 0 rfl) 1 (.int .i64 b) rfl
  have c2 := blk_cell (hS.box 0 rfl) 2 (.int .i64 c) rfl
  have c3 := blk_cell (hS.box 0 rfl) 3 (.string s) rfl
  have hz := heap_lt (hS.box 0 rfl)
  have HS := Lib.hid hS
  clear h1 h2 h3 h4 hr hS
  go_enter Try.func12, Try.ntmps12
  go_wp2
  generalize w.alloc (.cells #[.int .i64 a, .int .i64 b, .int .i64 c, .string s] 25) = W at *
  generalize w.heap.size = tb at *
  have HAl : Hid (Mod (fun _ => False) W (W.alloc (.cells #[.int .i64 a, .int .i64 b, .int .i64 c] 3))) := Lib.hid ((Mod.refl _ W).alloc _)
  have hsl : Rd (W.alloc (.cells #[.int .i64 a, .int .i64 b, .int .i64 c] 3)) 1 (some ⟨W.heap.size, 0, none⟩) 3 3 (ic [a, b, c]) := (Sl.new (c := #[.int .i64 a, .int .i64 b, .int .i64 c]) (heap_alloc_new W _) rfl (by unfold maxLen; omega)).rd
  have HSL := Lib.hid hsl
  have a0 := HAl.out.cell c0 id
  have a1 := HAl.out.cell c1 id
  have a2 := HAl.out.cell c2 id
  have a3 := HAl.out.cell c3 id
  clear hsl
  go_region_held3 (fun w' => w'.cell? ⟨tb, 0, none⟩ = some (.int .i64 a) ∧ w'.cell? ⟨tb, 1, none⟩ = some (.int .i64 b) ∧ w'.cell? ⟨tb, 2, none⟩ = some (.int .i64 c) ∧ w'.cell? ⟨tb, 3, none⟩ = some (.string s))
    (first | exact ⟨c0, c1, c2, c3⟩ | exact ⟨a0, a1, a2, a3⟩ | exact ⟨d0, d1, d2, d3⟩ | exact ⟨e0, e1, e2, e3⟩ | go_keep)
    ((first
      | (go_at_call 35; refine (rnums_any _ 3 3 [a, b, c] rfl HR.out (by omega) _ (HSL.out.mod ((Mod.refl (fun _ => False) _).drew) (fun _ _ h => h))).mono ?_; rintro e w1 ⟨rfl, hM1⟩; have d0 : w1.cell? ⟨tb, 0, none⟩ = some (.int .i64 a) := hM1.cell a0 id; have d1 : w1.cell? ⟨tb, 1, none⟩ = some (.int .i64 b) := hM1.cell a1 id; have d2 : w1.cell? ⟨tb, 2, none⟩ = some (.int .i64 c) := hM1.cell a2 id; have d3 : w1.cell? ⟨tb, 3, none⟩ = some (.string s) := hM1.cell a3 id; rw [HAA.out])
      | (go_at_call 34; refine (rwtext_any s (HF.out.mono (by (try simp only); omega)) _).mono ?_; rintro e w2 ⟨rfl, hM2⟩; have e0 : w2.cell? ⟨tb, 0, none⟩ = some (.int .i64 a) := hM2.cell d0 id; have e1 : w2.cell? ⟨tb, 1, none⟩ = some (.int .i64 b) := hM2.cell d1 id; have e2 : w2.cell? ⟨tb, 2, none⟩ = some (.int .i64 c) := hM2.cell d2 id; have e3 : w2.cell? ⟨tb, 3, none⟩ = some (.string s) := hM2.cell d3 id; rw [HBB.out])))
  go_wp2
  go_ret
  refine ⟨?_, ((((HS.out.1).alloc _).drewN _).then hM1 (fun _ _ h => h)).then hM2 (fun _ _ h => h)⟩
  show Ending.returned (.string (A ++ B)) = _
  rw [← HAA.out, ← HBB.out, mk_append]
  rfl

theorem rPutNote_any (x : No) (hx : x.ok) (w : World) :
    Calls Try.prog 13 #[.agg x.cells.toArray] w (TextPost x.bytes w) := by
  obtain ⟨a, b, c, d, e, f⟩ := x
  obtain ⟨h1, h2, h3, h4, h5, h6⟩ := hx
  simp only [No.cells]
  have hr : ∀ t ∈ [a, b, c, d, e, f], i64 t := by simp [h1, h2, h3, h4, h5, h6]
  have HR := Lib.hid hr
  have hS := ((St.start w).box1 #[.int .i64 a, .int .i64 b, .int .i64 c, .int .i64 d, .int .i64 e, .int .i64 f] 27).slice1 #[.int .i64 a, .int .i64 b, .int .i64 c, .int .i64 d, .int .i64 e, .int .i64 f] 3 1 6 rfl (by unfold maxLen; omega)
  rw [World.size_alloc] at hS
  clear h1 h2 h3 h4 h5 h6 hr
  go_enter Try.func13, Try.ntmps13
  go_wp2_with fail
  refine (rnums_any _ 6 6 [a, b, c, d, e, f] rfl HR.out (by omega) _ (hS.slice 0 rfl).rd).mono ?_
  rintro e w1 ⟨rfl, hM1⟩
  go_wp2
  go_ret
  exact ⟨rfl, hS.1.then hM1 (fun _ _ h => h)⟩
end Go.Proofs.Ytmbkbkfcbloafaa
