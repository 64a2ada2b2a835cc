/-
  The arguments of the laws of package wire, opened: messages.
  No condition.
-/
import Derived.Test.YtmbkbkfcbloafabWireOpnE
import Derived.Test.YtmbkbkfcbloafabWireMa
namespace Go.Proofs.Ytmbkbkfcbloafab
open Go.ChangeShapes Go.WideShapes Go.ChangeAt Go.RowKit Go.Deep
set_option linter.unusedSectionVars false
set_option linter.unusedSimpArgs false
set_option linter.unusedVariables false
set_option maxRecDepth 100000

section
variable {H : Type} {enc : TypeId × Value → H} {w : World} {base : Nat} {spare : Nat → Bool} {held : Bool}
theorem open_texts {fuel : Nat} {cs : List Value} {x : DataW H × List MemPlace} (h : DataW.trod enc Try.prog w base spare held fuel 35 cs = some x) :
    ∃ (a : Option Addr) (cap : Nat) (l : List ByteArray), cs = [.slice a l.length cap] ∧ Rd w 1 a l.length cap (l.flatMap strC) ∧ (listB txtB l).length ≤ 10 * Rows.uptoBulk x.1 := by
  obtain ⟨a, cap, l, D, D', h1, hr, hx, hD, hok⟩ := open_rows cellsS (by omega) strC (fun _ => rfl) (fun p d => (txtB p).length ≤ 10 * Rows.uptoBulk d) (fun fuel cs x hl h => by
    obtain ⟨s, h1, h3, h2⟩ := DataW.trod_string Try.underlying9 h
    refine ⟨s, by show cs = [.string s]; simpa using h1, ?_⟩
    rw [h3]
    simp only [Rows.uptoBulk]
    have := txt_len h2
    omega) Try.underlying35 h
  exact ⟨a, cap, l, h1, hr, list_bulk (Nat.le_trans hr.2.1 hr.2.2.1) hx hD hok⟩

set_option maxHeartbeats 2000000 in
theorem open_Op (fuel : Nat) (cs : List Value) (x : DataW H × List MemPlace) (hl : cs.length = 10) (h : DataW.trod enc Try.prog w base spare held fuel 34 cs = some x) :
    ∃ p : Op, cs = p.cells ∧ (p.ok w ∧ p.bytes.length ≤ 10 * Rows.uptoBulk x.1) := by
  obtain ⟨ys, n, hx1, hx2, hx3, hy, hf⟩ := DataW.trod_struct Try.underlying34 h
  obtain ⟨z0, z1, z2, z3, z4, z5, z6, z7, z8, z9, rfl⟩ : ∃ z0 z1 z2 z3 z4 z5 z6 z7 z8 z9, ys = [z0, z1, z2, z3, z4, z5, z6, z7, z8, z9] := by
    match ys, hy with
    | [z0, z1, z2, z3, z4, z5, z6, z7, z8, z9], _ => exact ⟨z0, z1, z2, z3, z4, z5, z6, z7, z8, z9, rfl⟩
  match cs, hl with
  | [c0, c1, c2, c3, c4, c5, c6, c7, c8, c9], _ =>
    obtain ⟨x0, rfl, h0⟩ := field_int hy hf 0 _ rfl Try.underlying3 cellsI _ rfl
    obtain ⟨x1, rfl, h1⟩ := field_int hy hf 1 _ rfl Try.underlying3 cellsI _ rfl
    obtain ⟨x2, rfl, m2, y2, hy2, e2⟩ := field_string hy hf 2 _ rfl Try.underlying9 cellsS _ rfl
    have hy2 : some z2 = some y2 := hy2
    cases hy2
    obtain ⟨x3, rfl, m3, y3, hy3, e3⟩ := field_string hy hf 3 _ rfl Try.underlying9 cellsS _ rfl
    have hy3 : some z3 = some y3 := hy3
    cases hy3
    obtain ⟨y4, hy4, hr4⟩ := field_read hy hf 4 _ rfl
    have hy4 : some z4 = some y4 := hy4
    cases hy4
    have hr4 : DataW.trod enc Try.prog w base spare held n 22 [c4] = some z4 := hr4
    obtain ⟨a4, cap4, l4, q4, rd4, ok4, b4⟩ := open_acls hr4
    simp only [List.cons.injEq, and_true] at q4
    subst q4
    obtain ⟨x5, rfl, h5⟩ := field_int hy hf 5 _ rfl Try.underlying3 cellsI _ rfl
    obtain ⟨x6, rfl, h6⟩ := field_int hy hf 6 _ rfl Try.underlying3 cellsI _ rfl
    obtain ⟨y7, hy7, hr7⟩ := field_read hy hf 7 _ rfl
    have hy7 : some z7 = some y7 := hy7
    cases hy7
    have hr7 : DataW.trod enc Try.prog w base spare held n 4 [c7] = some z7 := hr7
    obtain ⟨x7, q7, _⟩ := DataW.trod_bool Try.underlying4 hr7
    simp only [List.cons.injEq, and_true] at q7
    subst q7
    obtain ⟨y8, hy8, hr8⟩ := field_read hy hf 8 _ rfl
    have hy8 : some z8 = some y8 := hy8
    cases hy8
    have hr8 : DataW.trod enc Try.prog w base spare held n 31 [c8] = some z8 := hr8
    obtain ⟨a8, n8, cap8, q8⟩ := open_hdr Try.underlying31 hr8
    simp only [List.cons.injEq, and_true] at q8
    subst q8
    obtain ⟨y9, hy9, hr9⟩ := field_read hy hf 9 _ rfl
    have hy9 : some z9 = some y9 := hy9
    cases hy9
    have hr9 : DataW.trod enc Try.prog w base spare held n 32 [c9] = some z9 := hr9
    obtain ⟨a9, n9, cap9, q9⟩ := open_hdr Try.underlying32 hr9
    simp only [List.cons.injEq, and_true] at q9
    subst q9
    refine ⟨⟨x0, x1, x2, x3, l4, a4, cap4, x5, x6, x7, a8, n8, cap8, a9, n9, cap9⟩, rfl, ⟨int_wf h0, int_wf h1, int_wf h5, int_wf h6, rd4, ok4⟩, ?_⟩
    rw [hx2]
    simp only [List.map_cons, List.map_nil, Rows.uptoBulk, Rows.uptoBulkAll, e2, e3]
    have p0 := bulk_pos z0.1
    have p1 := bulk_pos z1.1
    have p5 := bulk_pos z5.1
    have p6 := bulk_pos z6.1
    have p7 := bulk_pos z7.1
    have p8 := bulk_pos z8.1
    have p9 := bulk_pos z9.1
    have k0 : (numsB [x0, x1]).length ≤ 20 := numsB_len [x0, x1] (by intro t ht; simp only [List.mem_cons, List.not_mem_nil, or_false] at ht; rcases ht with rfl | rfl <;> first | exact int_wf h0 | exact int_wf h1)
    have k1 := txt_len m2
    have k2 := txt_len m3
    have k4 : (numsB [x5, x6]).length ≤ 20 := numsB_len [x5, x6] (by intro t ht; simp only [List.mem_cons, List.not_mem_nil, or_false] at ht; rcases ht with rfl | rfl <;> first | exact int_wf h5 | exact int_wf h6)
    have k5 : (flagB x7).length = 1 := rfl
    show (numsB [x0, x1] ++ txtB x2 ++ txtB x3 ++ listB Acl.bytes l4 ++ numsB [x5, x6] ++ flagB x7).length ≤ _
    simp only [List.length_append]
    omega

instance : Inhabited Op := ⟨⟨0, 0, ⟨#[]⟩, ⟨#[]⟩, [], none, 0, 0, 0, false, none, 0, 0, none, 0, 0⟩⟩
theorem cellsOp : Try.prog.cellsOf 34 = 10 := by kernel_rfl
theorem open_ops {fuel : Nat} {cs : List Value} {x : DataW H × List MemPlace} (h : DataW.trod enc Try.prog w base spare held fuel 31 cs = some x) :
    ∃ (a : Option Addr) (cap : Nat) (l : List Op), cs = [.slice a l.length cap] ∧ Rd w 10 a l.length cap (l.flatMap Op.cells) ∧ (∀ p ∈ l, Op.ok w p) ∧ (listB Op.bytes l).length ≤ 10 * Rows.uptoBulk x.1 := by
  obtain ⟨a, cap, l, D, D', h1, hr, hx, hD, hok⟩ := open_rows cellsOp (by omega) Op.cells (fun _ => rfl) (fun p d => p.ok w ∧ p.bytes.length ≤ 10 * Rows.uptoBulk d) open_Op Try.underlying31 h
  refine ⟨a, cap, l, h1, hr, fun p hp => ?_, list_bulk (Nat.le_trans hr.2.1 hr.2.2.1) hx hD fun i p d h1 h2 => (hok i p d h1 h2).2⟩
  obtain ⟨i, hi, rfl⟩ := List.mem_iff_getElem.1 hp
  exact (hok i l[i] (D[i]'(by omega)) (List.getElem?_eq_getElem hi) (List.getElem?_eq_getElem _)).1

set_option maxHeartbeats 2000000 in
theorem open_Arm (fuel : Nat) (cs : List Value) (x : DataW H × List MemPlace) (hl : cs.length = 5) (h : DataW.trod enc Try.prog w base spare held fuel 130 cs = some x) :
    ∃ p : Arm, cs = p.cells ∧ (p.ok w ∧ p.bytes.length ≤ 10 * Rows.uptoBulk x.1) := by
  obtain ⟨ys, n, hx1, hx2, hx3, hy, hf⟩ := DataW.trod_struct Try.underlying130 h
  obtain ⟨z0, z1, z2, z3, z4, rfl⟩ : ∃ z0 z1 z2 z3 z4, ys = [z0, z1, z2, z3, z4] := by
    match ys, hy with
    | [z0, z1, z2, z3, z4], _ => exact ⟨z0, z1, z2, z3, z4, rfl⟩
  match cs, hl with
  | [c0, c1, c2, c3, c4], _ =>
    obtain ⟨x0, rfl, h0⟩ := field_int hy hf 0 _ rfl Try.underlying3 cellsI _ rfl
    obtain ⟨x1, rfl, m1, y1, hy1, e1⟩ := field_string hy hf 1 _ rfl Try.underlying9 cellsS _ rfl
    have hy1 : some z1 = some y1 := hy1
    cases hy1
    obtain ⟨x2, rfl, h2⟩ := field_int hy hf 2 _ rfl Try.underlying3 cellsI _ rfl
    obtain ⟨x3, rfl, h3⟩ := field_int hy hf 3 _ rfl Try.underlying3 cellsI _ rfl
    obtain ⟨x4, rfl, h4⟩ := field_int hy hf 4 _ rfl Try.underlying3 cellsI _ rfl
    refine ⟨⟨x0, x1, x2, x3, x4⟩, rfl, ⟨int_wf h0, int_wf h2, int_wf h3, int_wf h4⟩, ?_⟩
    rw [hx2]
    simp only [List.map_cons, List.map_nil, Rows.uptoBulk, Rows.uptoBulkAll, e1]
    have p0 := bulk_pos z0.1
    have p2 := bulk_pos z2.1
    have p3 := bulk_pos z3.1
    have p4 := bulk_pos z4.1
    have k0 : (numB x0).length ≤ 10 := numB_len (int_wf h0)
    have k1 := txt_len m1
    have k2 : (numsB [x2, x3, x4]).length ≤ 30 := numsB_len [x2, x3, x4] (by intro t ht; simp only [List.mem_cons, List.not_mem_nil, or_false] at ht; rcases ht with rfl | rfl | rfl <;> first | exact int_wf h2 | exact int_wf h3 | exact int_wf h4)
    show (numB x0 ++ txtB x1 ++ numsB [x2, x3, x4]).length ≤ _
    simp only [List.length_append]
    omega

instance : Inhabited Arm := ⟨⟨0, ⟨#[]⟩, 0, 0, 0⟩⟩
theorem cellsArm : Try.prog.cellsOf 130 = 5 := by kernel_rfl
theorem open_arms {fuel : Nat} {cs : List Value} {x : DataW H × List MemPlace} (h : DataW.trod enc Try.prog w base spare held fuel 32 cs = some x) :
    ∃ (a : Option Addr) (cap : Nat) (l : List Arm), cs = [.slice a l.length cap] ∧ Rd w 5 a l.length cap (l.flatMap Arm.cells) ∧ (∀ p ∈ l, Arm.ok w p) ∧ (listB Arm.bytes l).length ≤ 10 * Rows.uptoBulk x.1 := by
  obtain ⟨a, cap, l, D, D', h1, hr, hx, hD, hok⟩ := open_rows cellsArm (by omega) Arm.cells (fun _ => rfl) (fun p d => p.ok w ∧ p.bytes.length ≤ 10 * Rows.uptoBulk d) open_Arm Try.underlying32 h
  refine ⟨a, cap, l, h1, hr, fun p hp => ?_, list_bulk (Nat.le_trans hr.2.1 hr.2.2.1) hx hD fun i p d h1 h2 => (hok i p d h1 h2).2⟩
  obtain ⟨i, hi, rfl⟩ := List.mem_iff_getElem.1 hp
  exact (hok i l[i] (D[i]'(by omega)) (List.getElem?_eq_getElem hi) (List.getElem?_eq_getElem _)).1

set_option maxHeartbeats 2000000 in
theorem open_Req (fuel : Nat) (cs : List Value) (x : DataW H × List MemPlace) (hl : cs.length = 10) (h : DataW.trod enc Try.prog w base spare held fuel 34 cs = some x) :
    ∃ p : Req, cs = p.cells ∧ (p.ok w ∧ p.bytes.length ≤ 10 * Rows.uptoBulk x.1) := by
  obtain ⟨ys, n, hx1, hx2, hx3, hy, hf⟩ := DataW.trod_struct Try.underlying34 h
  obtain ⟨z0, z1, z2, z3, z4, z5, z6, z7, z8, z9, rfl⟩ : ∃ z0 z1 z2 z3 z4 z5 z6 z7 z8 z9, ys = [z0, z1, z2, z3, z4, z5, z6, z7, z8, z9] := by
    match ys, hy with
    | [z0, z1, z2, z3, z4, z5, z6, z7, z8, z9], _ => exact ⟨z0, z1, z2, z3, z4, z5, z6, z7, z8, z9, rfl⟩
  match cs, hl with
  | [c0, c1, c2, c3, c4, c5, c6, c7, c8, c9], _ =>
    obtain ⟨x0, rfl, h0⟩ := field_int hy hf 0 _ rfl Try.underlying3 cellsI _ rfl
    obtain ⟨x1, rfl, h1⟩ := field_int hy hf 1 _ rfl Try.underlying3 cellsI _ rfl
    obtain ⟨x2, rfl, m2, y2, hy2, e2⟩ := field_string hy hf 2 _ rfl Try.underlying9 cellsS _ rfl
    have hy2 : some z2 = some y2 := hy2
    cases hy2
    obtain ⟨x3, rfl, m3, y3, hy3, e3⟩ := field_string hy hf 3 _ rfl Try.underlying9 cellsS _ rfl
    have hy3 : some z3 = some y3 := hy3
    cases hy3
    obtain ⟨y4, hy4, hr4⟩ := field_read hy hf 4 _ rfl
    have hy4 : some z4 = some y4 := hy4
    cases hy4
    have hr4 : DataW.trod enc Try.prog w base spare held n 22 [c4] = some z4 := hr4
    obtain ⟨a4, cap4, l4, q4, rd4, ok4, b4⟩ := open_acls hr4
    simp only [List.cons.injEq, and_true] at q4
    subst q4
    obtain ⟨x5, rfl, h5⟩ := field_int hy hf 5 _ rfl Try.underlying3 cellsI _ rfl
    obtain ⟨x6, rfl, h6⟩ := field_int hy hf 6 _ rfl Try.underlying3 cellsI _ rfl
    obtain ⟨y7, hy7, hr7⟩ := field_read hy hf 7 _ rfl
    have hy7 : some z7 = some y7 := hy7
    cases hy7
    have hr7 : DataW.trod enc Try.prog w base spare held n 4 [c7] = some z7 := hr7
    obtain ⟨x7, q7, _⟩ := DataW.trod_bool Try.underlying4 hr7
    simp only [List.cons.injEq, and_true] at q7
    subst q7
    obtain ⟨y8, hy8, hr8⟩ := field_read hy hf 8 _ rfl
    have hy8 : some z8 = some y8 := hy8
    cases hy8
    have hr8 : DataW.trod enc Try.prog w base spare held n 31 [c8] = some z8 := hr8
    obtain ⟨a8, cap8, l8, q8, rd8, ok8, b8⟩ := open_ops hr8
    simp only [List.cons.injEq, and_true] at q8
    subst q8
    obtain ⟨y9, hy9, hr9⟩ := field_read hy hf 9 _ rfl
    have hy9 : some z9 = some y9 := hy9
    cases hy9
    have hr9 : DataW.trod enc Try.prog w base spare held n 32 [c9] = some z9 := hr9
    obtain ⟨a9, cap9, l9, q9, rd9, ok9, b9⟩ := open_arms hr9
    simp only [List.cons.injEq, and_true] at q9
    subst q9
    refine ⟨⟨⟨x0, x1, x2, x3, l4, a4, cap4, x5, x6, x7, a8, l8.length, cap8, a9, l9.length, cap9⟩, l8, l9⟩, rfl, ⟨⟨int_wf h0, int_wf h1, int_wf h5, int_wf h6, rd4, ok4⟩, rfl, rd8, ok8, rfl, rd9, ok9⟩, ?_⟩
    rw [hx2]
    simp only [List.map_cons, List.map_nil, Rows.uptoBulk, Rows.uptoBulkAll, e2, e3]
    have p0 := bulk_pos z0.1
    have p1 := bulk_pos z1.1
    have p5 := bulk_pos z5.1
    have p6 := bulk_pos z6.1
    have p7 := bulk_pos z7.1
    have k0 : (numsB [x0, x1]).length ≤ 20 := numsB_len [x0, x1] (by intro t ht; simp only [List.mem_cons, List.not_mem_nil, or_false] at ht; rcases ht with rfl | rfl <;> first | exact int_wf h0 | exact int_wf h1)
    have k1 := txt_len m2
    have k2 := txt_len m3
    have k4 : (numsB [x5, x6]).length ≤ 20 := numsB_len [x5, x6] (by intro t ht; simp only [List.mem_cons, List.not_mem_nil, or_false] at ht; rcases ht with rfl | rfl <;> first | exact int_wf h5 | exact int_wf h6)
    have k5 : (flagB x7).length = 1 := rfl
    show (numsB [x0, x1] ++ txtB x2 ++ txtB x3 ++ listB Acl.bytes l4 ++ numsB [x5, x6] ++ flagB x7 ++ listB Op.bytes l8 ++ listB Arm.bytes l9).length ≤ _
    simp only [List.length_append]
    omega

theorem open_ints {fuel : Nat} {cs : List Value} {x : DataW H × List MemPlace} (h : DataW.trod enc Try.prog w base spare held fuel 29 cs = some x) :
    ∃ (a : Option Addr) (cap : Nat) (l : List Int), cs = [.slice a l.length cap] ∧ Rd w 1 a l.length cap (l.flatMap intC) ∧ (∀ t ∈ l, i64 t) ∧ (listB numB l).length ≤ 10 * Rows.uptoBulk x.1 := by
  obtain ⟨a, cap, l, D, D', h1, hr, hx, hD, hok⟩ := open_rows cellsI (by omega) intC (fun _ => rfl) (fun p d => i64 p ∧ (numB p).length ≤ 10 * Rows.uptoBulk d) (fun fuel cs x hl h => by
    obtain ⟨s, h1, h3, h2⟩ := DataW.trod_int Try.underlying3 h
    refine ⟨s, by show cs = [.int .i64 s]; simpa using h1, int_wf h2, ?_⟩
    have b := bulk_pos x.1
    have := numB_len (int_wf h2)
    omega) Try.underlying29 h
  refine ⟨a, cap, l, h1, hr, fun p hp => ?_, list_bulk (Nat.le_trans hr.2.1 hr.2.2.1) hx hD fun i p d h1 h2 => (hok i p d h1 h2).2⟩
  obtain ⟨i, hi, rfl⟩ := List.mem_iff_getElem.1 hp
  exact (hok i l[i] (D[i]'(by omega)) (List.getElem?_eq_getElem hi) (List.getElem?_eq_getElem _)).1
instance : Inhabited Ent := ⟨⟨0, 0, 0, ⟨0, ⟨#[]⟩, ⟨#[]⟩, [], none, 0, 0, 0, 0, none, 0, 0⟩, []⟩⟩
theorem open_ents {fuel : Nat} {cs : List Value} {x : DataW H × List MemPlace} (h : DataW.trod enc Try.prog w base spare held fuel 30 cs = some x) :
    ∃ (a : Option Addr) (cap : Nat) (l : List Ent), cs = [.slice a l.length cap] ∧ Rd w 11 a l.length cap (l.flatMap Ent.cells) ∧ (∀ p ∈ l, Ent.ok w p) ∧ (listB Ent.bytes l).length ≤ 10 * Rows.uptoBulk x.1 := by
  obtain ⟨a, cap, l, D, D', h1, hr, hx, hD, hok⟩ := open_rows cellsEnt (by omega) Ent.cells (fun _ => rfl) (fun p d => p.ok w ∧ p.bytes.length ≤ 10 * Rows.uptoBulk d) open_Ent Try.underlying30 h
  refine ⟨a, cap, l, h1, hr, fun p hp => ?_, list_bulk (Nat.le_trans hr.2.1 hr.2.2.1) hx hD fun i p d h1 h2 => (hok i p d h1 h2).2⟩
  obtain ⟨i, hi, rfl⟩ := List.mem_iff_getElem.1 hp
  exact (hok i l[i] (D[i]'(by omega)) (List.getElem?_eq_getElem hi) (List.getElem?_eq_getElem _)).1
theorem cellsMsg : Try.prog.cellsOf 37 = 19 := by kernel_rfl
set_option maxHeartbeats 2000000 in
theorem open_Msg (fuel : Nat) (cs : List Value) (x : DataW H × List MemPlace) (hl : cs.length = 19) (h : DataW.trod enc Try.prog w base spare held fuel 37 cs = some x) :
    ∃ p : Msg, cs = p.cells ∧ (p.ok w ∧ p.bytes.length ≤ 10 * Rows.uptoBulk x.1) := by
  obtain ⟨ys, n, hx1, hx2, hx3, hy, hf⟩ := DataW.trod_struct Try.underlying37 h
  obtain ⟨z0, z1, z2, z3, z4, z5, z6, z7, z8, z9, rfl⟩ : ∃ z0 z1 z2 z3 z4 z5 z6 z7 z8 z9, ys = [z0, z1, z2, z3, z4, z5, z6, z7, z8, z9] := by
    match ys, hy with
    | [z0, z1, z2, z3, z4, z5, z6, z7, z8, z9], _ => exact ⟨z0, z1, z2, z3, z4, z5, z6, z7, z8, z9, rfl⟩
  match cs, hl with
  | [c0, c1, c2, c3, c4, c5, c6, c7, c8, c9, c10, c11, c12, c13, c14, c15, c16, c17, c18], _ =>
    obtain ⟨x0, rfl, h0⟩ := field_int hy hf 0 _ rfl Try.underlying3 cellsI _ rfl
    obtain ⟨x1, rfl, h1⟩ := field_int hy hf 1 _ rfl Try.underlying3 cellsI _ rfl
    obtain ⟨x2, rfl, h2⟩ := field_int hy hf 2 _ rfl Try.underlying3 cellsI _ rfl
    obtain ⟨x3, rfl, h3⟩ := field_int hy hf 3 _ rfl Try.underlying3 cellsI _ rfl
    obtain ⟨x4, rfl, h4⟩ := field_int hy hf 4 _ rfl Try.underlying3 cellsI _ rfl
    obtain ⟨y5, hy5, hr5⟩ := field_read hy hf 5 _ rfl
    have hy5 : some z5 = some y5 := hy5
    cases hy5
    have hr5 : DataW.trod enc Try.prog w base spare held n 29 [c5] = some z5 := hr5
    obtain ⟨a5, cap5, l5, q5, rd5, ok5, b5⟩ := open_ints hr5
    simp only [List.cons.injEq, and_true] at q5
    subst q5
    obtain ⟨x6, rfl, m6, y6, hy6, e6⟩ := field_string hy hf 6 _ rfl Try.underlying9 cellsS _ rfl
    have hy6 : some z6 = some y6 := hy6
    cases hy6
    obtain ⟨y7, hy7, hr7⟩ := field_read hy hf 7 _ rfl
    have hy7 : some z7 = some y7 := hy7
    cases hy7
    have hr7 : DataW.trod enc Try.prog w base spare held n 30 [c7] = some z7 := hr7
    obtain ⟨a7, cap7, l7, q7, rd7, ok7, b7⟩ := open_ents hr7
    simp only [List.cons.injEq, and_true] at q7
    subst q7
    obtain ⟨y8, hy8, hr8⟩ := field_read hy hf 8 _ rfl
    have hy8 : some z8 = some y8 := hy8
    cases hy8
    have hr8 : DataW.trod enc Try.prog w base spare held n 34 [c8, c9, c10, c11, c12, c13, c14, c15, c16, c17] = some z8 := hr8
    obtain ⟨q, qq, qok, b8⟩ := open_Req n _ _ rfl hr8
    simp only [Req.cells, Op.cells, List.cons.injEq, and_true] at qq
    obtain ⟨rfl, rfl, rfl, rfl, rfl, rfl, rfl, rfl, rfl, rfl⟩ := qq
    obtain ⟨y9, hy9, hr9⟩ := field_read hy hf 9 _ rfl
    have hy9 : some z9 = some y9 := hy9
    cases hy9
    have hr9 : DataW.trod enc Try.prog w base spare held n 35 [c18] = some z9 := hr9
    obtain ⟨a9, cap9, l9, q9, rd9, b9⟩ := open_texts hr9
    simp only [List.cons.injEq, and_true] at q9
    subst q9
    refine ⟨⟨x0, x1, x2, x3, x4, l5, a5, cap5, x6, l7, a7, cap7, q, l9, a9, cap9⟩, rfl, ⟨int_wf h0, int_wf h1, int_wf h2, int_wf h3, int_wf h4, rd5, ok5, rd7, ok7, qok, rd9⟩, ?_⟩
    rw [hx2]
    simp only [List.map_cons, List.map_nil, Rows.uptoBulk, Rows.uptoBulkAll, e6]
    have p0 := bulk_pos z0.1
    have p1 := bulk_pos z1.1
    have p2 := bulk_pos z2.1
    have p3 := bulk_pos z3.1
    have p4 := bulk_pos z4.1
    have k0 : (numsB [x0, x1, x2, x3, x4]).length ≤ 50 := numsB_len [x0, x1, x2, x3, x4] (by intro t ht; simp only [List.mem_cons, List.not_mem_nil, or_false] at ht; rcases ht with rfl | rfl | rfl | rfl | rfl <;> first | exact int_wf h0 | exact int_wf h1 | exact int_wf h2 | exact int_wf h3 | exact int_wf h4)
    have t6 := txt_len m6
    show (numsB [x0, x1, x2, x3, x4] ++ listB numB l5 ++ txtB x6 ++ listB Ent.bytes l7 ++ q.bytes ++ listB txtB l9).length ≤ _
    simp only [List.length_append]
    omega

theorem open_message {v : Value} {d : DataW H} {p : List MemPlace} {base' : Nat} (k : DataW.Trod enc Try.prog w base spare held 37 v d p) (o : Value.okWide Try.prog w .any base' 37 v) :
    ∃ x : Msg, v = .agg x.cells.toArray ∧ x.ok w ∧ x.bytes.length ≤ 10 * Rows.uptoBulk d := by
  obtain ⟨f, k⟩ := k
  obtain ⟨cs, rfl, hl⟩ := okWide_struct Try.underlying37 o
  have hl : cs.toList.length = 19 := by rw [Array.length_toList, hl, cellsMsg]
  obtain ⟨q, hq, hok⟩ := open_Msg f _ _ hl k
  exact ⟨q, by rw [← hq], hok⟩
end
end Go.Proofs.Ytmbkbkfcbloafab
