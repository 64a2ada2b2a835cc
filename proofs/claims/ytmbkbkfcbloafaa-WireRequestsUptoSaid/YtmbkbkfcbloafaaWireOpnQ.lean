/-
  The arguments of the laws of package wire, opened: requests.
  No condition.
-/
import Derived.Test.YtmbkbkfcbloafaaWireO
import Derived.Test.YtmbkbkfcbloafaaRead
import Derived.Test.YtmbkbkfcbloafaaRows
namespace Go.Proofs.Ytmbkbkfcbloafaa
open Go.ChangeShapes Go.WideShapes Go.ChangeAt Go.RowKit Go.Deep
set_option linter.unusedSectionVars false
set_option linter.unusedSimpArgs false
set_option linter.unusedVariables false
set_option maxRecDepth 100000

theorem laidOut : laidOutB Try.prog = true := by kernel_rfl
theorem ownsNone : ownKnob Try.prog.godebug = none := by kernel_rfl
theorem cellsI : Try.prog.cellsOf 3 = 1 := by kernel_rfl
theorem cellsE : Try.prog.cellsOf 35 = 1 := by kernel_rfl
theorem cellsS : Try.prog.cellsOf 9 = 1 := by kernel_rfl
theorem cellsA : Try.prog.cellsOf 76 = 2 := by kernel_rfl
theorem cellsLA : Try.prog.cellsOf 34 = 1 := by kernel_rfl
theorem cellsLS : Try.prog.cellsOf 47 = 1 := by kernel_rfl
instance : Inhabited Acl := ⟨⟨0, ⟨#[]⟩⟩⟩

section
variable {H : Type} {enc : TypeId × Value → H} {w : World} {base : Nat} {spare : Nat → Bool} {held : Bool}

theorem bulk_pos (d : DataW H) : 1 ≤ Rows.uptoBulk d := by
  cases d with
  | lit l => cases l <;> simp [Rows.uptoBulk]
  | _ => simp [Rows.uptoBulk]
theorem bulkAll_len : ∀ l : List (DataW H), l.length ≤ Rows.uptoBulkAll l
  | [] => Nat.zero_le _
  | d :: l => by
    have h1 := bulk_pos d
    have h2 := bulkAll_len l
    simp only [Rows.uptoBulkAll, List.length_cons]
    omega
theorem bulkAll_list {α : Type} (f : α → List UInt8) : ∀ (l : List α) (D : List (DataW H)), D.length = l.length → (∀ (i : Nat) (p : α) (d : DataW H), l[i]? = some p → D[i]? = some d → (f p).length ≤ 10 * Rows.uptoBulk d) → (l.flatMap f).length ≤ 10 * Rows.uptoBulkAll D
  | [], [], _, _ => by simp
  | [], _ :: _, h, _ => by simp at h
  | _ :: _, [], h, _ => by simp at h
  | p :: l, d :: D, h, ho => by
    have h1 := ho 0 p d rfl rfl
    have h2 := bulkAll_list f l D (by simpa using h) (fun i p d hp hd => ho (i + 1) p d (by simpa using hp) (by simpa using hd))
    rw [List.flatMap_cons, List.length_append]
    simp only [Rows.uptoBulkAll]
    omega
theorem sev_len {n : Nat} (h : n ≤ maxLen) : (sevens n).length ≤ 10 := sevens_length 10 n (by unfold maxLen at h; have : (128 : Nat) ^ 10 = 1180591620717411303424 := by decide
                                                                                              omega) (by omega)
theorem txt_len {s : ByteArray} (h : s.size ≤ maxLen) : (txtB s).length ≤ s.data.toList.length + 10 := by
  have := sev_len h
  unfold txtB
  rw [List.length_append]
  omega
theorem list_bulk {α : Type} {f : α → List UInt8} {l : List α} {x : DataW H} {D D' : List (DataW H)} (hm : l.length ≤ maxLen) (hx : x = .nil ∧ l = [] ∧ D = [] ∨ x = .slice D D') (hD : D.length = l.length)
    (ho : ∀ (i : Nat) (p : α) (d : DataW H), l[i]? = some p → D[i]? = some d → (f p).length ≤ 10 * Rows.uptoBulk d) : (listB f l).length ≤ 10 * Rows.uptoBulk x := by
  have h1 := sev_len hm
  have h2 := bulkAll_list f l D hD ho
  unfold listB
  rw [List.length_append]
  rcases hx with ⟨rfl, rfl, rfl⟩ | rfl
  · simp only [Rows.uptoBulkAll, Rows.uptoBulk] at h2 ⊢
    omega
  · simp only [Rows.uptoBulk]
    omega
theorem open_hdr {t e : TypeId} {fuel : Nat} {cs : List Value} {x : DataW H × List MemPlace} (ht : Try.prog.underlying t = some (.slice e)) (h : DataW.trod enc Try.prog w base spare held fuel t cs = some x) : ∃ a n cap, cs = [.slice a n cap] := by
  rcases open_slice ht h with ⟨rfl, rfl⟩ | ⟨a, len, cap, m, n, D, Pl, rfl, hb, hl, hm, hmm, rfl, hx⟩
  · exact ⟨none, 0, 0, rfl⟩
  · exact ⟨some a, len, cap, rfl⟩

theorem open_Acl (fuel : Nat) (cs : List Value) (x : DataW H × List MemPlace) (hl : cs.length = 2) (h : DataW.trod enc Try.prog w base spare held fuel 76 cs = some x) :
    ∃ p : Acl, cs = p.cells ∧ (p.ok w ∧ p.bytes.length ≤ 10 * Rows.uptoBulk x.1) := by
  obtain ⟨ys, n, hx1, hx2, hx3, hy, hf⟩ := DataW.trod_struct Try.underlying76 h
  obtain ⟨z0, z1, rfl⟩ : ∃ z0 z1, ys = [z0, z1] := by
    match ys, hy with
    | [z0, z1], _ => exact ⟨z0, z1, rfl⟩
  match cs, hl with
  | [c0, c1], _ =>
    obtain ⟨x0, rfl, h0⟩ := field_int hy hf 0 _ rfl Try.underlying3 cellsI _ rfl
    obtain ⟨x1, rfl, m1, y1, hy1, e1⟩ := field_string hy hf 1 _ rfl Try.underlying9 cellsS _ rfl
    have hy1 : some z1 = some y1 := hy1
    cases hy1
    refine ⟨⟨x0, x1⟩, rfl, int_wf h0, ?_⟩
    rw [hx2]
    simp only [List.map_cons, List.map_nil, Rows.uptoBulk, Rows.uptoBulkAll, e1]
    have b0 := bulk_pos z0.1
    have n0 : (numB x0).length ≤ 10 := numB_len (int_wf h0)
    have t1 := txt_len m1
    show (numB x0 ++ txtB x1).length ≤ _
    rw [List.length_append]
    omega
theorem open_acls {fuel : Nat} {cs : List Value} {x : DataW H × List MemPlace} (h : DataW.trod enc Try.prog w base spare held fuel 34 cs = some x) :
    ∃ (a : Option Addr) (cap : Nat) (l : List Acl), cs = [.slice a l.length cap] ∧ Rd w 2 a l.length cap (l.flatMap Acl.cells) ∧ (∀ p ∈ l, Acl.ok w p) ∧ (listB Acl.bytes l).length ≤ 10 * Rows.uptoBulk x.1 := by
  obtain ⟨a, cap, l, D, D', h1, hr, hx, hD, hok⟩ := open_rows cellsA (by omega) Acl.cells (fun _ => rfl) (fun p d => p.ok w ∧ p.bytes.length ≤ 10 * Rows.uptoBulk d) open_Acl Try.underlying34 h
  refine ⟨a, cap, l, h1, hr, fun p hp => ?_, list_bulk (Nat.le_trans hr.2.1 hr.2.2.1) hx hD fun i p d h1 h2 => (hok i p d h1 h2).2⟩
  obtain ⟨i, hi, rfl⟩ := List.mem_iff_getElem.1 hp
  exact (hok i l[i] (D[i]'(by omega)) (List.getElem?_eq_getElem hi) (List.getElem?_eq_getElem _)).1

set_option maxHeartbeats 2000000 in
theorem open_Op (fuel : Nat) (cs : List Value) (x : DataW H × List MemPlace) (hl : cs.length = 10) (h : DataW.trod enc Try.prog w base spare held fuel 56 cs = some x) :
    ∃ p : Op, cs = p.cells ∧ (p.ok w ∧ p.bytes.length ≤ 10 * Rows.uptoBulk x.1) := by
  obtain ⟨ys, n, hx1, hx2, hx3, hy, hf⟩ := DataW.trod_struct Try.underlying56 h
  obtain ⟨z0, z1, z2, z3, z4, z5, z6, z7, z8, z9, rfl⟩ : ∃ z0 z1 z2 z3 z4 z5 z6 z7 z8 z9, ys = [z0, z1, z2, z3, z4, z5, z6, z7, z8, z9] := by
    match ys, hy with
    | [z0, z1, z2, z3, z4, z5, z6, z7, z8, z9], _ => exact ⟨z0, z1, z2, z3, z4, z5, z6, z7, z8, z9, rfl⟩
  match cs, hl with
  | [c0, c1, c2, c3, c4, c5, c6, c7, c8, c9], _ =>
    obtain ⟨x0, rfl, h0⟩ := field_int hy hf 0 _ rfl Try.underlying3 cellsI _ rfl
    obtain ⟨x1, rfl, h1⟩ := field_int hy hf 1 _ rfl Try.underlying3 cellsI _ rfl
    obtain ⟨x2, rfl, m2, y2, hy2, e2⟩ := field_string hy hf 2 _ rfl Try.underlying9 cellsS _ rfl
    have hy2 : some z2 = some y2 := hy2
    cases hy2
    obtain ⟨x3, rfl, m3, y3, hy3, e3⟩ := field_string hy hf 3 _ rfl Try.underlying9 cellsS _ rfl
    have hy3 : some z3 = some y3 := hy3
    cases hy3
    obtain ⟨y4, hy4, hr4⟩ := field_read hy hf 4 _ rfl
    have hy4 : some z4 = some y4 := hy4
    cases hy4
    have hr4 : DataW.trod enc Try.prog w base spare held n 34 [c4] = some z4 := hr4
    obtain ⟨a4, cap4, l4, q4, rd4, ok4, b4⟩ := open_acls hr4
    simp only [List.cons.injEq, and_true] at q4
    subst q4
    obtain ⟨x5, rfl, h5⟩ := field_int hy hf 5 _ rfl Try.underlying3 cellsI _ rfl
    obtain ⟨x6, rfl, h6⟩ := field_int hy hf 6 _ rfl Try.underlying3 cellsI _ rfl
    obtain ⟨y7, hy7, hr7⟩ := field_read hy hf 7 _ rfl
    have hy7 : some z7 = some y7 := hy7
    cases hy7
    have hr7 : DataW.trod enc Try.prog w base spare held n 4 [c7] = some z7 := hr7
    obtain ⟨x7, q7, _⟩ := DataW.trod_bool Try.underlying4 hr7
    simp only [List.cons.injEq, and_true] at q7
    subst q7
    obtain ⟨y8, hy8, hr8⟩ := field_read hy hf 8 _ rfl
    have hy8 : some z8 = some y8 := hy8
    cases hy8
    have hr8 : DataW.trod enc Try.prog w base spare held n 53 [c8] = some z8 := hr8
    obtain ⟨a8, n8, cap8, q8⟩ := open_hdr Try.underlying53 hr8
    simp only [List.cons.injEq, and_true] at q8
    subst q8
    obtain ⟨y9, hy9, hr9⟩ := field_read hy hf 9 _ rfl
    have hy9 : some z9 = some y9 := hy9
    cases hy9
    have hr9 : DataW.trod enc Try.prog w base spare held n 54 [c9] = some z9 := hr9
    obtain ⟨a9, n9, cap9, q9⟩ := open_hdr Try.underlying54 hr9
    simp only [List.cons.injEq, and_true] at q9
    subst q9
    refine ⟨⟨x0, x1, x2, x3, l4, a4, cap4, x5, x6, x7, a8, n8, cap8, a9, n9, cap9⟩, rfl, ⟨int_wf h0, int_wf h1, int_wf h5, int_wf h6, rd4, ok4⟩, ?_⟩
    rw [hx2]
    simp only [List.map_cons, List.map_nil, Rows.uptoBulk, Rows.uptoBulkAll, e2, e3]
    have p0 := bulk_pos z0.1
    have p1 := bulk_pos z1.1
    have p5 := bulk_pos z5.1
    have p6 := bulk_pos z6.1
    have p7 := bulk_pos z7.1
    have p8 := bulk_pos z8.1
    have p9 := bulk_pos z9.1
    have k0 : (numsB [x0, x1]).length ≤ 20 := numsB_len [x0, x1] (by intro t ht; simp only [List.mem_cons, List.not_mem_nil, or_false] at ht; rcases ht with rfl | rfl <;> first | exact int_wf h0 | exact int_wf h1)
    have k1 := txt_len m2
    have k2 := txt_len m3
    have k4 : (numsB [x5, x6]).length ≤ 20 := numsB_len [x5, x6] (by intro t ht; simp only [List.mem_cons, List.not_mem_nil, or_false] at ht; rcases ht with rfl | rfl <;> first | exact int_wf h5 | exact int_wf h6)
    have k5 : (flagB x7).length = 1 := rfl
    show (numsB [x0, x1] ++ txtB x2 ++ txtB x3 ++ listB Acl.bytes l4 ++ numsB [x5, x6] ++ flagB x7).length ≤ _
    simp only [List.length_append]
    omega

instance : Inhabited Op := ⟨⟨0, 0, ⟨#[]⟩, ⟨#[]⟩, [], none, 0, 0, 0, false, none, 0, 0, none, 0, 0⟩⟩
theorem cellsOp : Try.prog.cellsOf 56 = 10 := by kernel_rfl
theorem open_ops {fuel : Nat} {cs : List Value} {x : DataW H × List MemPlace} (h : DataW.trod enc Try.prog w base spare held fuel 53 cs = some x) :
    ∃ (a : Option Addr) (cap : Nat) (l : List Op), cs = [.slice a l.length cap] ∧ Rd w 10 a l.length cap (l.flatMap Op.cells) ∧ (∀ p ∈ l, Op.ok w p) ∧ (listB Op.bytes l).length ≤ 10 * Rows.uptoBulk x.1 := by
  obtain ⟨a, cap, l, D, D', h1, hr, hx, hD, hok⟩ := open_rows cellsOp (by omega) Op.cells (fun _ => rfl) (fun p d => p.ok w ∧ p.bytes.length ≤ 10 * Rows.uptoBulk d) open_Op Try.underlying53 h
  refine ⟨a, cap, l, h1, hr, fun p hp => ?_, list_bulk (Nat.le_trans hr.2.1 hr.2.2.1) hx hD fun i p d h1 h2 => (hok i p d h1 h2).2⟩
  obtain ⟨i, hi, rfl⟩ := List.mem_iff_getElem.1 hp
  exact (hok i l[i] (D[i]'(by omega)) (List.getElem?_eq_getElem hi) (List.getElem?_eq_getElem _)).1

set_option maxHeartbeats 2000000 in
theorem open_Arm (fuel : Nat) (cs : List Value) (x : DataW H × List MemPlace) (hl : cs.length = 5) (h : DataW.trod enc Try.prog w base spare held fuel 90 cs = some x) :
    ∃ p : Arm, cs = p.cells ∧ (p.ok w ∧ p.bytes.length ≤ 10 * Rows.uptoBulk x.1) := by
  obtain ⟨ys, n, hx1, hx2, hx3, hy, hf⟩ := DataW.trod_struct Try.underlying90 h
  obtain ⟨z0, z1, z2, z3, z4, rfl⟩ : ∃ z0 z1 z2 z3 z4, ys = [z0, z1, z2, z3, z4] := by
    match ys, hy with
    | [z0, z1, z2, z3, z4], _ => exact ⟨z0, z1, z2, z3, z4, rfl⟩
  match cs, hl with
  | [c0, c1, c2, c3, c4], _ =>
    obtain ⟨x0, rfl, h0⟩ := field_int hy hf 0 _ rfl Try.underlying3 cellsI _ rfl
    obtain ⟨x1, rfl, m1, y1, hy1, e1⟩ := field_string hy hf 1 _ rfl Try.underlying9 cellsS _ rfl
    have hy1 : some z1 = some y1 := hy1
    cases hy1
    obtain ⟨x2, rfl, h2⟩ := field_int hy hf 2 _ rfl Try.underlying3 cellsI _ rfl
    obtain ⟨x3, rfl, h3⟩ := field_int hy hf 3 _ rfl Try.underlying3 cellsI _ rfl
    obtain ⟨x4, rfl, h4⟩ := field_int hy hf 4 _ rfl Try.underlying3 cellsI _ rfl
    refine ⟨⟨x0, x1, x2, x3, x4⟩, rfl, ⟨int_wf h0, int_wf h2, int_wf h3, int_wf h4⟩, ?_⟩
    rw [hx2]
    simp only [List.map_cons, List.map_nil, Rows.uptoBulk, Rows.uptoBulkAll, e1]
    have p0 := bulk_pos z0.1
    have p2 := bulk_pos z2.1
    have p3 := bulk_pos z3.1
    have p4 := bulk_pos z4.1
    have k0 : (numB x0).length ≤ 10 := numB_len (int_wf h0)
    have k1 := txt_len m1
    have k2 : (numsB [x2, x3, x4]).length ≤ 30 := numsB_len [x2, x3, x4] (by intro t ht; simp only [List.mem_cons, List.not_mem_nil, or_false] at ht; rcases ht with rfl | rfl | rfl <;> first | exact int_wf h2 | exact int_wf h3 | exact int_wf h4)
    show (numB x0 ++ txtB x1 ++ numsB [x2, x3, x4]).length ≤ _
    simp only [List.length_append]
    omega

instance : Inhabited Arm := ⟨⟨0, ⟨#[]⟩, 0, 0, 0⟩⟩
theorem cellsArm : Try.prog.cellsOf 90 = 5 := by kernel_rfl
theorem open_arms {fuel : Nat} {cs : List Value} {x : DataW H × List MemPlace} (h : DataW.trod enc Try.prog w base spare held fuel 54 cs = some x) :
    ∃ (a : Option Addr) (cap : Nat) (l : List Arm), cs = [.slice a l.length cap] ∧ Rd w 5 a l.length cap (l.flatMap Arm.cells) ∧ (∀ p ∈ l, Arm.ok w p) ∧ (listB Arm.bytes l).length ≤ 10 * Rows.uptoBulk x.1 := by
  obtain ⟨a, cap, l, D, D', h1, hr, hx, hD, hok⟩ := open_rows cellsArm (by omega) Arm.cells (fun _ => rfl) (fun p d => p.ok w ∧ p.bytes.length ≤ 10 * Rows.uptoBulk d) open_Arm Try.underlying54 h
  refine ⟨a, cap, l, h1, hr, fun p hp => ?_, list_bulk (Nat.le_trans hr.2.1 hr.2.2.1) hx hD fun i p d h1 h2 => (hok i p d h1 h2).2⟩
  obtain ⟨i, hi, rfl⟩ := List.mem_iff_getElem.1 hp
  exact (hok i l[i] (D[i]'(by omega)) (List.getElem?_eq_getElem hi) (List.getElem?_eq_getElem _)).1

set_option maxHeartbeats 2000000 in
theorem open_Req (fuel : Nat) (cs : List Value) (x : DataW H × List MemPlace) (hl : cs.length = 10) (h : DataW.trod enc Try.prog w base spare held fuel 56 cs = some x) :
    ∃ p : Req, cs = p.cells ∧ (p.ok w ∧ p.bytes.length ≤ 10 * Rows.uptoBulk x.1) := by
  obtain ⟨ys, n, hx1, hx2, hx3, hy, hf⟩ := DataW.trod_struct Try.underlying56 h
  obtain ⟨z0, z1, z2, z3, z4, z5, z6, z7, z8, z9, rfl⟩ : ∃ z0 z1 z2 z3 z4 z5 z6 z7 z8 z9, ys = [z0, z1, z2, z3, z4, z5, z6, z7, z8, z9] := by
    match ys, hy with
    | [z0, z1, z2, z3, z4, z5, z6, z7, z8, z9], _ => exact ⟨z0, z1, z2, z3, z4, z5, z6, z7, z8, z9, rfl⟩
  match cs, hl with
  | [c0, c1, c2, c3, c4, c5, c6, c7, c8, c9], _ =>
    obtain ⟨x0, rfl, h0⟩ := field_int hy hf 0 _ rfl Try.underlying3 cellsI _ rfl
    obtain ⟨x1, rfl, h1⟩ := field_int hy hf 1 _ rfl Try.underlying3 cellsI _ rfl
    obtain ⟨x2, rfl, m2, y2, hy2, e2⟩ := field_string hy hf 2 _ rfl Try.underlying9 cellsS _ rfl
    have hy2 : some z2 = some y2 := hy2
    cases hy2
    obtain ⟨x3, rfl, m3, y3, hy3, e3⟩ := field_string hy hf 3 _ rfl Try.underlying9 cellsS _ rfl
    have hy3 : some z3 = some y3 := hy3
    cases hy3
    obtain ⟨y4, hy4, hr4⟩ := field_read hy hf 4 _ rfl
    have hy4 : some z4 = some y4 := hy4
    cases hy4
    have hr4 : DataW.trod enc Try.prog w base spare held n 34 [c4] = some z4 := hr4
    obtain ⟨a4, cap4, l4, q4, rd4, ok4, b4⟩ := open_acls hr4
    simp only [List.cons.injEq, and_true] at q4
    subst q4
    obtain ⟨x5, rfl, h5⟩ := field_int hy hf 5 _ rfl Try.underlying3 cellsI _ rfl
    obtain ⟨x6, rfl, h6⟩ := field_int hy hf 6 _ rfl Try.underlying3 cellsI _ rfl
    obtain ⟨y7, hy7, hr7⟩ := field_read hy hf 7 _ rfl
    have hy7 : some z7 = some y7 := hy7
    cases hy7
    have hr7 : DataW.trod enc Try.prog w base spare held n 4 [c7] = some z7 := hr7
    obtain ⟨x7, q7, _⟩ := DataW.trod_bool Try.underlying4 hr7
    simp only [List.cons.injEq, and_true] at q7
    subst q7
    obtain ⟨y8, hy8, hr8⟩ := field_read hy hf 8 _ rfl
    have hy8 : some z8 = some y8 := hy8
    cases hy8
    have hr8 : DataW.trod enc Try.prog w base spare held n 53 [c8] = some z8 := hr8
    obtain ⟨a8, cap8, l8, q8, rd8, ok8, b8⟩ := open_ops hr8
    simp only [List.cons.injEq, and_true] at q8
    subst q8
    obtain ⟨y9, hy9, hr9⟩ := field_read hy hf 9 _ rfl
    have hy9 : some z9 = some y9 := hy9
    cases hy9
    have hr9 : DataW.trod enc Try.prog w base spare held n 54 [c9] = some z9 := hr9
    obtain ⟨a9, cap9, l9, q9, rd9, ok9, b9⟩ := open_arms hr9
    simp only [List.cons.injEq, and_true] at q9
    subst q9
    refine ⟨⟨⟨x0, x1, x2, x3, l4, a4, cap4, x5, x6, x7, a8, l8.length, cap8, a9, l9.length, cap9⟩, l8, l9⟩, rfl, ⟨⟨int_wf h0, int_wf h1, int_wf h5, int_wf h6, rd4, ok4⟩, rfl, rd8, ok8, rfl, rd9, ok9⟩, ?_⟩
    rw [hx2]
    simp only [List.map_cons, List.map_nil, Rows.uptoBulk, Rows.uptoBulkAll, e2, e3]
    have p0 := bulk_pos z0.1
    have p1 := bulk_pos z1.1
    have p5 := bulk_pos z5.1
    have p6 := bulk_pos z6.1
    have p7 := bulk_pos z7.1
    have k0 : (numsB [x0, x1]).length ≤ 20 := numsB_len [x0, x1] (by intro t ht; simp only [List.mem_cons, List.not_mem_nil, or_false] at ht; rcases ht with rfl | rfl <;> first | exact int_wf h0 | exact int_wf h1)
    have k1 := txt_len m2
    have k2 := txt_len m3
    have k4 : (numsB [x5, x6]).length ≤ 20 := numsB_len [x5, x6] (by intro t ht; simp only [List.mem_cons, List.not_mem_nil, or_false] at ht; rcases ht with rfl | rfl <;> first | exact int_wf h5 | exact int_wf h6)
    have k5 : (flagB x7).length = 1 := rfl
    show (numsB [x0, x1] ++ txtB x2 ++ txtB x3 ++ listB Acl.bytes l4 ++ numsB [x5, x6] ++ flagB x7 ++ listB Op.bytes l8 ++ listB Arm.bytes l9).length ≤ _
    simp only [List.length_append]
    omega

theorem open_req {v : Value} {d : DataW H} {p : List MemPlace} {base' : Nat} (k : DataW.Trod enc Try.prog w base spare held 56 v d p) (o : Value.okWide Try.prog w .any base' 56 v) :
    ∃ x : Req, v = .agg x.cells.toArray ∧ x.ok w ∧ x.bytes.length ≤ 10 * Rows.uptoBulk d := by
  obtain ⟨f, k⟩ := k
  obtain ⟨cs, rfl, hl⟩ := okWide_struct Try.underlying56 o
  have hl : cs.toList.length = 10 := by rw [Array.length_toList, hl, cellsOp]
  obtain ⟨q, hq, hok⟩ := open_Req f _ _ hl k
  exact ⟨q, by rw [← hq], hok⟩
end
end Go.Proofs.Ytmbkbkfcbloafaa
