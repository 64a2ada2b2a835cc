/-
  The arguments of the laws of package wire, opened: replies.
  No condition.
-/
import Derived.Test.YtmbkbkfcbloafaaWireO2
import Derived.Test.YtmbkbkfcbloafaaRead
import Derived.Test.YtmbkbkfcbloafaaRows
namespace Go.Proofs.Ytmbkbkfcbloafaa
open Go.ChangeShapes Go.WideShapes Go.ChangeAt Go.RowKit Go.Deep
set_option linter.unusedSectionVars false
set_option linter.unusedSimpArgs false
set_option linter.unusedVariables false
set_option maxRecDepth 100000

theorem laidOut : laidOutB Try.prog = true := by kernel_rfl
theorem ownsNone : ownKnob Try.prog.godebug = none := by kernel_rfl
theorem cellsI : Try.prog.cellsOf 3 = 1 := by kernel_rfl
theorem cellsE : Try.prog.cellsOf 35 = 1 := by kernel_rfl
theorem cellsS : Try.prog.cellsOf 9 = 1 := by kernel_rfl
theorem cellsA : Try.prog.cellsOf 76 = 2 := by kernel_rfl
theorem cellsLA : Try.prog.cellsOf 34 = 1 := by kernel_rfl
theorem cellsLS : Try.prog.cellsOf 47 = 1 := by kernel_rfl
instance : Inhabited Acl := ⟨⟨0, ⟨#[]⟩⟩⟩

section
variable {H : Type} {enc : TypeId × Value → H} {w : World} {base : Nat} {spare : Nat → Bool} {held : Bool}

theorem bulk_pos (d : DataW H) : 1 ≤ Rows.uptoBulk d := by
  cases d with
  | lit l => cases l <;> simp [Rows.uptoBulk]
  | _ => simp [Rows.uptoBulk]
theorem bulkAll_len : ∀ l : List (DataW H), l.length ≤ Rows.uptoBulkAll l
  | [] => Nat.zero_le _
  | d :: l => by
    have h1 := bulk_pos d
    have h2 := bulkAll_len l
    simp only [Rows.uptoBulkAll, List.length_cons]
    omega
theorem bulkAll_list {α : Type} (f : α → List UInt8) : ∀ (l : List α) (D : List (DataW H)), D.length = l.length → (∀ (i : Nat) (p : α) (d : DataW H), l[i]? = some p → D[i]? = some d → (f p).length ≤ 10 * Rows.uptoBulk d) → (l.flatMap f).length ≤ 10 * Rows.uptoBulkAll D
  | [], [], _, _ => by simp
  | [], _ :: _, h, _ => by simp at h
  | _ :: _, [], h, _ => by simp at h
  | p :: l, d :: D, h, ho => by
    have h1 := ho 0 p d rfl rfl
    have h2 := bulkAll_list f l D (by simpa using h) (fun i p d hp hd => ho (i + 1) p d (by simpa using hp) (by simpa using hd))
    rw [List.flatMap_cons, List.length_append]
    simp only [Rows.uptoBulkAll]
    omega
theorem sev_len {n : Nat} (h : n ≤ maxLen) : (sevens n).length ≤ 10 := sevens_length 10 n (by unfold maxLen at h; have : (128 : Nat) ^ 10 = 1180591620717411303424 := by decide
                                                                                              omega) (by omega)
theorem txt_len {s : ByteArray} (h : s.size ≤ maxLen) : (txtB s).length ≤ s.data.toList.length + 10 := by
  have := sev_len h
  unfold txtB
  rw [List.length_append]
  omega
theorem list_bulk {α : Type} {f : α → List UInt8} {l : List α} {x : DataW H} {D D' : List (DataW H)} (hm : l.length ≤ maxLen) (hx : x = .nil ∧ l = [] ∧ D = [] ∨ x = .slice D D') (hD : D.length = l.length)
    (ho : ∀ (i : Nat) (p : α) (d : DataW H), l[i]? = some p → D[i]? = some d → (f p).length ≤ 10 * Rows.uptoBulk d) : (listB f l).length ≤ 10 * Rows.uptoBulk x := by
  have h1 := sev_len hm
  have h2 := bulkAll_list f l D hD ho
  unfold listB
  rw [List.length_append]
  rcases hx with ⟨rfl, rfl, rfl⟩ | rfl
  · simp only [Rows.uptoBulkAll, Rows.uptoBulk] at h2 ⊢
    omega
  · simp only [Rows.uptoBulk]
    omega
theorem open_hdr {t e : TypeId} {fuel : Nat} {cs : List Value} {x : DataW H × List MemPlace} (ht : Try.prog.underlying t = some (.slice e)) (h : DataW.trod enc Try.prog w base spare held fuel t cs = some x) : ∃ a n cap, cs = [.slice a n cap] := by
  rcases open_slice ht h with ⟨rfl, rfl⟩ | ⟨a, len, cap, m, n, D, Pl, rfl, hb, hl, hm, hmm, rfl, hx⟩
  · exact ⟨none, 0, 0, rfl⟩
  · exact ⟨some a, len, cap, rfl⟩

theorem open_Acl (fuel : Nat) (cs : List Value) (x : DataW H × List MemPlace) (hl : cs.length = 2) (h : DataW.trod enc Try.prog w base spare held fuel 76 cs = some x) :
    ∃ p : Acl, cs = p.cells ∧ (p.ok w ∧ p.bytes.length ≤ 10 * Rows.uptoBulk x.1) := by
  obtain ⟨ys, n, hx1, hx2, hx3, hy, hf⟩ := DataW.trod_struct Try.underlying76 h
  obtain ⟨z0, z1, rfl⟩ : ∃ z0 z1, ys = [z0, z1] := by
    match ys, hy with
    | [z0, z1], _ => exact ⟨z0, z1, rfl⟩
  match cs, hl with
  | [c0, c1], _ =>
    obtain ⟨x0, rfl, h0⟩ := field_int hy hf 0 _ rfl Try.underlying3 cellsI _ rfl
    obtain ⟨x1, rfl, m1, y1, hy1, e1⟩ := field_string hy hf 1 _ rfl Try.underlying9 cellsS _ rfl
    have hy1 : some z1 = some y1 := hy1
    cases hy1
    refine ⟨⟨x0, x1⟩, rfl, int_wf h0, ?_⟩
    rw [hx2]
    simp only [List.map_cons, List.map_nil, Rows.uptoBulk, Rows.uptoBulkAll, e1]
    have b0 := bulk_pos z0.1
    have n0 : (numB x0).length ≤ 10 := numB_len (int_wf h0)
    have t1 := txt_len m1
    show (numB x0 ++ txtB x1).length ≤ _
    rw [List.length_append]
    omega
theorem open_acls {fuel : Nat} {cs : List Value} {x : DataW H × List MemPlace} (h : DataW.trod enc Try.prog w base spare held fuel 34 cs = some x) :
    ∃ (a : Option Addr) (cap : Nat) (l : List Acl), cs = [.slice a l.length cap] ∧ Rd w 2 a l.length cap (l.flatMap Acl.cells) ∧ (∀ p ∈ l, Acl.ok w p) ∧ (listB Acl.bytes l).length ≤ 10 * Rows.uptoBulk x.1 := by
  obtain ⟨a, cap, l, D, D', h1, hr, hx, hD, hok⟩ := open_rows cellsA (by omega) Acl.cells (fun _ => rfl) (fun p d => p.ok w ∧ p.bytes.length ≤ 10 * Rows.uptoBulk d) open_Acl Try.underlying34 h
  refine ⟨a, cap, l, h1, hr, fun p hp => ?_, list_bulk (Nat.le_trans hr.2.1 hr.2.2.1) hx hD fun i p d h1 h2 => (hok i p d h1 h2).2⟩
  obtain ⟨i, hi, rfl⟩ := List.mem_iff_getElem.1 hp
  exact (hok i l[i] (D[i]'(by omega)) (List.getElem?_eq_getElem hi) (List.getElem?_eq_getElem _)).1
theorem open_texts {fuel : Nat} {cs : List Value} {x : DataW H × List MemPlace} (h : DataW.trod enc Try.prog w base spare held fuel 47 cs = some x) :
    ∃ (a : Option Addr) (cap : Nat) (l : List ByteArray), cs = [.slice a l.length cap] ∧ Rd w 1 a l.length cap (l.flatMap strC) ∧ (listB txtB l).length ≤ 10 * Rows.uptoBulk x.1 := by
  obtain ⟨a, cap, l, D, D', h1, hr, hx, hD, hok⟩ := open_rows cellsS (by omega) strC (fun _ => rfl) (fun p d => (txtB p).length ≤ 10 * Rows.uptoBulk d) (fun fuel cs x hl h => by
    obtain ⟨s, h1, h3, h2⟩ := DataW.trod_string Try.underlying9 h
    refine ⟨s, by show cs = [.string s]; simpa using h1, ?_⟩
    rw [h3]
    simp only [Rows.uptoBulk]
    have := txt_len h2
    omega) Try.underlying47 h
  exact ⟨a, cap, l, h1, hr, list_bulk (Nat.le_trans hr.2.1 hr.2.2.1) hx hD hok⟩

set_option maxHeartbeats 2000000 in
theorem open_Ans (fuel : Nat) (cs : List Value) (x : DataW H × List MemPlace) (hl : cs.length = 17) (h : DataW.trod enc Try.prog w base spare held fuel 50 cs = some x) :
    ∃ p : Ans, cs = p.cells ∧ (p.ok w ∧ p.bytes.length ≤ 10 * Rows.uptoBulk x.1) := by
  obtain ⟨ys, n, hx1, hx2, hx3, hy, hf⟩ := DataW.trod_struct Try.underlying50 h
  obtain ⟨z0, z1, z2, z3, z4, z5, z6, z7, z8, rfl⟩ : ∃ z0 z1 z2 z3 z4 z5 z6 z7 z8, ys = [z0, z1, z2, z3, z4, z5, z6, z7, z8] := by
    match ys, hy with
    | [z0, z1, z2, z3, z4, z5, z6, z7, z8], _ => exact ⟨z0, z1, z2, z3, z4, z5, z6, z7, z8, rfl⟩
  match cs, hl with
  | [c0, c1, c2, c3, c4, c5, c6, c7, c8, c9, c10, c11, c12, c13, c14, c15, c16], _ =>
    obtain ⟨x0, rfl, h0⟩ := field_int hy hf 0 _ rfl Try.underlying3 cellsI _ rfl
    obtain ⟨x1, rfl, h1⟩ := field_int hy hf 1 _ rfl Try.underlying3 cellsI _ rfl
    obtain ⟨x2, rfl, h2⟩ := field_int hy hf 2 _ rfl Try.underlying35 cellsE _ rfl
    obtain ⟨x3, rfl, m3, y3, hy3, e3⟩ := field_string hy hf 3 _ rfl Try.underlying9 cellsS _ rfl
    obtain ⟨x4, rfl, m4, y4, hy4, e4⟩ := field_string hy hf 4 _ rfl Try.underlying9 cellsS _ rfl
    have hy3 : some z3 = some y3 := hy3
    cases hy3
    have hy4 : some z4 = some y4 := hy4
    cases hy4
    obtain ⟨y5, hy5, hr5⟩ := field_read hy hf 5 _ rfl
    have hy5 : some z5 = some y5 := hy5
    cases hy5
    have hr5 : DataW.trod enc Try.prog w base spare held n 46 [c5, c6, c7, c8, c9, c10, c11, c12, c13] = some z5 := hr5
    obtain ⟨us, n5, hu1, hu2, hu3, huy, huf⟩ := DataW.trod_struct Try.underlying46 hr5
    obtain ⟨s0, rfl, g0⟩ := field_int huy huf 0 _ rfl Try.underlying3 cellsI _ rfl
    obtain ⟨s1, rfl, g1⟩ := field_int huy huf 1 _ rfl Try.underlying3 cellsI _ rfl
    obtain ⟨s2, rfl, g2⟩ := field_int huy huf 2 _ rfl Try.underlying3 cellsI _ rfl
    obtain ⟨s3, rfl, g3⟩ := field_int huy huf 3 _ rfl Try.underlying3 cellsI _ rfl
    obtain ⟨s4, rfl, g4⟩ := field_int huy huf 4 _ rfl Try.underlying3 cellsI _ rfl
    obtain ⟨s5, rfl, g5⟩ := field_int huy huf 5 _ rfl Try.underlying3 cellsI _ rfl
    obtain ⟨s6, rfl, g6⟩ := field_int huy huf 6 _ rfl Try.underlying3 cellsI _ rfl
    obtain ⟨s7, rfl, g7⟩ := field_int huy huf 7 _ rfl Try.underlying3 cellsI _ rfl
    obtain ⟨s8, rfl, g8⟩ := field_int huy huf 8 _ rfl Try.underlying3 cellsI _ rfl
    have b5 : 9 ≤ Rows.uptoBulk z5.1 := by
      have h1 := bulkAll_len (us.map (·.1))
      have h2 : us.length = 9 := huy
      rw [List.length_map, h2] at h1
      rw [hu2]
      simp only [Rows.uptoBulk]
      omega
    obtain ⟨y6, hy6, hr6⟩ := field_read hy hf 6 _ rfl
    have hy6 : some z6 = some y6 := hy6
    cases hy6
    have hr6 : DataW.trod enc Try.prog w base spare held n 34 [c14] = some z6 := hr6
    obtain ⟨a6, cap6, l6, q6, rd6, ok6, b6⟩ := open_acls hr6
    simp only [List.cons.injEq, and_true] at q6
    subst q6
    obtain ⟨y7, hy7, hr7⟩ := field_read hy hf 7 _ rfl
    have hy7 : some z7 = some y7 := hy7
    cases hy7
    have hr7 : DataW.trod enc Try.prog w base spare held n 47 [c15] = some z7 := hr7
    obtain ⟨a7, cap7, l7, q7, rd7, b7⟩ := open_texts hr7
    simp only [List.cons.injEq, and_true] at q7
    subst q7
    obtain ⟨y8, hy8, hr8⟩ := field_read hy hf 8 _ rfl
    have hy8 : some z8 = some y8 := hy8
    cases hy8
    have hr8 : DataW.trod enc Try.prog w base spare held n 48 [c16] = some z8 := hr8
    obtain ⟨a8, n8, cap8, q8⟩ := open_hdr Try.underlying48 hr8
    simp only [List.cons.injEq, and_true] at q8
    subst q8
    refine ⟨⟨x0, x1, x2, x3, x4, s0, s1, s2, s3, s4, s5, s6, s7, s8, l6, a6, cap6, l7, a7, cap7, a8, n8, cap8⟩, rfl, ⟨int_wf h0, int_wf h1, int_wf h2, int_wf g0, int_wf g1, int_wf g2, int_wf g3, int_wf g4, int_wf g5, int_wf g6, int_wf g7, int_wf g8, rd6, ok6, rd7⟩, ?_⟩
    rw [hx2]
    simp only [List.map_cons, List.map_nil, Rows.uptoBulk, Rows.uptoBulkAll, e3, e4]
    have b0 := bulk_pos z0.1
    have b1 := bulk_pos z1.1
    have b2 := bulk_pos z2.1
    have b8 := bulk_pos z8.1
    have k1 : (numsB [x0, x1, x2]).length ≤ 30 := numsB_len [x0, x1, x2] (by intro t ht; simp only [List.mem_cons, List.not_mem_nil, or_false] at ht; rcases ht with rfl | rfl | rfl <;> first | exact int_wf h0 | exact int_wf h1 | exact int_wf h2)
    have k2 : (numsB [s0, s1, s2, s3, s4, s5, s6, s7, s8]).length ≤ 90 := numsB_len [s0, s1, s2, s3, s4, s5, s6, s7, s8] (by intro t ht; simp only [List.mem_cons, List.not_mem_nil, or_false] at ht; rcases ht with rfl | rfl | rfl | rfl | rfl | rfl | rfl | rfl | rfl <;> first | exact int_wf g0 | exact int_wf g1 | exact int_wf g2 | exact int_wf g3 | exact int_wf g4 | exact int_wf g5 | exact int_wf g6 | exact int_wf g7 | exact int_wf g8)
    have t3 := txt_len m3
    have t4 := txt_len m4
    show (numsB [x0, x1, x2] ++ txtB x3 ++ txtB x4 ++ numsB [s0, s1, s2, s3, s4, s5, s6, s7, s8] ++ listB Acl.bytes l6 ++ listB txtB l7).length ≤ _
    simp only [List.length_append]
    omega

instance : Inhabited Ans := ⟨⟨0, 0, 0, ⟨#[]⟩, ⟨#[]⟩, 0, 0, 0, 0, 0, 0, 0, 0, 0, [], none, 0, [], none, 0, none, 0, 0⟩⟩
theorem cellsRep : Try.prog.cellsOf 50 = 17 := by kernel_rfl
theorem open_replies {fuel : Nat} {cs : List Value} {x : DataW H × List MemPlace} (h : DataW.trod enc Try.prog w base spare held fuel 48 cs = some x) :
    ∃ (a : Option Addr) (cap : Nat) (l : List Ans), cs = [.slice a l.length cap] ∧ Rd w 17 a l.length cap (l.flatMap Ans.cells) ∧ (∀ p ∈ l, Ans.ok w p) ∧ (listB Ans.bytes l).length ≤ 10 * Rows.uptoBulk x.1 := by
  obtain ⟨a, cap, l, D, D', h1, hr, hx, hD, hok⟩ := open_rows cellsRep (by omega) Ans.cells (fun _ => rfl) (fun p d => p.ok w ∧ p.bytes.length ≤ 10 * Rows.uptoBulk d) open_Ans Try.underlying48 h
  refine ⟨a, cap, l, h1, hr, fun p hp => ?_, list_bulk (Nat.le_trans hr.2.1 hr.2.2.1) hx hD fun i p d h1 h2 => (hok i p d h1 h2).2⟩
  obtain ⟨i, hi, rfl⟩ := List.mem_iff_getElem.1 hp
  exact (hok i l[i] (D[i]'(by omega)) (List.getElem?_eq_getElem hi) (List.getElem?_eq_getElem _)).1

set_option maxHeartbeats 2000000 in
theorem open_Rep (fuel : Nat) (cs : List Value) (x : DataW H × List MemPlace) (hl : cs.length = 17) (h : DataW.trod enc Try.prog w base spare held fuel 50 cs = some x) :
    ∃ p : Rep, cs = p.cells ∧ (p.ok w ∧ p.bytes.length ≤ 10 * Rows.uptoBulk x.1) := by
  obtain ⟨ys, n, hx1, hx2, hx3, hy, hf⟩ := DataW.trod_struct Try.underlying50 h
  obtain ⟨z0, z1, z2, z3, z4, z5, z6, z7, z8, rfl⟩ : ∃ z0 z1 z2 z3 z4 z5 z6 z7 z8, ys = [z0, z1, z2, z3, z4, z5, z6, z7, z8] := by
    match ys, hy with
    | [z0, z1, z2, z3, z4, z5, z6, z7, z8], _ => exact ⟨z0, z1, z2, z3, z4, z5, z6, z7, z8, rfl⟩
  match cs, hl with
  | [c0, c1, c2, c3, c4, c5, c6, c7, c8, c9, c10, c11, c12, c13, c14, c15, c16], _ =>
    obtain ⟨x0, rfl, h0⟩ := field_int hy hf 0 _ rfl Try.underlying3 cellsI _ rfl
    obtain ⟨x1, rfl, h1⟩ := field_int hy hf 1 _ rfl Try.underlying3 cellsI _ rfl
    obtain ⟨x2, rfl, h2⟩ := field_int hy hf 2 _ rfl Try.underlying35 cellsE _ rfl
    obtain ⟨x3, rfl, m3, y3, hy3, e3⟩ := field_string hy hf 3 _ rfl Try.underlying9 cellsS _ rfl
    obtain ⟨x4, rfl, m4, y4, hy4, e4⟩ := field_string hy hf 4 _ rfl Try.underlying9 cellsS _ rfl
    have hy3 : some z3 = some y3 := hy3
    cases hy3
    have hy4 : some z4 = some y4 := hy4
    cases hy4
    obtain ⟨y5, hy5, hr5⟩ := field_read hy hf 5 _ rfl
    have hy5 : some z5 = some y5 := hy5
    cases hy5
    have hr5 : DataW.trod enc Try.prog w base spare held n 46 [c5, c6, c7, c8, c9, c10, c11, c12, c13] = some z5 := hr5
    obtain ⟨us, n5, hu1, hu2, hu3, huy, huf⟩ := DataW.trod_struct Try.underlying46 hr5
    obtain ⟨s0, rfl, g0⟩ := field_int huy huf 0 _ rfl Try.underlying3 cellsI _ rfl
    obtain ⟨s1, rfl, g1⟩ := field_int huy huf 1 _ rfl Try.underlying3 cellsI _ rfl
    obtain ⟨s2, rfl, g2⟩ := field_int huy huf 2 _ rfl Try.underlying3 cellsI _ rfl
    obtain ⟨s3, rfl, g3⟩ := field_int huy huf 3 _ rfl Try.underlying3 cellsI _ rfl
    obtain ⟨s4, rfl, g4⟩ := field_int huy huf 4 _ rfl Try.underlying3 cellsI _ rfl
    obtain ⟨s5, rfl, g5⟩ := field_int huy huf 5 _ rfl Try.underlying3 cellsI _ rfl
    obtain ⟨s6, rfl, g6⟩ := field_int huy huf 6 _ rfl Try.underlying3 cellsI _ rfl
    obtain ⟨s7, rfl, g7⟩ := field_int huy huf 7 _ rfl Try.underlying3 cellsI _ rfl
    obtain ⟨s8, rfl, g8⟩ := field_int huy huf 8 _ rfl Try.underlying3 cellsI _ rfl
    have b5 : 9 ≤ Rows.uptoBulk z5.1 := by
      have h1 := bulkAll_len (us.map (·.1))
      have h2 : us.length = 9 := huy
      rw [List.length_map, h2] at h1
      rw [hu2]
      simp only [Rows.uptoBulk]
      omega
    obtain ⟨y6, hy6, hr6⟩ := field_read hy hf 6 _ rfl
    have hy6 : some z6 = some y6 := hy6
    cases hy6
    have hr6 : DataW.trod enc Try.prog w base spare held n 34 [c14] = some z6 := hr6
    obtain ⟨a6, cap6, l6, q6, rd6, ok6, b6⟩ := open_acls hr6
    simp only [List.cons.injEq, and_true] at q6
    subst q6
    obtain ⟨y7, hy7, hr7⟩ := field_read hy hf 7 _ rfl
    have hy7 : some z7 = some y7 := hy7
    cases hy7
    have hr7 : DataW.trod enc Try.prog w base spare held n 47 [c15] = some z7 := hr7
    obtain ⟨a7, cap7, l7, q7, rd7, b7⟩ := open_texts hr7
    simp only [List.cons.injEq, and_true] at q7
    subst q7
    obtain ⟨y8, hy8, hr8⟩ := field_read hy hf 8 _ rfl
    have hy8 : some z8 = some y8 := hy8
    cases hy8
    have hr8 : DataW.trod enc Try.prog w base spare held n 48 [c16] = some z8 := hr8
    obtain ⟨a8, cap8, l8, q8, rd8, ok8, b8'⟩ := open_replies hr8
    simp only [List.cons.injEq, and_true] at q8
    subst q8
    refine ⟨⟨⟨x0, x1, x2, x3, x4, s0, s1, s2, s3, s4, s5, s6, s7, s8, l6, a6, cap6, l7, a7, cap7, a8, l8.length, cap8⟩, l8⟩, rfl, ⟨⟨int_wf h0, int_wf h1, int_wf h2, int_wf g0, int_wf g1, int_wf g2, int_wf g3, int_wf g4, int_wf g5, int_wf g6, int_wf g7, int_wf g8, rd6, ok6, rd7⟩, rfl, rd8, ok8⟩, ?_⟩
    rw [hx2]
    simp only [List.map_cons, List.map_nil, Rows.uptoBulk, Rows.uptoBulkAll, e3, e4]
    have b0 := bulk_pos z0.1
    have b1 := bulk_pos z1.1
    have b2 := bulk_pos z2.1
    have b8 := bulk_pos z8.1
    have k1 : (numsB [x0, x1, x2]).length ≤ 30 := numsB_len [x0, x1, x2] (by intro t ht; simp only [List.mem_cons, List.not_mem_nil, or_false] at ht; rcases ht with rfl | rfl | rfl <;> first | exact int_wf h0 | exact int_wf h1 | exact int_wf h2)
    have k2 : (numsB [s0, s1, s2, s3, s4, s5, s6, s7, s8]).length ≤ 90 := numsB_len [s0, s1, s2, s3, s4, s5, s6, s7, s8] (by intro t ht; simp only [List.mem_cons, List.not_mem_nil, or_false] at ht; rcases ht with rfl | rfl | rfl | rfl | rfl | rfl | rfl | rfl | rfl <;> first | exact int_wf g0 | exact int_wf g1 | exact int_wf g2 | exact int_wf g3 | exact int_wf g4 | exact int_wf g5 | exact int_wf g6 | exact int_wf g7 | exact int_wf g8)
    have t3 := txt_len m3
    have t4 := txt_len m4
    show (numsB [x0, x1, x2] ++ txtB x3 ++ txtB x4 ++ numsB [s0, s1, s2, s3, s4, s5, s6, s7, s8] ++ listB Acl.bytes l6 ++ listB txtB l7 ++ listB Ans.bytes l8).length ≤ _
    simp only [List.length_append]
    omega

theorem open_rep {v : Value} {d : DataW H} {p : List MemPlace} {base' : Nat} (k : DataW.Trod enc Try.prog w base spare held 50 v d p) (o : Value.okWide Try.prog w .any base' 50 v) :
    ∃ x : Rep, v = .agg x.cells.toArray ∧ x.ok w ∧ x.bytes.length ≤ 10 * Rows.uptoBulk d := by
  obtain ⟨f, k⟩ := k
  obtain ⟨cs, rfl, hl⟩ := okWide_struct Try.underlying50 o
  have hl : cs.toList.length = 17 := by rw [Array.length_toList, hl, cellsRep]
  obtain ⟨q, hq, hok⟩ := open_Rep f _ _ hl k
  exact ⟨q, by rw [← hq], hok⟩
end
end Go.Proofs.Ytmbkbkfcbloafaa
