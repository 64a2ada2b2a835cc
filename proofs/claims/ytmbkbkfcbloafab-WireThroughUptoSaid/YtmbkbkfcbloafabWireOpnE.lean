/-
  The arguments of the laws of package wire, opened: entries.
  No condition.
-/
import Derived.Test.YtmbkbkfcbloafabWireO
import Derived.Test.YtmbkbkfcbloafabJbase
import Derived.Test.YtmbkbkfcbloafabRows
namespace Go.Proofs.Ytmbkbkfcbloafab
open Go.ChangeShapes Go.WideShapes Go.ChangeAt Go.RowKit Go.Deep
set_option linter.unusedSectionVars false
set_option linter.unusedSimpArgs false
set_option linter.unusedVariables false
set_option maxRecDepth 100000

/-- A transaction with its list. -/
structure TxnL where
  t : Txn
  subs : List Txn
def TxnL.cells (x : TxnL) : List Value := x.t.cells
def TxnL.bytes (x : TxnL) : List UInt8 := x.t.bytes ++ listB Txn.bytes x.subs
structure TxnL.ok (w : World) (x : TxnL) : Prop where
  t : x.t.ok w
  n : x.t.subsN = x.subs.length
  rd : Rd w 8 x.t.subsA x.subs.length x.t.subsC (x.subs.flatMap Txn.cells)
  all : ∀ a ∈ x.subs, Txn.ok w a

theorem laidOut : laidOutB Try.prog = true := by kernel_rfl
theorem ownsNone : ownKnob Try.prog.godebug = none := by kernel_rfl
theorem cellsI : Try.prog.cellsOf 3 = 1 := by kernel_rfl
theorem cellsE : Try.prog.cellsOf 23 = 1 := by kernel_rfl
theorem cellsS : Try.prog.cellsOf 9 = 1 := by kernel_rfl
theorem cellsA : Try.prog.cellsOf 146 = 2 := by kernel_rfl
theorem cellsLA : Try.prog.cellsOf 22 = 1 := by kernel_rfl
theorem cellsLS : Try.prog.cellsOf 35 = 1 := by kernel_rfl
instance : Inhabited Acl := ⟨⟨0, ⟨#[]⟩⟩⟩

section
variable {H : Type} {enc : TypeId × Value → H} {w : World} {base : Nat} {spare : Nat → Bool} {held : Bool}

theorem bulk_pos (d : DataW H) : 1 ≤ Rows.uptoBulk d := by
  cases d with
  | lit l => cases l <;> simp [Rows.uptoBulk]
  | _ => simp [Rows.uptoBulk]
theorem bulkAll_len : ∀ l : List (DataW H), l.length ≤ Rows.uptoBulkAll l
  | [] => Nat.zero_le _
  | d :: l => by
    have h1 := bulk_pos d
    have h2 := bulkAll_len l
    simp only [Rows.uptoBulkAll, List.length_cons]
    omega
theorem bulkAll_list {α : Type} (f : α → List UInt8) : ∀ (l : List α) (D : List (DataW H)), D.length = l.length → (∀ (i : Nat) (p : α) (d : DataW H), l[i]? = some p → D[i]? = some d → (f p).length ≤ 10 * Rows.uptoBulk d) → (l.flatMap f).length ≤ 10 * Rows.uptoBulkAll D
  | [], [], _, _ => by simp
  | [], _ :: _, h, _ => by simp at h
  | _ :: _, [], h, _ => by simp at h
  | p :: l, d :: D, h, ho => by
    have h1 := ho 0 p d rfl rfl
    have h2 := bulkAll_list f l D (by simpa using h) (fun i p d hp hd => ho (i + 1) p d (by simpa using hp) (by simpa using hd))
    rw [List.flatMap_cons, List.length_append]
    simp only [Rows.uptoBulkAll]
    omega
theorem sev_len {n : Nat} (h : n ≤ maxLen) : (sevens n).length ≤ 10 := sevens_length 10 n (by unfold maxLen at h; have : (128 : Nat) ^ 10 = 1180591620717411303424 := by decide
                                                                                              omega) (by omega)
theorem txt_len {s : ByteArray} (h : s.size ≤ maxLen) : (txtB s).length ≤ s.data.toList.length + 10 := by
  have := sev_len h
  unfold txtB
  rw [List.length_append]
  omega
theorem list_bulk {α : Type} {f : α → List UInt8} {l : List α} {x : DataW H} {D D' : List (DataW H)} (hm : l.length ≤ maxLen) (hx : x = .nil ∧ l = [] ∧ D = [] ∨ x = .slice D D') (hD : D.length = l.length)
    (ho : ∀ (i : Nat) (p : α) (d : DataW H), l[i]? = some p → D[i]? = some d → (f p).length ≤ 10 * Rows.uptoBulk d) : (listB f l).length ≤ 10 * Rows.uptoBulk x := by
  have h1 := sev_len hm
  have h2 := bulkAll_list f l D hD ho
  unfold listB
  rw [List.length_append]
  rcases hx with ⟨rfl, rfl, rfl⟩ | rfl
  · simp only [Rows.uptoBulkAll, Rows.uptoBulk] at h2 ⊢
    omega
  · simp only [Rows.uptoBulk]
    omega
theorem open_hdr {t e : TypeId} {fuel : Nat} {cs : List Value} {x : DataW H × List MemPlace} (ht : Try.prog.underlying t = some (.slice e)) (h : DataW.trod enc Try.prog w base spare held fuel t cs = some x) : ∃ a n cap, cs = [.slice a n cap] := by
  rcases open_slice ht h with ⟨rfl, rfl⟩ | ⟨a, len, cap, m, n, D, Pl, rfl, hb, hl, hm, hmm, rfl, hx⟩
  · exact ⟨none, 0, 0, rfl⟩
  · exact ⟨some a, len, cap, rfl⟩

theorem open_Acl (fuel : Nat) (cs : List Value) (x : DataW H × List MemPlace) (hl : cs.length = 2) (h : DataW.trod enc Try.prog w base spare held fuel 146 cs = some x) :
    ∃ p : Acl, cs = p.cells ∧ (p.ok w ∧ p.bytes.length ≤ 10 * Rows.uptoBulk x.1) := by
  obtain ⟨ys, n, hx1, hx2, hx3, hy, hf⟩ := DataW.trod_struct Try.underlying146 h
  obtain ⟨z0, z1, rfl⟩ : ∃ z0 z1, ys = [z0, z1] := by
    match ys, hy with
    | [z0, z1], _ => exact ⟨z0, z1, rfl⟩
  match cs, hl with
  | [c0, c1], _ =>
    obtain ⟨x0, rfl, h0⟩ := field_int hy hf 0 _ rfl Try.underlying3 cellsI _ rfl
    obtain ⟨x1, rfl, m1, y1, hy1, e1⟩ := field_string hy hf 1 _ rfl Try.underlying9 cellsS _ rfl
    have hy1 : some z1 = some y1 := hy1
    cases hy1
    refine ⟨⟨x0, x1⟩, rfl, int_wf h0, ?_⟩
    rw [hx2]
    simp only [List.map_cons, List.map_nil, Rows.uptoBulk, Rows.uptoBulkAll, e1]
    have b0 := bulk_pos z0.1
    have n0 : (numB x0).length ≤ 10 := numB_len (int_wf h0)
    have t1 := txt_len m1
    show (numB x0 ++ txtB x1).length ≤ _
    rw [List.length_append]
    omega
theorem open_acls {fuel : Nat} {cs : List Value} {x : DataW H × List MemPlace} (h : DataW.trod enc Try.prog w base spare held fuel 22 cs = some x) :
    ∃ (a : Option Addr) (cap : Nat) (l : List Acl), cs = [.slice a l.length cap] ∧ Rd w 2 a l.length cap (l.flatMap Acl.cells) ∧ (∀ p ∈ l, Acl.ok w p) ∧ (listB Acl.bytes l).length ≤ 10 * Rows.uptoBulk x.1 := by
  obtain ⟨a, cap, l, D, D', h1, hr, hx, hD, hok⟩ := open_rows cellsA (by omega) Acl.cells (fun _ => rfl) (fun p d => p.ok w ∧ p.bytes.length ≤ 10 * Rows.uptoBulk d) open_Acl Try.underlying22 h
  refine ⟨a, cap, l, h1, hr, fun p hp => ?_, list_bulk (Nat.le_trans hr.2.1 hr.2.2.1) hx hD fun i p d h1 h2 => (hok i p d h1 h2).2⟩
  obtain ⟨i, hi, rfl⟩ := List.mem_iff_getElem.1 hp
  exact (hok i l[i] (D[i]'(by omega)) (List.getElem?_eq_getElem hi) (List.getElem?_eq_getElem _)).1

set_option maxHeartbeats 2000000 in
theorem open_Txn (fuel : Nat) (cs : List Value) (x : DataW H × List MemPlace) (hl : cs.length = 8) (h : DataW.trod enc Try.prog w base spare held fuel 26 cs = some x) :
    ∃ p : Txn, cs = p.cells ∧ (p.ok w ∧ p.bytes.length ≤ 10 * Rows.uptoBulk x.1) := by
  obtain ⟨ys, n, hx1, hx2, hx3, hy, hf⟩ := DataW.trod_struct Try.underlying26 h
  obtain ⟨z0, z1, z2, z3, z4, z5, z6, z7, rfl⟩ : ∃ z0 z1 z2 z3 z4 z5 z6 z7, ys = [z0, z1, z2, z3, z4, z5, z6, z7] := by
    match ys, hy with
    | [z0, z1, z2, z3, z4, z5, z6, z7], _ => exact ⟨z0, z1, z2, z3, z4, z5, z6, z7, rfl⟩
  match cs, hl with
  | [c0, c1, c2, c3, c4, c5, c6, c7], _ =>
    obtain ⟨x0, rfl, h0⟩ := field_int hy hf 0 _ rfl Try.underlying3 cellsI _ rfl
    obtain ⟨x1, rfl, m1, y1, hy1, e1⟩ := field_string hy hf 1 _ rfl Try.underlying9 cellsS _ rfl
    have hy1 : some z1 = some y1 := hy1
    cases hy1
    obtain ⟨x2, rfl, m2, y2, hy2, e2⟩ := field_string hy hf 2 _ rfl Try.underlying9 cellsS _ rfl
    have hy2 : some z2 = some y2 := hy2
    cases hy2
    obtain ⟨y3, hy3, hr3⟩ := field_read hy hf 3 _ rfl
    have hy3 : some z3 = some y3 := hy3
    cases hy3
    have hr3 : DataW.trod enc Try.prog w base spare held n 22 [c3] = some z3 := hr3
    obtain ⟨a3, cap3, l3, q3, rd3, ok3, b3⟩ := open_acls hr3
    simp only [List.cons.injEq, and_true] at q3
    subst q3
    obtain ⟨x4, rfl, h4⟩ := field_int hy hf 4 _ rfl Try.underlying3 cellsI _ rfl
    obtain ⟨x5, rfl, h5⟩ := field_int hy hf 5 _ rfl Try.underlying3 cellsI _ rfl
    obtain ⟨x6, rfl, h6⟩ := field_int hy hf 6 _ rfl Try.underlying23 cellsE _ rfl
    obtain ⟨y7, hy7, hr7⟩ := field_read hy hf 7 _ rfl
    have hy7 : some z7 = some y7 := hy7
    cases hy7
    have hr7 : DataW.trod enc Try.prog w base spare held n 24 [c7] = some z7 := hr7
    obtain ⟨a7, n7, cap7, q7⟩ := open_hdr Try.underlying24 hr7
    simp only [List.cons.injEq, and_true] at q7
    subst q7
    refine ⟨⟨x0, x1, x2, l3, a3, cap3, x4, x5, x6, a7, n7, cap7⟩, rfl, ⟨int_wf h0, int_wf h4, int_wf h5, int_wf h6, rd3, ok3⟩, ?_⟩
    rw [hx2]
    simp only [List.map_cons, List.map_nil, Rows.uptoBulk, Rows.uptoBulkAll, e1, e2]
    have p0 := bulk_pos z0.1
    have p4 := bulk_pos z4.1
    have p5 := bulk_pos z5.1
    have p6 := bulk_pos z6.1
    have p7 := bulk_pos z7.1
    have k0 : (numB x0).length ≤ 10 := numB_len (int_wf h0)
    have k1 := txt_len m1
    have k2 := txt_len m2
    have k4 : (numsB [x4, x5, x6]).length ≤ 30 := numsB_len [x4, x5, x6] (by intro t ht; simp only [List.mem_cons, List.not_mem_nil, or_false] at ht; rcases ht with rfl | rfl | rfl <;> first | exact int_wf h4 | exact int_wf h5 | exact int_wf h6)
    show (numB x0 ++ txtB x1 ++ txtB x2 ++ listB Acl.bytes l3 ++ numsB [x4, x5, x6]).length ≤ _
    simp only [List.length_append]
    omega

instance : Inhabited Txn := ⟨⟨0, ⟨#[]⟩, ⟨#[]⟩, [], none, 0, 0, 0, 0, none, 0, 0⟩⟩
theorem cellsTxn : Try.prog.cellsOf 26 = 8 := by kernel_rfl
theorem open_txns {fuel : Nat} {cs : List Value} {x : DataW H × List MemPlace} (h : DataW.trod enc Try.prog w base spare held fuel 24 cs = some x) :
    ∃ (a : Option Addr) (cap : Nat) (l : List Txn), cs = [.slice a l.length cap] ∧ Rd w 8 a l.length cap (l.flatMap Txn.cells) ∧ (∀ p ∈ l, Txn.ok w p) ∧ (listB Txn.bytes l).length ≤ 10 * Rows.uptoBulk x.1 := by
  obtain ⟨a, cap, l, D, D', h1, hr, hx, hD, hok⟩ := open_rows cellsTxn (by omega) Txn.cells (fun _ => rfl) (fun p d => p.ok w ∧ p.bytes.length ≤ 10 * Rows.uptoBulk d) open_Txn Try.underlying24 h
  refine ⟨a, cap, l, h1, hr, fun p hp => ?_, list_bulk (Nat.le_trans hr.2.1 hr.2.2.1) hx hD fun i p d h1 h2 => (hok i p d h1 h2).2⟩
  obtain ⟨i, hi, rfl⟩ := List.mem_iff_getElem.1 hp
  exact (hok i l[i] (D[i]'(by omega)) (List.getElem?_eq_getElem hi) (List.getElem?_eq_getElem _)).1

set_option maxHeartbeats 2000000 in
theorem open_TxnL (fuel : Nat) (cs : List Value) (x : DataW H × List MemPlace) (hl : cs.length = 8) (h : DataW.trod enc Try.prog w base spare held fuel 26 cs = some x) :
    ∃ p : TxnL, cs = p.cells ∧ (p.ok w ∧ p.bytes.length ≤ 10 * Rows.uptoBulk x.1) := by
  obtain ⟨ys, n, hx1, hx2, hx3, hy, hf⟩ := DataW.trod_struct Try.underlying26 h
  obtain ⟨z0, z1, z2, z3, z4, z5, z6, z7, rfl⟩ : ∃ z0 z1 z2 z3 z4 z5 z6 z7, ys = [z0, z1, z2, z3, z4, z5, z6, z7] := by
    match ys, hy with
    | [z0, z1, z2, z3, z4, z5, z6, z7], _ => exact ⟨z0, z1, z2, z3, z4, z5, z6, z7, rfl⟩
  match cs, hl with
  | [c0, c1, c2, c3, c4, c5, c6, c7], _ =>
    obtain ⟨x0, rfl, h0⟩ := field_int hy hf 0 _ rfl Try.underlying3 cellsI _ rfl
    obtain ⟨x1, rfl, m1, y1, hy1, e1⟩ := field_string hy hf 1 _ rfl Try.underlying9 cellsS _ rfl
    have hy1 : some z1 = some y1 := hy1
    cases hy1
    obtain ⟨x2, rfl, m2, y2, hy2, e2⟩ := field_string hy hf 2 _ rfl Try.underlying9 cellsS _ rfl
    have hy2 : some z2 = some y2 := hy2
    cases hy2
    obtain ⟨y3, hy3, hr3⟩ := field_read hy hf 3 _ rfl
    have hy3 : some z3 = some y3 := hy3
    cases hy3
    have hr3 : DataW.trod enc Try.prog w base spare held n 22 [c3] = some z3 := hr3
    obtain ⟨a3, cap3, l3, q3, rd3, ok3, b3⟩ := open_acls hr3
    simp only [List.cons.injEq, and_true] at q3
    subst q3
    obtain ⟨x4, rfl, h4⟩ := field_int hy hf 4 _ rfl Try.underlying3 cellsI _ rfl
    obtain ⟨x5, rfl, h5⟩ := field_int hy hf 5 _ rfl Try.underlying3 cellsI _ rfl
    obtain ⟨x6, rfl, h6⟩ := field_int hy hf 6 _ rfl Try.underlying23 cellsE _ rfl
    obtain ⟨y7, hy7, hr7⟩ := field_read hy hf 7 _ rfl
    have hy7 : some z7 = some y7 := hy7
    cases hy7
    have hr7 : DataW.trod enc Try.prog w base spare held n 24 [c7] = some z7 := hr7
    obtain ⟨a7, cap7, l7, q7, rd7, ok7, b7⟩ := open_txns hr7
    simp only [List.cons.injEq, and_true] at q7
    subst q7
    refine ⟨⟨⟨x0, x1, x2, l3, a3, cap3, x4, x5, x6, a7, l7.length, cap7⟩, l7⟩, rfl, ⟨⟨int_wf h0, int_wf h4, int_wf h5, int_wf h6, rd3, ok3⟩, rfl, rd7, ok7⟩, ?_⟩
    rw [hx2]
    simp only [List.map_cons, List.map_nil, Rows.uptoBulk, Rows.uptoBulkAll, e1, e2]
    have p0 := bulk_pos z0.1
    have p4 := bulk_pos z4.1
    have p5 := bulk_pos z5.1
    have p6 := bulk_pos z6.1
    have k0 : (numB x0).length ≤ 10 := numB_len (int_wf h0)
    have k1 := txt_len m1
    have k2 := txt_len m2
    have k4 : (numsB [x4, x5, x6]).length ≤ 30 := numsB_len [x4, x5, x6] (by intro t ht; simp only [List.mem_cons, List.not_mem_nil, or_false] at ht; rcases ht with rfl | rfl | rfl <;> first | exact int_wf h4 | exact int_wf h5 | exact int_wf h6)
    show (numB x0 ++ txtB x1 ++ txtB x2 ++ listB Acl.bytes l3 ++ numsB [x4, x5, x6] ++ listB Txn.bytes l7).length ≤ _
    simp only [List.length_append]
    omega

set_option maxHeartbeats 2000000 in
theorem open_Ent (fuel : Nat) (cs : List Value) (x : DataW H × List MemPlace) (hl : cs.length = 11) (h : DataW.trod enc Try.prog w base spare held fuel 28 cs = some x) :
    ∃ p : Ent, cs = p.cells ∧ (p.ok w ∧ p.bytes.length ≤ 10 * Rows.uptoBulk x.1) := by
  obtain ⟨ys, n, hx1, hx2, hx3, hy, hf⟩ := DataW.trod_struct Try.underlying28 h
  obtain ⟨z0, z1, z2, z3, rfl⟩ : ∃ z0 z1 z2 z3, ys = [z0, z1, z2, z3] := by
    match ys, hy with
    | [z0, z1, z2, z3], _ => exact ⟨z0, z1, z2, z3, rfl⟩
  match cs, hl with
  | [c0, c1, c2, c3, c4, c5, c6, c7, c8, c9, c10], _ =>
    obtain ⟨x0, rfl, h0⟩ := field_int hy hf 0 _ rfl Try.underlying3 cellsI _ rfl
    obtain ⟨x1, rfl, h1⟩ := field_int hy hf 1 _ rfl Try.underlying3 cellsI _ rfl
    obtain ⟨x2, rfl, h2⟩ := field_int hy hf 2 _ rfl Try.underlying3 cellsI _ rfl
    obtain ⟨y3, hy3, hr3⟩ := field_read hy hf 3 _ rfl
    have hy3 : some z3 = some y3 := hy3
    cases hy3
    have hr3 : DataW.trod enc Try.prog w base spare held n 26 [c3, c4, c5, c6, c7, c8, c9, c10] = some z3 := hr3
    obtain ⟨⟨t, L⟩, q, ⟨k1, k2, k3, k4⟩, k5⟩ := open_TxnL n _ _ rfl hr3
    simp only [TxnL.cells, TxnL.bytes, Txn.cells, List.cons.injEq, and_true] at q k5
    obtain ⟨rfl, rfl, rfl, rfl, rfl, rfl, rfl, rfl⟩ := q
    refine ⟨⟨x0, x1, x2, t, L⟩, rfl, ⟨int_wf h0, int_wf h1, int_wf h2, k1, k2, k3, k4⟩, ?_⟩
    rw [hx2]
    simp only [List.map_cons, List.map_nil, Rows.uptoBulk, Rows.uptoBulkAll]
    have b0 := bulk_pos z0.1
    have b1 := bulk_pos z1.1
    have b2 := bulk_pos z2.1
    have e0 : (numsB [x0, x1, x2]).length ≤ 30 := numsB_len [x0, x1, x2] (by intro t ht; simp only [List.mem_cons, List.not_mem_nil, or_false] at ht; rcases ht with rfl | rfl | rfl <;> first | exact int_wf h0 | exact int_wf h1 | exact int_wf h2)
    show (numsB [x0, x1, x2] ++ t.bytes ++ listB Txn.bytes L).length ≤ _
    simp only [List.length_append] at k5 ⊢
    omega
theorem cellsEnt : Try.prog.cellsOf 28 = 11 := by kernel_rfl

theorem open_entry {v : Value} {d : DataW H} {p : List MemPlace} {base' : Nat} (k : DataW.Trod enc Try.prog w base spare held 28 v d p) (o : Value.okWide Try.prog w .any base' 28 v) :
    ∃ x : Ent, v = .agg x.cells.toArray ∧ x.ok w ∧ x.bytes.length ≤ 10 * Rows.uptoBulk d := by
  obtain ⟨f, k⟩ := k
  obtain ⟨cs, rfl, hl⟩ := okWide_struct Try.underlying28 o
  have hl : cs.toList.length = 11 := by rw [Array.length_toList, hl, cellsEnt]
  obtain ⟨q, hq, hok⟩ := open_Ent f _ _ hl k
  exact ⟨q, by rw [← hq], hok⟩
end
end Go.Proofs.Ytmbkbkfcbloafab
