/-
  take: an item taken up by the program's reader and by the document's: they say the same.
  Conditions: both stand at the same place of the same text.
-/
import Derived.Test.YtecckgapdpmegaaCodecY
import Derived.Test.YtecckgapdpmegaaCodecOpen
import Derived.Deep.RegionHeld3
namespace Go.Proofs.Ytecckgapdpmegaa
open Go.RowKit
set_option linter.unusedSectionVars false
set_option linter.unusedSimpArgs false
set_option linter.unusedVariables false

/-- A reader of the document's, among things side by side. -/
def drt (pb : Nat) (B : ByteArray) (s : RS) : Thing := .bx pb (drc B s) 37

theorem St.dread {w0 w : World} {pb : Nat} {B : ByteArray} {s s' : RS} {v : Value} {l : List Thing} {f : FuncId} {args : Array Value} (h : St w0 w (drt pb B s :: l)) (hok : s.ok B.size) (hf : bfits B.size)
    (hc : DrAt w pb B s → Calls Try.prog f args w (DrTo v w pb B s')) : Calls Try.prog f args w (StPost v w0 (drt pb B s' :: l)) := by
  obtain ⟨F1, ⟨hh, hF⟩, ht⟩ := h.turn
  refine (hc ⟨hh, hok, hf⟩).mono ?_
  rintro e w' ⟨rfl, hr, hm, hz⟩
  exact ⟨rfl, ht w' (drt pb B s') F1 (hm.mono (fun x _ hx => (hF x).2 hx)) ⟨hr.1, hF⟩ (fun x hx => .inl hx)⟩

section
variable {w0 w : World} {pb : Nat} {B : ByteArray} {s : RS} {l : List Thing}
theorem dnum_st (h : St w0 w (drt pb B s :: l)) (hok : s.ok B.size) (hf : bfits B.size) :
    Calls Try.prog 33 #[.pointer (some ⟨pb, 0, none⟩)] w (StPost (.int .i64 (rnum B.data.toList s).1) w0 (drt pb B (rnum B.data.toList s).2 :: l)) :=
  h.dread hok hf fun hd => dnum_any pb B s w hd
theorem dflag_st (h : St w0 w (drt pb B s :: l)) (hok : s.ok B.size) (hf : bfits B.size) :
    Calls Try.prog 34 #[.pointer (some ⟨pb, 0, none⟩)] w (StPost (.bool (rflag B.data.toList s).1) w0 (drt pb B (rflag B.data.toList s).2 :: l)) :=
  h.dread hok hf fun hd => dflag_any pb B s w hd
theorem dcount_st (h : St w0 w (drt pb B s :: l)) (hok : s.ok B.size) (hf : bfits B.size) (most : Int) (h0 : -9223372036854775808 ≤ most) (h1 : most ≤ 9223372036854775807) :
    Calls Try.prog 36 #[.pointer (some ⟨pb, 0, none⟩), .int .i64 most] w (StPost (.int .i64 (rcount B.data.toList most s).1) w0 (drt pb B (rcount B.data.toList most s).2 :: l)) :=
  h.dread hok hf fun hd => dcount_any pb B s w hd most h0 h1
theorem dtext_st (h : St w0 w (drt pb B s :: l)) (hok : s.ok B.size) (hf : bfits B.size) (most : Int) (h0 : -9223372036854775808 ≤ most) (h1 : most ≤ 9223372036854775807) :
    Calls Try.prog 35 #[.pointer (some ⟨pb, 0, none⟩), .int .i64 most] w (StPost (.string ⟨(rtext B.data.toList most s).1.toArray⟩) w0 (drt pb B (rtext B.data.toList most s).2 :: l)) :=
  h.dread hok hf fun hd => dtext_any pb B s w hd most h0 h1
theorem dfail_st (h : St w0 w (drt pb B s :: l)) (hok : s.ok B.size) (hf : bfits B.size) :
    Calls Try.prog 38 #[.pointer (some ⟨pb, 0, none⟩)] w (StPost (.tuple #[]) w0 (drt pb B (s.fail 11) :: l)) :=
  h.dread hok hf fun hd => dfail_any pb B s w hd
theorem dend_st (h : St w0 w (drt pb B s :: l)) (hok : s.ok B.size) (hf : bfits B.size) :
    Calls Try.prog 17 #[.pointer (some ⟨pb, 0, none⟩)] w (StPost (.int .i64 (rend B.data.toList s).wr) w0 (drt pb B (rend B.data.toList s) :: l)) :=
  h.dread hok hf fun hd => dend_any pb B s w hd
end

/-- What an item does to a reader. -/
def takeS (bs : List UInt8) (x : It) (s : RS) : RS :=
  if x.kind = 1 then (rnum bs s).2 else if x.kind = 2 then (rflag bs s).2 else if x.kind = 3 then (rtext bs x.n s).2 else if x.kind = 4 then (rcount bs x.n s).2
  else if x.kind = 5 then s.fail 11 else if x.kind = 6 then rend bs s else s

def TakePost (w0 : World) (rb db : Nat) (B : ByteArray) (s : RS) (l : List Thing) (e : Ending) (w' : World) : Prop :=
  e = .returned (.bool true) ∧ ∃ t, St w0 w' (.rd rb B.data.toList s :: drt db B s :: t :: l)

set_option maxRecDepth 100000 in
theorem take_st {w0 w : World} {rb db : Nat} {B : ByteArray} {s : RS} {l : List Thing} (h : St w0 w (.rd rb B.data.toList s :: drt db B s :: l)) (hf : bfits B.size) (x : It) (hx : It.ok x) :
    Calls Try.prog 15 #[.pointer (some ⟨rb, 0, none⟩), .pointer (some ⟨db, 0, none⟩), .agg x.cells.toArray] w (TakePost w0 rb db B (takeS B.data.toList x s) l) := by
  obtain ⟨kind, n, is, t⟩ := x
  simp only [It.cells]
  have h0 := hx.1.1
  have h1 := hx.1.2
  have hok : s.ok B.size := by have := h.rok; rw [toList_size] at this; exact this
  have hS := St.perm (h.alloc #[.int .i64 kind, .int .i64 n, .bool is, .string t] 29) (l' := .rd rb B.data.toList s :: drt db B s :: .bx w.heap.size #[.int .i64 kind, .int .i64 n, .bool is, .string t] 29 :: l)
    ((List.Perm.swap _ _ _).trans (List.Perm.cons _ (.swap _ _ _)))
  have HF := Lib.hid hf
  have HO := Lib.hid hok
  clear h hf hok hx
  go_enter Try.func15, Try.ntmps15
  by_cases q1 : kind = 1
  · have HL : Hid (takeS B.data.toList ⟨kind, n, is, t⟩ s = (rnum B.data.toList s).2) := by show _ = _; simp only [takeS]; rw [if_pos q1]
    have g1 : (kind == 1) = true := by simpa using q1
    clear q1
    go_wp2_with fail
    refine (rnum_st hS).mono ?_
    clear hS
    rintro e w5 ⟨rfl, hS⟩
    go_wp2_with fail
    refine (dnum_st hS.swap HO.out HF.out).mono ?_
    clear hS
    rintro e w6 ⟨rfl, hS⟩
    go_wp2
    go_ret
    rw [HL.out]
    exact ⟨by simp, _, hS.swap⟩
  by_cases q2 : kind = 2
  · have HL : Hid (takeS B.data.toList ⟨kind, n, is, t⟩ s = (rflag B.data.toList s).2) := by show _ = _; simp only [takeS]; rw [if_neg q1, if_pos q2]
    have g1 : (kind == 1) = false := by simpa using q1
    have g2 : (kind == 2) = true := by simpa using q2
    clear q1 q2
    go_wp2_with fail
    refine (rflag_st hS).mono ?_
    clear hS
    rintro e w5 ⟨rfl, hS⟩
    go_wp2_with fail
    refine (dflag_st hS.swap HO.out HF.out).mono ?_
    clear hS
    rintro e w6 ⟨rfl, hS⟩
    go_wp2
    go_ret
    rw [HL.out]
    exact ⟨by simp, _, hS.swap⟩
  by_cases q3 : kind = 3
  · have HL : Hid (takeS B.data.toList ⟨kind, n, is, t⟩ s = (rtext B.data.toList n s).2) := by show _ = _; simp only [takeS]; rw [if_neg q1, if_neg q2, if_pos q3]
    have g1 : (kind == 1) = false := by simpa using q1
    have g2 : (kind == 2) = false := by simpa using q2
    have g3 : (kind == 3) = true := by simpa using q3
    clear q1 q2 q3
    go_wp2_with fail
    generalize w.alloc (.cells #[.int .i64 kind, .int .i64 n, .bool is, .string t] 29) = W at hS ⊢
    generalize w.heap.size = tb at hS ⊢
    have cW := blk_cell (hS.box (List.mem_cons_of_mem _ (List.mem_cons_of_mem _ (List.mem_cons_self ..)))) 1 _ rfl
    have zW := heap_lt (hS.box (List.mem_cons_of_mem _ (List.mem_cons_of_mem _ (List.mem_cons_self ..))))
    have HS := Lib.hid hS
    clear hS
    go_region_held3 (fun w' => w'.cell? ⟨tb, 1, none⟩ = some (.int .i64 n)) (first | exact cW | exact c5 | exact c6 | go_keep)
      ((first
        | (go_at_call 20; refine (rtext_st (HS.out.mod ((Mod.refl _ _).drewN _)) n h0 h1).mono ?_; rintro e w5 ⟨rfl, hS5⟩; have c5 := blk_cell (hS5.box (List.mem_cons_of_mem _ (List.mem_cons_of_mem _ (List.mem_cons_self ..)))) 1 _ rfl)
        | (go_at_call 35; refine (dtext_st hS5.swap HO.out HF.out n h0 h1).mono ?_; rintro e w6 ⟨rfl, hS6⟩; have c6 := blk_cell (hS6.box (List.mem_cons_of_mem _ (List.mem_cons_of_mem _ (List.mem_cons_self ..)))) 1 _ rfl)))
    go_wp2
    go_ret
    rw [HL.out]
    exact ⟨by simp, _, hS6.swap⟩
  by_cases q4 : kind = 4
  · have HL : Hid (takeS B.data.toList ⟨kind, n, is, t⟩ s = (rcount B.data.toList n s).2) := by show _ = _; simp only [takeS]; rw [if_neg q1, if_neg q2, if_neg q3, if_pos q4]
    have g1 : (kind == 1) = false := by simpa using q1
    have g2 : (kind == 2) = false := by simpa using q2
    have g3 : (kind == 3) = false := by simpa using q3
    have g4 : (kind == 4) = true := by simpa using q4
    clear q1 q2 q3 q4
    go_wp2_with fail
    generalize w.alloc (.cells #[.int .i64 kind, .int .i64 n, .bool is, .string t] 29) = W at hS ⊢
    generalize w.heap.size = tb at hS ⊢
    have cW := blk_cell (hS.box (List.mem_cons_of_mem _ (List.mem_cons_of_mem _ (List.mem_cons_self ..)))) 1 _ rfl
    have zW := heap_lt (hS.box (List.mem_cons_of_mem _ (List.mem_cons_of_mem _ (List.mem_cons_self ..))))
    have HS := Lib.hid hS
    clear hS
    go_region_held3 (fun w' => w'.cell? ⟨tb, 1, none⟩ = some (.int .i64 n)) (first | exact cW | exact c5 | exact c6 | go_keep)
      ((first
        | (go_at_call 21; refine (rcount_st (HS.out.mod ((Mod.refl _ _).drewN _)) n h0 h1).mono ?_; rintro e w5 ⟨rfl, hS5⟩; have c5 := blk_cell (hS5.box (List.mem_cons_of_mem _ (List.mem_cons_of_mem _ (List.mem_cons_self ..)))) 1 _ rfl)
        | (go_at_call 36; refine (dcount_st hS5.swap HO.out HF.out n h0 h1).mono ?_; rintro e w6 ⟨rfl, hS6⟩; have c6 := blk_cell (hS6.box (List.mem_cons_of_mem _ (List.mem_cons_of_mem _ (List.mem_cons_self ..)))) 1 _ rfl)))
    go_wp2
    go_ret
    rw [HL.out]
    exact ⟨by simp, _, hS6.swap⟩
  by_cases q5 : kind = 5
  · have HL : Hid (takeS B.data.toList ⟨kind, n, is, t⟩ s = s.fail 11) := by show _ = _; simp only [takeS]; rw [if_neg q1, if_neg q2, if_neg q3, if_neg q4, if_pos q5]
    have g1 : (kind == 1) = false := by simpa using q1
    have g2 : (kind == 2) = false := by simpa using q2
    have g3 : (kind == 3) = false := by simpa using q3
    have g4 : (kind == 4) = false := by simpa using q4
    have g5 : (kind == 5) = true := by simpa using q5
    clear q1 q2 q3 q4 q5
    go_wp2_with fail
    refine (rfail_st hS).mono ?_
    clear hS
    rintro e w5 ⟨rfl, hS⟩
    go_wp2_with fail
    refine (dfail_st hS.swap HO.out HF.out).mono ?_
    clear hS
    rintro e w6 ⟨rfl, hS⟩
    go_wp2
    go_ret
    rw [HL.out]
    exact ⟨rfl, _, hS.swap⟩
  by_cases q6 : kind = 6
  · have HL : Hid (takeS B.data.toList ⟨kind, n, is, t⟩ s = rend B.data.toList s) := by show _ = _; simp only [takeS]; rw [if_neg q1, if_neg q2, if_neg q3, if_neg q4, if_neg q5, if_pos q6]
    have g1 : (kind == 1) = false := by simpa using q1
    have g2 : (kind == 2) = false := by simpa using q2
    have g3 : (kind == 3) = false := by simpa using q3
    have g4 : (kind == 4) = false := by simpa using q4
    have g5 : (kind == 5) = false := by simpa using q5
    have g6 : (kind == 6) = true := by simpa using q6
    clear q1 q2 q3 q4 q5 q6
    go_wp2_with fail
    refine (rend_st hS).mono ?_
    clear hS
    rintro e w5 ⟨rfl, hS⟩
    go_wp2_with fail
    refine (dend_st hS.swap HO.out HF.out).mono ?_
    clear hS
    rintro e w6 ⟨rfl, hS⟩
    go_wp2
    go_ret
    rw [HL.out]
    exact ⟨by simp, _, hS.swap⟩
  have HL : Hid (takeS B.data.toList ⟨kind, n, is, t⟩ s = s) := by show _ = _; simp only [takeS]; rw [if_neg q1, if_neg q2, if_neg q3, if_neg q4, if_neg q5, if_neg q6]
  have g1 : (kind == 1) = false := by simpa using q1
  have g2 : (kind == 2) = false := by simpa using q2
  have g3 : (kind == 3) = false := by simpa using q3
  have g4 : (kind == 4) = false := by simpa using q4
  have g5 : (kind == 5) = false := by simpa using q5
  have g6 : (kind == 6) = false := by simpa using q6
  clear q1 q2 q3 q4 q5 q6
  go_wp2
  go_ret
  rw [HL.out]
  exact ⟨rfl, _, hS⟩
end Go.Proofs.Ytecckgapdpmegaa
