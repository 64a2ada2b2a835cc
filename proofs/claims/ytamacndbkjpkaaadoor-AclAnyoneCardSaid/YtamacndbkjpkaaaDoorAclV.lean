/-
  The rows of an ACL: Right and the document's Right.
  Conditions: the rows lie in the world; each text is not longer than any text is.
-/
import Derived.Test.YtamacndbkjpkaaaDoorAclU
namespace Go.Proofs.YtamacndbkjpkaaaDoor
open Go.RowKit
set_option linter.unusedSectionVars false
set_option linter.unusedSimpArgs false
set_option linter.unusedVariables false

def okR (r : ARow) : Bool := decide (1 ≤ r.1) && decide (r.1 ≤ 31) && isIDL r.2
def ARow.fit (r : ARow) : Prop := (-9223372036854775808 ≤ r.1 ∧ r.1 ≤ 9223372036854775807) ∧ r.2.size ≤ maxLen
def rightL (l : List ARow) : Bool := decide (1 ≤ l.length) && decide (l.length ≤ 4) && l.all okR

theorem sizeR : (Tryd.prog.info? 27).map (·.size) = some 2 := by kernel_rfl

set_option maxHeartbeats 1000000 in
theorem right1_any (r : ARow) (hr : r.fit) (w : World) : Calls Tryd.prog 15 #[.agg r.cells.toArray] w (CopyPost (.bool (!okR r)) w) := by
  obtain ⟨p, s⟩ := r
  obtain ⟨-, hs⟩ := hr
  have cI := fun w => isID_any s hs w
  simp only [ARow.cells, okR]
  by_cases h1 : 1 ≤ p
  · by_cases h2 : p ≤ 31
    · have z1 : ¬ p < 1 := by omega
      have z2 : ¬ (31 : Int) < p := by omega
      rw [decide_eq_true h1, decide_eq_true h2, Bool.true_and, Bool.true_and]
      generalize isIDL s = V at cI ⊢
      go_enter Tryd.func15, Tryd.ntmps15
      go_wp2_with (go_at_call 16; refine (cI _).mono ?_; rintro e w' ⟨rfl, hb⟩)
      go_ret
      exact ⟨rfl, ((Old.rfl' w).alloc _).trans hb (fun _ _ h => h) (fun _ _ h => h)⟩
    · have z1 : ¬ p < 1 := by omega
      have z2 : (31 : Int) < p := by omega
      rw [decide_eq_false h2, Bool.and_false, Bool.false_and]
      go_enter Tryd.func15, Tryd.ntmps15
      go_wp2
      go_ret
      exact ⟨rfl, (Old.rfl' w).alloc _⟩
  · have z1 : p < 1 := by omega
    rw [decide_eq_false h1, Bool.false_and, Bool.false_and]
    go_enter Tryd.func15, Tryd.ntmps15
    go_wp2
    go_ret
    exact ⟨rfl, (Old.rfl' w).alloc _⟩

/-- What a reading of rows gives at one of them. -/
theorem Rd.row {w : World} {a : Option Addr} {n cap : Nat} {l : List ARow} (h : Rd w 2 a n cap (l.flatMap ARow.cells)) {i : Nat} {x : ARow} (hx : l[i]? = some x) :
    ∃ b o, a = some ⟨b, o, none⟩ ∧ b < w.heap.size ∧ w.cell? ⟨b, o + i * 2, none⟩ = some (.int .i64 x.1) ∧ w.cell? ⟨b, o + i * 2 + 1, none⟩ = some (.string x.2) := by
  obtain ⟨b, o, rfl, hb, hc⟩ := h.elem (k := 2) ARow.cells (fun _ => rfl) (by omega) hx
  exact ⟨b, o, rfl, hb, by have := hc 0 _ rfl; simpa using this, hc 1 _ rfl⟩

theorem row_chunk {w : World} {b o : Nat} {x : ARow} (h0 : w.cell? ⟨b, o, none⟩ = some (.int .i64 x.1)) (h1 : w.cell? ⟨b, o + 1, none⟩ = some (.string x.2)) :
    ∀ j u, x.cells[j]? = some u → w.cell? ((⟨b, o, none⟩ : Addr).add j) = some u := by
  intro j u hu
  rw [add_none]
  match j, hu with
  | 0, hu => simp [ARow.cells] at hu; subst hu; exact h0
  | 1, hu => simp [ARow.cells] at hu; subst hu; exact h1
  | j + 2, hu => simp [ARow.cells] at hu

theorem all_snoc {α : Type} (f : α → Bool) {L : List α} {k : Nat} {t : α} (h : L[k]? = some t) : (L.take (k + 1)).all f = ((L.take k).all f && f t) := by
  obtain ⟨hk, rfl⟩ := List.getElem?_eq_some_iff.1 h
  rw [List.take_succ_eq_append_getElem hk, List.all_append]
  simp
theorem all_no {α : Type} (f : α → Bool) {L : List α} {k : Nat} {t : α} (h : L[k]? = some t) (hf : f t = false) : L.all f = false := by
  rw [Bool.eq_false_iff]
  intro hx
  rw [List.all_eq_true.1 hx t (List.mem_of_getElem? h)] at hf
  cases hf

set_option maxHeartbeats 1000000 in
theorem indexRow_any (a : Option Addr) (n cap : Nat) (l : List ARow) (w : World) (hr : Rd w 2 a n cap (l.flatMap ARow.cells)) (hn : l.length = n) (hf : ∀ r ∈ l, r.fit) :
    Calls Tryd.prog 29 #[.slice a n cap, .func (.func 15) #[] #[]] w fun e w' => ∃ i : Int, e = .returned (.int .i64 i) ∧ (decide (0 ≤ i) = !l.all okR) ∧ Old w w' := by
  have hl63 : n ≤ 2 ^ 63 - 1 := by have := hr.2.1; have := hr.2.2.1; unfold maxLen at this; omega
  have eg : ∀ args w, (callFunc 15 args).run Tryd.prog w = .ok (.enter 15 args) w := enters_of Tryd.func15 (by kernel_rfl) rfl
  have HR := Lib.hid hr
  have HN := Lib.hid hn
  have HF := Lib.hid hf
  clear hr hn hf
  go_enter Tryd.func29, Tryd.ntmps29
  go_wp2
  go_loopg [8] n (fun g y wr => ∃ k : Nat, k + g = n ∧ y = .int .i64 k ∧ Old w wr ∧ (l.take k).all okR = true)
  case atStart => exact ⟨0, by omega, rfl, Old.rfl' _, by simp⟩
  case round =>
    obtain ⟨k, hkg, rfl, hb, hall⟩ := hrel
    by_cases hlt : k < n
    · have hx : l[k]? = some (l[k]'(HN.out ▸ hlt)) := List.getElem?_eq_getElem _
      obtain ⟨x, hxx⟩ : ∃ x, l[k]'(HN.out ▸ hlt) = x := ⟨_, rfl⟩
      rw [hxx] at hx
      have cR := right1_any x (HF.out x (List.mem_of_getElem? hx)) wr
      obtain ⟨b, o, rfl, hbl, c0, c1⟩ := (HR.out.mod hb (fun _ _ h => h)).row hx
      have HX := Lib.hid hx
      have HC := Lib.hid (row_chunk c0 c1)
      have HA := Lib.hid hall
      clear hx hxx c0 c1 hall
      cases hv : okR x
      all_goals
        rw [hv] at cR
        go_wp2_with (first | ((with_reducible refine at_list ?_); refine wpList_load_chunk 2 _ Tryd.underlying27 rfl sizeR ⟨b, o + k * 2, none⟩ rfl x.cells rfl HC.out ?_) | (go_at_fn 15; refine cR.mono ?_; rintro e w' ⟨rfl, hb2⟩))
      · go_ret
        exact ⟨_, rfl, by rw [all_no okR HX.out hv]; simp, hb.join hb2⟩
      · go_roundg (gk - 1)
        case measure => omega
        case rel => exact ⟨k + 1, by omega, by simp, hb.join hb2, by rw [all_snoc okR HX.out, HA.out, hv]; rfl⟩
    · have hk : k = n := by omega
      have ha : l.all okR = true := by rw [← hall, hk, ← HN.out, List.take_length]
      clear hall
      go_wp2
      go_ret
      exact ⟨-1, rfl, by rw [ha]; rfl, hb⟩

theorem containsRow_any (a : Option Addr) (n cap : Nat) (l : List ARow) (w : World) (hr : Rd w 2 a n cap (l.flatMap ARow.cells)) (hn : l.length = n) (hf : ∀ r ∈ l, r.fit) :
    Calls Tryd.prog 17 #[.slice a n cap, .func (.func 15) #[] #[]] w (CopyPost (.bool (!l.all okR)) w) := by
  have cI := indexRow_any a n cap l w hr hn hf
  clear hr hn hf
  go_enter Tryd.func17, Tryd.ntmps17
  go_wp2_with (go_at_call 29; refine cI.mono ?_; rintro e w' ⟨i, rfl, hi, hb⟩)
  go_ret
  exact ⟨by rw [← hi]; rfl, hb⟩

theorem right_any (a : Option Addr) (n cap : Nat) (l : List ARow) (w : World) (hr : Rd w 2 a n cap (l.flatMap ARow.cells)) (hn : l.length = n) (hf : ∀ r ∈ l, r.fit) :
    Calls Tryd.prog 9 #[.slice a n cap] w (CopyPost (.bool (rightL l)) w) := by
  have hl63 : n ≤ 2 ^ 63 - 1 := by have := hr.2.1; have := hr.2.2.1; unfold maxLen at this; omega
  have cI := containsRow_any a n cap l w hr hn hf
  clear hr hf
  rw [rightL, hn]
  by_cases h1 : 1 ≤ n
  · have z1 : (0 : Int) < (n : Int) := by omega
    by_cases h4 : n ≤ 4
    · have z4 : (n : Int) ≤ 4 := by omega
      rw [decide_eq_true h1, decide_eq_true h4, Bool.true_and, Bool.true_and]
      generalize l.all okR = V at cI ⊢
      go_enter Tryd.func9, Tryd.ntmps9
      go_wp2_with (go_at_call 17; refine cI.mono ?_; rintro e w' ⟨rfl, hb⟩)
      go_ret
      exact ⟨by cases V <;> rfl, hb⟩
    · have z4 : ¬ (n : Int) ≤ 4 := by omega
      rw [decide_eq_false h4, Bool.and_false, Bool.false_and]
      go_enter Tryd.func9, Tryd.ntmps9
      go_wp2
      go_ret
      exact ⟨rfl, Old.rfl' _⟩
  · have z1 : ¬ (0 : Int) < (n : Int) := by omega
    rw [decide_eq_false h1, Bool.false_and, Bool.false_and]
    go_enter Tryd.func9, Tryd.ntmps9
    go_wp2
    go_ret
    exact ⟨rfl, Old.rfl' _⟩

set_option maxHeartbeats 1000000 in
theorem refRight_any (a : Option Addr) (n cap : Nat) (l : List ARow) (w : World) (hr : Rd w 2 a n cap (l.flatMap ARow.cells)) (hn : l.length = n) (hf : ∀ r ∈ l, r.fit) :
    Calls Tryd.prog 10 #[.slice a n cap] w (CopyPost (.bool (rightL l)) w) := by
  have hl63 : n ≤ 2 ^ 63 - 1 := by have := hr.2.1; have := hr.2.2.1; unfold maxLen at this; omega
  rw [rightL, hn]
  by_cases h1 : 1 ≤ n
  · have z1 : ¬ (n : Int) < 1 := by omega
    by_cases h4 : n ≤ 4
    · have z4 : ¬ (4 : Int) < (n : Int) := by omega
      rw [decide_eq_true h1, decide_eq_true h4, Bool.true_and, Bool.true_and]
      have HR := Lib.hid hr
      have HN := Lib.hid hn
      have HF := Lib.hid hf
      clear hr hn hf
      go_enter Tryd.func10, Tryd.ntmps10
      go_wp2
      go_loopg [3] n (fun g y wr => ∃ k : Nat, k + g = n ∧ y = .int .i64 k ∧ Old w wr ∧ (l.take k).all okR = true)
      case atStart => exact ⟨0, by omega, rfl, Old.rfl' _, by simp⟩
      case round =>
        obtain ⟨k, hkg, rfl, hb, hall⟩ := hrel
        by_cases hlt : k < n
        · have hx : l[k]? = some (l[k]'(HN.out ▸ hlt)) := List.getElem?_eq_getElem _
          obtain ⟨x, hxx⟩ : ∃ x, l[k]'(HN.out ▸ hlt) = x := ⟨_, rfl⟩
          rw [hxx] at hx
          obtain ⟨p, s⟩ := x
          have cR := IsID_any s (HF.out _ (List.mem_of_getElem? hx)).2 wr
          obtain ⟨b, o, rfl, hbl, c0, c1⟩ := (HR.out.mod hb (fun _ _ h => h)).row hx
          have HX := Lib.hid hx
          have HA := Lib.hid hall
          clear hx hxx hall
          have hv : okR (p, s) = (decide (1 ≤ p) && decide (p ≤ 31) && isIDL s) := rfl
          generalize isIDL s = V at hv cR
          have hS : ∀ w', Old wr w' → w'.cell? ⟨b, o + k * 2, none⟩ = some (.int .i64 p) := fun w' hm => hm.cell c0 (fun h => h)
          have HV := Lib.hid hv
          clear hv
          by_cases hp1 : 1 ≤ p <;> by_cases hp2 : p ≤ 31 <;> cases V
          all_goals first | (exfalso; omega) | skip
          all_goals
            have zp1 : (p < 1) = ¬ (1 ≤ p) := by apply propext; omega
            have zp2 : (31 < p) = ¬ (p ≤ 31) := by apply propext; omega
            have hvx := HV.out
            simp only [hp1, hp2, decide_true, decide_false, Bool.true_and, Bool.false_and, Bool.and_false] at hvx
            have HV2 := Lib.hid hvx
            clear HV hvx
            go_wp2_with (go_at_call 18; refine cR.mono ?_; rintro e w' ⟨rfl, hb2⟩; have c2 := hS _ hb2)
          all_goals first
            | (go_ret
               exact ⟨by rw [all_no okR HX.out HV2.out] <;> rfl, hb.join hb2⟩)
            | (go_roundg (gk - 1)
               case measure => omega
               case rel => exact ⟨k + 1, by omega, by simp, hb.join hb2, by rw [all_snoc okR HX.out, HA.out, HV2.out]; rfl⟩)
        · have hk : k = n := by omega
          have ha : l.all okR = true := by rw [← hall, hk, ← HN.out, List.take_length]
          clear hall
          go_wp2
          go_ret
          exact ⟨by rw [ha] <;> rfl, hb⟩
    · have z4 : (4 : Int) < (n : Int) := by omega
      rw [decide_eq_false h4, Bool.and_false, Bool.false_and]
      go_enter Tryd.func10, Tryd.ntmps10
      go_wp2
      go_ret
      exact ⟨rfl, Old.rfl' _⟩
  · have z1 : (n : Int) < 1 := by omega
    rw [decide_eq_false h1, Bool.false_and, Bool.false_and]
    go_enter Tryd.func10, Tryd.ntmps10
    go_wp2
    go_ret
    exact ⟨rfl, Old.rfl' _⟩
end Go.Proofs.YtamacndbkjpkaaaDoor
