/-
  May: the program's and the document's.
  Conditions: rows and people lie in the world.
-/
import Derived.Test.YtamacndbkjpkaaaDoorAclV
namespace Go.Proofs.YtamacndbkjpkaaaDoor
open Go.RowKit
set_option linter.unusedSectionVars false
set_option linter.unusedSimpArgs false
set_option linter.unusedVariables false

def strC (s : ByteArray) : List Value := [.string s]
theorem Rd.str {w : World} {a : Option Addr} {n cap : Nat} {l : List ByteArray} (h : Rd w 1 a n cap (l.flatMap strC)) {i : Nat} {x : ByteArray} (hx : l[i]? = some x) :
    ∃ b o, a = some ⟨b, o, none⟩ ∧ b < w.heap.size ∧ w.cell? ⟨b, o + i, none⟩ = some (.string x) := by
  obtain ⟨b, o, rfl, hb, hc⟩ := h.elem (k := 1) strC (fun _ => rfl) (by omega) hx
  exact ⟨b, o, rfl, hb, by have := hc 0 _ rfl; simpa using this⟩
theorem Rd.le {w : World} {k : Nat} {a : Option Addr} {n cap : Nat} {cs : List Value} (h : Rd w k a n cap cs) : n ≤ 2 ^ 63 - 1 := by
  have := h.2.1; have := h.2.2.1; unfold maxLen at this; omega

theorem any_snoc {α : Type} (f : α → Bool) {L : List α} {k : Nat} {t : α} (h : L[k]? = some t) : (L.take (k + 1)).any f = ((L.take k).any f || f t) := by
  obtain ⟨hk, rfl⟩ := List.getElem?_eq_some_iff.1 h
  rw [List.take_succ_eq_append_getElem hk, List.any_append]
  simp
theorem any_yes {α : Type} (f : α → Bool) {L : List α} {k : Nat} {t : α} (h : L[k]? = some t) (hf : f t = true) : L.any f = true :=
  List.any_eq_true.2 ⟨t, List.mem_of_getElem? h, hf⟩
theorem str_beq (s t : ByteArray) : (s.toList == t.toList) = decide (t = s) := by
  rw [Bool.eq_iff_iff]
  simp only [beq_iff_eq, decide_eq_true_eq, ByteArray.toList_eq]
  exact ⟨fun h => (ByteArray.ext (Array.toList_inj.1 h)).symm, fun h => h ▸ rfl⟩

def among (ids : List ByteArray) (v : ByteArray) : Bool := ids.any fun x => decide (x = v)
theorem hits_among (ids : List ByteArray) (r : ARow) : hits ids r = (decide (r.2 = world) || among ids r.2) := rfl

set_option maxHeartbeats 1000000 in
theorem indexStr_any (a : Option Addr) (n cap : Nat) (l : List ByteArray) (v : ByteArray) (w : World) (hr : Rd w 1 a n cap (l.flatMap strC)) (hn : l.length = n) :
    Calls Tryd.prog 30 #[.slice a n cap, .string v] w fun e w' => ∃ i : Int, e = .returned (.int .i64 i) ∧ (decide (0 ≤ i) = among l v) ∧ w' = w := by
  have hl63 := hr.le
  have HR := Lib.hid hr
  have HN := Lib.hid hn
  clear hr hn
  go_enter Tryd.func30, Tryd.ntmps30
  go_wp2
  go_loopg [8] n (fun g y wr => ∃ k : Nat, k + g = n ∧ y = .int .i64 k ∧ wr = w ∧ among (l.take k) v = false)
  case atStart => exact ⟨0, by omega, rfl, rfl, by simp [among]⟩
  case round =>
    obtain ⟨k, hkg, rfl, rfl, hall⟩ := hrel
    by_cases hlt : k < n
    · have hx : l[k]? = some (l[k]'(HN.out ▸ hlt)) := List.getElem?_eq_getElem _
      obtain ⟨x, hxx⟩ : ∃ x, l[k]'(HN.out ▸ hlt) = x := ⟨_, rfl⟩
      rw [hxx] at hx
      obtain ⟨b, o, rfl, hbl, c0⟩ := HR.out.str hx
      have HX := Lib.hid hx
      have HA := Lib.hid hall
      have hbq := str_beq v x
      clear hx hxx hall
      by_cases hv : x = v
      · rw [decide_eq_true hv] at hbq
        go_wp2
        go_ret
        exact ⟨_, rfl, by rw [show among l v = true from any_yes _ HX.out (decide_eq_true hv)]; simp, rfl⟩
      · rw [decide_eq_false hv] at hbq
        go_wp2
        go_roundg (gk - 1)
        case measure => omega
        case rel =>
          refine ⟨k + 1, by omega, by simp, rfl, ?_⟩
          have := any_snoc (fun x => decide (x = v)) HX.out
          rw [decide_eq_false hv, Bool.or_false] at this
          exact this.trans HA.out
    · have hk : k = n := by omega
      have ha : among l v = false := by rw [← hall, hk, ← HN.out, List.take_length]
      clear hall
      go_wp2
      go_ret
      exact ⟨-1, rfl, by rw [ha]; rfl, rfl⟩

theorem contains_any (a : Option Addr) (n cap : Nat) (l : List ByteArray) (v : ByteArray) (w : World) (hr : Rd w 1 a n cap (l.flatMap strC)) (hn : l.length = n) :
    Calls Tryd.prog 19 #[.slice a n cap, .string v] w (RetPost (.bool (among l v)) w) := by
  have cI := indexStr_any a n cap l v w hr hn
  clear hr hn
  go_enter Tryd.func19, Tryd.ntmps19
  go_wp2_with (go_at_call 30; refine cI.mono ?_; rintro e w' ⟨i, rfl, hi, rfl⟩)
  go_ret
  exact ⟨by rw [← hi]; rfl, rfl⟩

theorem fold_snoc {α β : Type} (f : β → α → β) (z : β) {L : List α} {k : Nat} {t : α} (h : L[k]? = some t) : (L.take (k + 1)).foldl f z = f ((L.take k).foldl f z) t := by
  obtain ⟨hk, rfl⟩ := List.getElem?_eq_some_iff.1 h
  rw [List.take_succ_eq_append_getElem hk, List.foldl_append]
  rfl

set_option maxHeartbeats 2000000 in
theorem may_any (a : Option Addr) (n cap : Nat) (l : List ARow) (p : Int) (ia : Option Addr) (m icap : Nat) (ids : List ByteArray) (w : World)
    (hr : Rd w 2 a n cap (l.flatMap ARow.cells)) (hn : l.length = n) (hi : Rd w 1 ia m icap (ids.flatMap strC)) (hm : ids.length = m) :
    Calls Tryd.prog 11 #[.slice a n cap, .int .i64 p, .slice ia m icap] w (CopyPost (.bool (may l p ids)) w) := by
  have hl63 := hr.le
  have hC : ∀ (W : World) (v : ByteArray), Old w W → Calls Tryd.prog 19 #[.slice ia m icap, .string v] W (RetPost (.bool (among ids v)) W) :=
    fun W v hW => contains_any ia m icap ids v W (hi.mod hW (fun _ _ h => h)) hm
  have HR := Lib.hid hr
  have HN := Lib.hid hn
  have HCC := Lib.hid hC
  clear hr hn hi hm hC
  go_enter Tryd.func11, Tryd.ntmps11
  go_wp2
  go_loopg [7, 12] n (fun g x y wr => ∃ k : Nat, k + g = n ∧ y = .int .i64 k ∧ Old w wr ∧ x = .int .i64 ((l.take k).foldl (gives ids) 0))
  case atStart => exact ⟨0, by omega, rfl, Old.rfl' _, rfl⟩
  case round =>
    obtain ⟨k, hkg, rfl, hb, rfl⟩ := hrel
    by_cases hlt : k < n
    · have hx : l[k]? = some (l[k]'(HN.out ▸ hlt)) := List.getElem?_eq_getElem _
      obtain ⟨x, hxx⟩ : ∃ x, l[k]'(HN.out ▸ hlt) = x := ⟨_, rfl⟩
      rw [hxx] at hx
      obtain ⟨g, s⟩ := x
      obtain ⟨b, o, rfl, hbl, c0, c1⟩ := (HR.out.mod hb (fun _ _ h => h)).row hx
      have hF := fold_snoc (gives ids) 0 hx
      have HF := Lib.hid hF
      have HC := Lib.hid (row_chunk c0 c1)
      clear hx hxx c0 c1 hF
      generalize (l.take k).foldl (gives ids) 0 = G at HF ⊢
      by_cases hw : s = world
      · subst hw
        have hg : gives ids G (g, world) = bits .or .i64 G g := by
          rw [gives, if_pos]
          rw [hits_among]; simp
        have HG := Lib.hid hg
        clear hg
        go_wp2_with (first | ((with_reducible refine at_list ?_); refine wpList_load_chunk 2 _ Tryd.underlying27 rfl sizeR ⟨b, o + k * 2, none⟩ rfl (ARow.cells (g, ⟨#[119, 111, 114, 108, 100]⟩)) rfl HC.out ?_) | (refine wpList_store_whole 2 sizeR wr.heap.size rfl _ _ (heap_alloc_new wr _) rfl (ARow.cells (g, ⟨#[119, 111, 114, 108, 100]⟩)) rfl rfl (by kernel_rfl) ?_; intro w8 hb8 hm8 hz8; have q0 : w8.cell? ⟨wr.heap.size, 0, none⟩ = some (.int .i64 g) := blk_cell hb8 0 _ rfl; have q1 : w8.cell? ⟨wr.heap.size, 1, none⟩ = some (.string ⟨#[119, 111, 114, 108, 100]⟩) := blk_cell hb8 1 _ rfl; have hO : Old w w8 := (hb.alloc _).then hm8 (fun x hx h => by have := hb.size; omega); clear hb8 hm8 hz8; generalize wr.heap.size = nb at q0 q1 ⊢))
        go_roundg (gk - 1)
        case measure => omega
        case rel => exact ⟨k + 1, by omega, by simp, hO, by rw [HF.out, HG.out]⟩
      · have hne : (s.toList == [119, 111, 114, 108, 100]) = false := toList_beq hw
        cases hv : among ids s
        · have hg : gives ids G (g, s) = G := by
            rw [gives, if_neg]
            rw [hits_among]; simp [hw, hv]
          have HG := Lib.hid hg
          clear hg
          go_wp2_with (first | ((with_reducible refine at_list ?_); refine wpList_load_chunk 2 _ Tryd.underlying27 rfl sizeR ⟨b, o + k * 2, none⟩ rfl (ARow.cells (g, s)) rfl HC.out ?_) | (refine wpList_store_whole 2 sizeR wr.heap.size rfl _ _ (heap_alloc_new wr _) rfl (ARow.cells (g, s)) rfl rfl (by kernel_rfl) ?_; intro w8 hb8 hm8 hz8; have q0 : w8.cell? ⟨wr.heap.size, 0, none⟩ = some (.int .i64 g) := blk_cell hb8 0 _ rfl; have q1 : w8.cell? ⟨wr.heap.size, 1, none⟩ = some (.string s) := blk_cell hb8 1 _ rfl; have hO : Old w w8 := (hb.alloc _).then hm8 (fun x hx h => by have := hb.size; omega); have cC := HCC.out w8 s hO; rw [hv] at cC; clear hb8 hm8 hz8; generalize wr.heap.size = nb at q0 q1 ⊢) | (go_at_call 19; refine cC.mono ?_; rintro e w9 ⟨rfl, rfl⟩))
          go_roundg (gk - 1)
          case measure => omega
          case rel => exact ⟨k + 1, by omega, by simp, hO, by rw [HF.out, HG.out]⟩
        · have hg : gives ids G (g, s) = bits .or .i64 G g := by
            rw [gives, if_pos]
            rw [hits_among]; simp [hv]
          have HG := Lib.hid hg
          clear hg
          go_wp2_with (first | ((with_reducible refine at_list ?_); refine wpList_load_chunk 2 _ Tryd.underlying27 rfl sizeR ⟨b, o + k * 2, none⟩ rfl (ARow.cells (g, s)) rfl HC.out ?_) | (refine wpList_store_whole 2 sizeR wr.heap.size rfl _ _ (heap_alloc_new wr _) rfl (ARow.cells (g, s)) rfl rfl (by kernel_rfl) ?_; intro w8 hb8 hm8 hz8; have q0 : w8.cell? ⟨wr.heap.size, 0, none⟩ = some (.int .i64 g) := blk_cell hb8 0 _ rfl; have q1 : w8.cell? ⟨wr.heap.size, 1, none⟩ = some (.string s) := blk_cell hb8 1 _ rfl; have hO : Old w w8 := (hb.alloc _).then hm8 (fun x hx h => by have := hb.size; omega); have cC := HCC.out w8 s hO; rw [hv] at cC; clear hb8 hm8 hz8; generalize wr.heap.size = nb at q0 q1 ⊢) | (go_at_call 19; refine cC.mono ?_; rintro e w9 ⟨rfl, rfl⟩))
          go_roundg (gk - 1)
          case measure => omega
          case rel => exact ⟨k + 1, by omega, by simp, hO, by rw [HF.out, HG.out]⟩
    · have hk : k = n := by omega
      have ha : (l.take k).foldl (gives ids) 0 = given ids l := by rw [hk, ← HN.out, List.take_length]; rfl
      have hv : may l p ids = (decide (0 ≤ p) && decide (p ≤ 31) && decide (bits .andNot .i64 p (given ids l) = 0)) := rfl
      rw [ha]
      generalize given ids l = G at hv ⊢
      have HV := Lib.hid hv
      clear ha hv
      by_cases h1 : 0 ≤ p
      · by_cases h2 : p ≤ 31
        · go_wp2
          go_ret
          exact ⟨by rw [HV.out, decide_eq_true h1, decide_eq_true h2] <;> rfl, hb⟩
        · go_wp2
          go_ret
          exact ⟨by rw [HV.out, decide_eq_false (show ¬ p ≤ 31 by omega), Bool.and_false, Bool.false_and] <;> rfl, hb⟩
      · go_wp2
        go_ret
        exact ⟨by rw [HV.out, decide_eq_false (show ¬ 0 ≤ p by omega), Bool.false_and, Bool.false_and] <;> rfl, hb⟩
end Go.Proofs.YtamacndbkjpkaaaDoor
