/-
  AclMays, walked.
  Conditions: rows and people lie in the world; the table of math/bits lies in the world; rows and people fit.
-/
import Derived.Test.YtamacndbkjpkaaaDoorAclAny
import Derived.Laws.StructEq
import Derived.BigQuiet
namespace Go.Proofs.YtamacndbkjpkaaaDoor
open Go.RowKit
set_option linter.unusedSectionVars false
set_option linter.unusedSimpArgs false
set_option linter.unusedVariables false
set_option maxRecDepth 100000

theorem src_spare (w : World) : Rd (w.alloc (.cells #[.string ⟨#[115, 112, 97, 114, 101]⟩] 9)) 1 (some ⟨w.heap.size, 0, none⟩) 1 1 [.string ⟨#[115, 112, 97, 114, 101]⟩] :=
  Rd.strs [⟨#[115, 112, 97, 114, 101]⟩] (heap_alloc_new w _) rfl (by simp [maxLen])
theorem src_77 (w : World) : Rd (w.alloc (.cells #[.int .i64 77, .string ByteArray.empty] 27)) 2 (some ⟨w.heap.size, 0, none⟩) 1 1 [.int .i64 77, .string ByteArray.empty] :=
  Rd.rows [(77, ByteArray.empty)] (heap_alloc_new w _) rfl (by simp [maxLen])

theorem st_next {w0 w1 w2 : World} {L : List Thing} {E k n cap : Nat} {a : Option Addr} {cs : List Value} (h : St w0 w1 L) (hS : Sl w2 E k a n cap cs) (hM : Mod (fun b => own none = some b) w1 w2) (hF : ∀ b, own a = some b → own none = some b ∨ (w1.heap.size ≤ b ∧ b < w2.heap.size)) :
    St w0 w2 (sl E k a n cap cs :: L) :=
  h.newSlice (hM.mono (fun x _ hx => by simp [own] at hx)) hS fun b hb => by
    rcases hF b hb with h | h
    · simp [own] at h
    · exact h.1
theorem st_first {w0 w1 w2 : World} {E k n cap : Nat} {a : Option Addr} {cs : List Value} (h : Old w0 w1) (hS : Sl w2 E k a n cap cs) (hM : Mod (fun b => own none = some b) w1 w2) (hF : ∀ b, own a = some b → own none = some b ∨ (w1.heap.size ≤ b ∧ b < w2.heap.size)) :
    St w0 w2 [sl E k a n cap cs] := st_next (St.begin h) hS hM hF

theorem take_front {α : Type} {xs ys : List α} {n : Nat} (h : xs.length = n) : (xs ++ ys).take n = xs := by rw [← h, List.take_left]
theorem last_row {w : World} {b o n cap : Nat} {cs : List Value} {u v : Value} (h : Rd w 2 (some ⟨b, o, none⟩) (n + 1) cap (cs ++ [u, v])) (hl : cs.length = n * 2) : w.cell? ⟨b, o + n * 2, none⟩ = some u ∧ w.cell? ⟨b, o + n * 2 + 1, none⟩ = some v := by
  obtain ⟨_, _, _, ⟨h, _⟩ | ⟨y, hy, hc⟩⟩ := h
  · cases h
  · cases hy
    have h0 := hc (n * 2) u (by rw [List.getElem?_append_right (by omega), hl, Nat.sub_self]; rfl)
    have h1 := hc (n * 2 + 1) v (by rw [List.getElem?_append_right (by omega), hl, Nat.add_sub_cancel_left]; rfl)
    rw [add_none] at h0 h1
    exact ⟨h0, by rw [Nat.add_assoc]; exact h1⟩
theorem last_str {w : World} {b o n cap : Nat} {cs : List Value} {u : Value} (h : Rd w 1 (some ⟨b, o, none⟩) (n + 1) cap (cs ++ [u])) (hl : cs.length = n * 1) : w.cell? ⟨b, o + n, none⟩ = some u := by
  obtain ⟨_, _, _, ⟨h, _⟩ | ⟨y, hy, hc⟩⟩ := h
  · cases h
  · cases hy
    have h0 := hc n u (by rw [List.getElem?_append_right (by omega), hl, Nat.mul_one, Nat.sub_self]; rfl)
    rw [add_none] at h0
    exact h0

set_option maxHeartbeats 4000000 in
theorem mays_any (a : Option Addr) (n cap : Nat) (l : List ARow) (p : Int) (ia : Option Addr) (m icap : Nat) (ids : List ByteArray) (w : World) (hT : Tab w)
    (hr : Rd w 2 a n cap (l.flatMap ARow.cells)) (hn : l.length = n) (hn24 : n * 24 ≤ 140737488351232) (hi : Rd w 1 ia m icap (ids.flatMap strC)) (hm : ids.length = m) (hm16 : m * 16 ≤ 140737488351232) :
    Calls Tryd.prog 4 #[.slice a n cap, .int .i64 p, .slice ia m icap] w (CopyPost (.bool true) w) := by
  have hl63 := hr.le
  have hm63 := hi.le
  have cA := awake_any w hT
  obtain ⟨ip, hi1, hi2, hi3, hi4⟩ := parts_of infoStr
  obtain ⟨iq, hj1, hj2, hj3, hj4⟩ := parts_of infoAcl
  have HI := Lib.hid (And.intro hi1 (And.intro hi2 (And.intro hi3 hi4)))
  have HJ := Lib.hid (And.intro hj1 (And.intro hj2 (And.intro hj3 hj4)))
  have HR := Lib.hid hr
  have HN := Lib.hid hn
  have HIR := Lib.hid hi
  have HM := Lib.hid hm
  clear hT hr hn hi hm hi1 hi2 hi3 hi4 hj1 hj2 hj3 hj4
  go_enter Tryd.func4, Tryd.ntmps4
  go_wp2_with (first
    | (go_at_call 8; refine cA.mono ?_; rintro e w1 ⟨rfl, hO1⟩; have T1 := Lib.hid hO1; clear cA)
    | (at_builtin; refine wpList_append 27 iq _ 2 24 (by kernel_rfl) HJ.out.1 HJ.out.2.1 HJ.out.2.2.1 HJ.out.2.2.2 rfl none 0 0 [] rfl (Sl.nil _ _ _) a n cap _ rfl (HR.out.mod T1.out (fun _ _ h => h)) (arow_one l) (by unfold maxLen; omega) (by omega) ?_; rw [Nat.zero_add, List.nil_append]; intro a2 cap2 w2 hS2 hM2 hF2 hN2 hR2; have HSt2 := Lib.hid (st_first hO1 hS2 hM2 hF2); clear hN2 hR2 T1 hS2 hM2 hF2)
    | (at_builtin; refine wpList_append 27 iq _ 2 24 (by kernel_rfl) HJ.out.1 HJ.out.2.1 HJ.out.2.2.1 HJ.out.2.2.2 rfl a2 n cap2 _ rfl ((HSt2.out.mod ((Mod.refl _ _).alloc _)).slice 0 rfl) (some ⟨w2.heap.size, 0, none⟩) 1 1 _ rfl (src_77 w2) (by intro u hu; simp only [List.mem_cons, List.not_mem_nil, or_false] at hu; rcases hu with rfl | rfl <;> rfl) (by unfold maxLen; omega) (by omega) ?_; intro a3 cap3 w3 hS3 hM3 hF3 hN3 hR3; have HSt3 := Lib.hid ((HSt2.out.mod ((Mod.refl _ w2).alloc (.cells #[.int .i64 77, .string ByteArray.empty] 27))).regrow 0 rfl hS3 hM3 hF3); obtain ⟨ob, oo, oc, rfl, hob, hofit⟩ := hS3.block (by omega); have hnc := hS3.2.1; have hcm := hS3.2.2.1; unfold maxLen at hcm; clear HSt2 hob hofit hS3 hM3 hF3 hN3 hR3)
    | (at_builtin; refine wpList_append 9 ip _ 1 16 (by kernel_rfl) HI.out.1 HI.out.2.1 HI.out.2.2.1 HI.out.2.2.2 rfl none 0 0 [] rfl (Sl.nil _ _ _) ia m icap _ rfl (HIR.out.mod HSt3.out.1 (fun _ _ h => h)) (str_one ids) (by unfold maxLen; omega) (by omega) ?_; rw [Nat.zero_add, List.nil_append]; intro a4 cap4 w4 hS4 hM4 hF4 hN4 hR4; have HSt4 := Lib.hid (st_next HSt3.out hS4 hM4 hF4); clear hN4 hR4 HSt3 hS4 hM4 hF4)
    | (at_builtin; refine wpList_append 9 ip _ 1 16 (by kernel_rfl) HI.out.1 HI.out.2.1 HI.out.2.2.1 HI.out.2.2.2 rfl a4 m cap4 _ rfl ((HSt4.out.mod ((Mod.refl _ _).alloc _)).slice 0 rfl) (some ⟨w4.heap.size, 0, none⟩) 1 1 _ rfl (src_spare w4) (by intro u hu; simp only [List.mem_singleton] at hu; subst hu; rfl) (by unfold maxLen; omega) (by omega) ?_; intro a5 cap5 w5 hS5 hM5 hF5 hN5 hR5; have HSt5 := Lib.hid ((HSt4.out.mod ((Mod.refl _ w4).alloc (.cells #[.string ⟨#[115, 112, 97, 114, 101]⟩] 9))).regrow 0 rfl hS5 hM5 hF5); obtain ⟨nb, no', nc, rfl, hnb, hnfit⟩ := hS5.block (by omega); have hmc := hS5.2.1; have hcm5 := hS5.2.2.1; unfold maxLen at hcm5; clear HSt4 hnb hnfit hS5 hM5 hF5 hN5 hR5)
    | (go_at_call 11; have hS5 := HSt5.out; simp only [List.set_cons_zero, List.set_cons_succ] at hS5; have hq1 := ((hS5.slice 1 rfl).upto n (Nat.le_succ n)).rd; have hq2 := ((hS5.slice 0 rfl).upto m (Nat.le_succ m)).rd; rw [take_front HR.out.1] at hq1; rw [take_front HIR.out.1] at hq2; refine (may_any _ n cap3 l p _ m cap5 ids w5 hq1 HN.out hq2 HM.out).mono ?_; rintro e w6 ⟨rfl, hO6⟩; have hS6 := hS5.mod hO6; obtain ⟨e0, e1⟩ := last_row (hS6.slice 1 rfl).rd HR.out.1; have e2 := last_str (hS6.slice 0 rfl).rd HIR.out.1; have HS6 := Lib.hid hS6; clear hS5 HSt5 hq1 hq2 hO6 hS6))
  generalize hV : may l p ids = V
  have HV := Lib.hid hV
  clear hV
  obtain ⟨LST, hLST⟩ : ∃ LST, [sl 9 1 (some ⟨nb, no', none⟩) (m + 1) cap5 (ids.flatMap strC ++ [.string ⟨#[115, 112, 97, 114, 101]⟩]), sl 27 2 (some ⟨ob, oo, none⟩) (n + 1) cap3 (l.flatMap ARow.cells ++ [.int .i64 77, .string ByteArray.empty])] = LST := ⟨_, rfl⟩
  have hSS := HS6.out
  have hL1 : LST[1]? = some (sl 27 2 (some ⟨ob, oo, none⟩) (n + 1) cap3 (l.flatMap ARow.cells ++ [.int .i64 77, .string ByteArray.empty])) := by rw [← hLST]; rfl
  have hL0 : LST[0]? = some (sl 9 1 (some ⟨nb, no', none⟩) (m + 1) cap5 (ids.flatMap strC ++ [.string ⟨#[115, 112, 97, 114, 101]⟩])) := by rw [← hLST]; rfl
  have hS0 : St w w6 LST := by rw [← hLST]; exact hSS
  have HL0 := Lib.hid hL0
  have HL1 := Lib.hid hL1
  have HS0 := Lib.hid hS0
  clear hL0 hL1 hS0 hSS hLST HS6 e0 e1 e2
  go_loopg [11, 12] n (fun g y11 y12 wr => ∃ k : Nat, k + g = n ∧ y12 = .int .i64 k ∧ y11 = .bool true ∧ St w wr LST)
  case atStart => exact ⟨0, by omega, rfl, rfl, HS0.out⟩
  case round =>
    obtain ⟨k, hk, rfl, rfl, hS⟩ := hrel
    by_cases hlt : k < n
    · have hx : l[k]? = some (l[k]'(HN.out ▸ hlt)) := List.getElem?_eq_getElem _
      obtain ⟨x, hxx⟩ : ∃ x, l[k]'(HN.out ▸ hlt) = x := ⟨_, rfl⟩
      rw [hxx] at hx
      obtain ⟨g, s⟩ := x
      have hq1 := ((hS.slice 1 HL1.out).upto n (Nat.le_succ n)).rd
      rw [take_front HR.out.1] at hq1
      obtain ⟨b', o', hb', hbl', d0, d1⟩ := hq1.row hx
      simp only [Option.some.injEq, Addr.mk.injEq] at hb'
      obtain ⟨rfl, rfl, -⟩ := hb'
      obtain ⟨b, o, rfl, hbl, c0, c1⟩ := (HR.out.mod hS.1 (fun _ _ h => h)).row hx
      have HS := Lib.hid hS
      clear hx hxx hq1 hS
      have hss : (s.toList == s.toList) = true := by simp
      have hgg : (g == g) = true := by simp
      go_wp2
      go_quiet (fail)
      go_wp2
      go_roundg (gk - 1)
      case measure => omega
      case rel => exact ⟨k + 1, by omega, by simp, rfl, HS.out.drewN _⟩
    · have HS := Lib.hid hS
      clear hS
      go_wp2
      go_loopg [11, 13] m (fun g y11 y13 wx => ∃ j : Nat, j + g = m ∧ y13 = .int .i64 j ∧ y11 = .bool true ∧ St w wx LST)
      case atStart => exact ⟨0, by omega, rfl, rfl, HS.out⟩
      case round =>
        obtain ⟨j, hj, rfl, rfl, hS⟩ := hrel
        by_cases hlt2 : j < m
        · have hx : ids[j]? = some (ids[j]'(HM.out ▸ hlt2)) := List.getElem?_eq_getElem _
          obtain ⟨s, hxx⟩ : ∃ x, ids[j]'(HM.out ▸ hlt2) = x := ⟨_, rfl⟩
          rw [hxx] at hx
          have hq1 := ((hS.slice 0 HL0.out).upto m (Nat.le_succ m)).rd
          rw [take_front HIR.out.1] at hq1
          obtain ⟨b', o', hb', hbl', d0⟩ := hq1.str hx
          simp only [Option.some.injEq, Addr.mk.injEq] at hb'
          obtain ⟨rfl, rfl, -⟩ := hb'
          obtain ⟨b, o, rfl, hbl, c0⟩ := (HIR.out.mod hS.1 (fun _ _ h => h)).str hx
          have HS2 := Lib.hid hS
          clear hx hxx hq1 hS
          have hss : (s.toList == s.toList) = true := by simp
          go_wp2
          go_quiet (fail)
          go_wp2
          go_roundg (gk - 1)
          case measure => omega
          case rel => exact ⟨j + 1, by omega, by simp, rfl, HS2.out.drewN _⟩
        · have cR := refMay_any a n cap l p ia m icap ids _ (HR.out.mod hS.1 (fun _ _ h => h)) HN.out (HIR.out.mod hS.1 (fun _ _ h => h)) HM.out
          rw [HV.out] at cR
          have HS2 := Lib.hid hS
          clear hS
          go_wp2_with (go_at_call 12; refine cR.mono ?_; rintro e w9 ⟨rfl, hO9⟩)
          all_goals
            go_ret
            exact ⟨by first | rfl | (cases V <;> rfl), Old.join HS2.out.1 hO9⟩
end Go.Proofs.YtamacndbkjpkaaaDoor
