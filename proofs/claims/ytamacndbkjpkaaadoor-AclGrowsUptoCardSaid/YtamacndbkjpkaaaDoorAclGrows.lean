/-
  AclGrows, walked.
  Conditions: rows and people lie in the world; the table of math/bits lies in the world; at most 1048576 of each.
-/
import Derived.Test.YtamacndbkjpkaaaDoorAclMays
import Derived.StillTailTactics
namespace Go.Proofs.YtamacndbkjpkaaaDoor
open Go.RowKit
set_option linter.unusedSectionVars false
set_option linter.unusedSimpArgs false
set_option linter.unusedVariables false
set_option maxRecDepth 100000

theorem src_row (w : World) (x : ARow) : Rd (w.alloc (.cells #[.int .i64 x.1, .string x.2] 27)) 2 (some ⟨w.heap.size, 0, none⟩) 1 1 [.int .i64 x.1, .string x.2] :=
  Rd.rows [x] (heap_alloc_new w _) rfl (by simp [maxLen])
theorem src_two (w : World) (x : ByteArray) : Rd (w.alloc (.cells #[.string x, .string x] 9)) 1 (some ⟨w.heap.size, 0, none⟩) 2 2 [.string x, .string x] :=
  Rd.strs [x, x] (heap_alloc_new w _) rfl (by simp [maxLen])
def twice (l : List ByteArray) : List ByteArray := l.flatMap fun x => [x, x]
theorem back_snoc {α : Type} {L : List α} {k : Nat} {t : α} (h : L[k]? = some t) : (L.drop k).reverse = (L.drop (k + 1)).reverse ++ [t] := by
  obtain ⟨hk, rfl⟩ := List.getElem?_eq_some_iff.1 h
  rw [List.drop_eq_getElem_cons hk, List.reverse_cons]

theorem mem_twice (l : List ByteArray) (x : ByteArray) : x ∈ twice l ↔ x ∈ l := by
  simp only [twice, List.mem_flatMap, List.mem_cons, List.not_mem_nil, or_false, or_self]
  exact ⟨fun ⟨y, h, e⟩ => e ▸ h, fun h => ⟨x, h, rfl⟩⟩
theorem twice_length : ∀ l : List ByteArray, (twice l).length = 2 * l.length
  | [] => rfl
  | x :: l => by
    have := twice_length l
    rw [twice] at this ⊢
    rw [List.flatMap_cons, List.length_append, this, List.length_cons]; simp; omega

/-- What may be at once. -/
theorem grows_cases {l m : List ARow} {ids more : List ByteArray} {p q : Int} {A B C D E : Bool} (hp : p ≤ 9223372036854775807) (hq : q ≤ 9223372036854775807) (hA : may l p ids = A) (hB : may l q ids = B) (hC : may (m ++ l) p (more ++ ids) = C)
    (hD : may l (bits .and .i64 p q) ids = D) (hE : may l (bits .or .i64 p q) ids = E) :
    (A = false ∧ E = false) ∨ (A = false ∧ E = true ∧ ¬ 0 ≤ p) ∨ (A = false ∧ E = true ∧ 0 ≤ p ∧ ¬ 0 ≤ q) ∨
    (A = true ∧ C = true ∧ 0 ≤ p ∧ 0 ≤ q ∧ D = true ∧ B = false ∧ E = false) ∨ (A = true ∧ C = true ∧ 0 ≤ p ∧ 0 ≤ q ∧ D = true ∧ B = true ∧ E = true) ∨
    (A = true ∧ C = true ∧ 0 ≤ p ∧ ¬ 0 ≤ q ∧ B = false ∧ E = false) ∨ (A = true ∧ C = true ∧ 0 ≤ p ∧ ¬ 0 ≤ q ∧ B = false ∧ E = true) ∨ (A = true ∧ C = true ∧ 0 ≤ p ∧ ¬ 0 ≤ q ∧ B = true ∧ E = true) := by
  have hAC : A = true → C = true := fun h => by
    rw [← hC]
    exact may_more (fun r hr => List.mem_append_right _ hr) (fun x hx => List.mem_append_right _ hx) (hA.trans h)
  have hAP : A = true → 0 ≤ p := fun h => ((may_iff _ _ _).1 (hA.trans h)).1.1
  have hAD : A = true → 0 ≤ q → D = true := fun h h2 => by rw [← hD]; exact may_part h2 hq (hA.trans h)
  have hABE : A = true → B = true → E = true := fun h h2 => by rw [← hE]; exact may_sum (hA.trans h) (hB.trans h2)
  have hEAB : E = true → 0 ≤ p → 0 ≤ q → A = true ∧ B = true := fun h h1 h2 => by
    have := may_of_sum ⟨h1, hp⟩ ⟨h2, hq⟩ (hE.trans h)
    exact ⟨hA.symm.trans this.1, hB.symm.trans this.2⟩
  clear hA hB hC hD hE
  by_cases h1 : 0 ≤ p <;> by_cases h2 : 0 ≤ q <;> cases A <;> cases B <;> cases C <;> cases D <;> cases E <;> simp_all

set_option maxHeartbeats 8000000 in
theorem grows_any (a : Option Addr) (n cap : Nat) (l : List ARow) (ma : Option Addr) (mn mcap : Nat) (m : List ARow) (ia : Option Addr) (i icap : Nat) (ids : List ByteArray) (ka : Option Addr) (kn kcap : Nat) (more : List ByteArray) (p q : Int) (w : World) (hT : Tab w)
    (hr : Rd w 2 a n cap (l.flatMap ARow.cells)) (hn : l.length = n) (bn : n ≤ 1048576) (hmr : Rd w 2 ma mn mcap (m.flatMap ARow.cells)) (hmn : m.length = mn) (bm : mn ≤ 1048576)
    (hi : Rd w 1 ia i icap (ids.flatMap strC)) (hin : ids.length = i) (bi : i ≤ 1048576) (hk : Rd w 1 ka kn kcap (more.flatMap strC)) (hkn : more.length = kn) (bk : kn ≤ 1048576)
    (hp : p ≤ 9223372036854775807) (hq : q ≤ 9223372036854775807) :
    Calls Tryd.prog 6 #[.slice a n cap, .slice ma mn mcap, .slice ia i icap, .slice ka kn kcap, .int .i64 p, .int .i64 q] w (CopyPost (.bool true) w) := by
  have cA := awake_any w hT
  obtain ⟨ip, hi1, hi2, hi3, hi4⟩ := parts_of infoStr
  obtain ⟨iq, hj1, hj2, hj3, hj4⟩ := parts_of infoAcl
  have HI := Lib.hid (And.intro hi1 (And.intro hi2 (And.intro hi3 hi4)))
  have HJ := Lib.hid (And.intro hj1 (And.intro hj2 (And.intro hj3 hj4)))
  have cMy : ∀ (W : World) (x : Int), Old w W → Calls Tryd.prog 11 #[.slice a n cap, .int .i64 x, .slice ia i icap] W (CopyPost (.bool (may l x ids)) W) :=
    fun W x h => may_any a n cap l x ia i icap ids W (hr.mod h (fun _ _ h => h)) hn (hi.mod h (fun _ _ h => h)) hin
  have HMy := Lib.hid cMy
  have HR := Lib.hid hr
  have HN := Lib.hid hn
  have HMR := Lib.hid hmr
  have HMN := Lib.hid hmn
  have HIR := Lib.hid hi
  have HIN := Lib.hid hin
  have HKR := Lib.hid hk
  have HKN := Lib.hid hkn
  obtain ⟨A, hA⟩ : ∃ A, may l p ids = A := ⟨_, rfl⟩
  obtain ⟨B, hB⟩ : ∃ B, may l q ids = B := ⟨_, rfl⟩
  obtain ⟨C, hC⟩ : ∃ C, may (m ++ l) p (more ++ ids) = C := ⟨_, rfl⟩
  obtain ⟨D, hD⟩ : ∃ D, may l (bits .and .i64 p q) ids = D := ⟨_, rfl⟩
  obtain ⟨E, hE⟩ : ∃ E, may l (bits .or .i64 p q) ids = E := ⟨_, rfl⟩
  have HA := Lib.hid hA
  have HB := Lib.hid hB
  have HC := Lib.hid hC
  have HD := Lib.hid hD
  have HE := Lib.hid hE
  have hl63 := hr.le
  have hm63 := hmr.le
  have hi63 := hi.le
  have hk63 := hk.le
  clear hT hr hn hmr hmn hi hin hk hkn hi1 hi2 hi3 hi4 hj1 hj2 hj3 hj4 cMy hA hB hC hD hE
  go_enter Tryd.func6, Tryd.ntmps6
  go_wp2_with (first
    | (go_at_call 8; refine cA.mono ?_; rintro e w1 ⟨rfl, hO1⟩; have T1 := Lib.hid hO1; clear cA)
    | (go_at_call 11; have hT1 := T1.out; clear T1; refine (HMy.out w1 p hT1).mono ?_; rw [HA.out]; rintro e w2 ⟨rfl, hO2⟩; have T2 := Lib.hid (hT1.join hO2))
    | (go_at_call 11; have hT2 := T2.out; clear T2; refine (HMy.out w2 q hT2).mono ?_; rw [HB.out]; rintro e w3 ⟨rfl, hO3⟩; have T3 := Lib.hid (hT2.join hO3))
    | (at_builtin; have hT3 := T3.out; refine wpList_append 27 iq _ 2 24 (by kernel_rfl) HJ.out.1 HJ.out.2.1 HJ.out.2.2.1 HJ.out.2.2.2 rfl none 0 0 [] rfl (Sl.nil _ _ _) ma mn mcap _ rfl (HMR.out.mod hT3 (fun _ _ h => h)) (arow_one m) (by unfold maxLen; omega) (by omega) ?_; rw [Nat.zero_add, List.nil_append]; intro a4 cap4 w4 hS4 hM4 hF4 hN4 hR4; have HSt4 := Lib.hid (st_first hT3 hS4 hM4 hF4); clear hN4 hR4 T3 hS4 hM4 hF4)
    | (at_builtin; refine wpList_append 27 iq _ 2 24 (by kernel_rfl) HJ.out.1 HJ.out.2.1 HJ.out.2.2.1 HJ.out.2.2.2 rfl a4 mn cap4 _ rfl (HSt4.out.slice 0 rfl) a n cap _ rfl (HR.out.mod HSt4.out.1 (fun _ _ h => h)) (arow_one l) (by unfold maxLen; omega) (by omega) ?_; intro a5 cap5 w5 hS5 hM5 hF5 hN5 hR5; have HSt5 := Lib.hid (HSt4.out.regrow 0 rfl hS5 hM5 hF5); clear HSt4 hS5 hM5 hF5 hN5 hR5)
    | (at_builtin; refine wpList_append 9 ip _ 1 16 (by kernel_rfl) HI.out.1 HI.out.2.1 HI.out.2.2.1 HI.out.2.2.2 rfl none 0 0 [] rfl (Sl.nil _ _ _) ka kn kcap _ rfl (HKR.out.mod HSt5.out.1 (fun _ _ h => h)) (str_one more) (by unfold maxLen; omega) (by omega) ?_; rw [Nat.zero_add, List.nil_append]; intro a6 cap6 w6 hS6 hM6 hF6 hN6 hR6; have HSt6 := Lib.hid (st_next HSt5.out hS6 hM6 hF6); clear hN6 hR6 HSt5 hS6 hM6 hF6)
    | (at_builtin; refine wpList_append 9 ip _ 1 16 (by kernel_rfl) HI.out.1 HI.out.2.1 HI.out.2.2.1 HI.out.2.2.2 rfl a6 kn cap6 _ rfl (HSt6.out.slice 0 rfl) ia i icap _ rfl (HIR.out.mod HSt6.out.1 (fun _ _ h => h)) (str_one ids) (by unfold maxLen; omega) (by omega) ?_; intro a7 cap7 w7 hS7 hM7 hF7 hN7 hR7; have HSt7 := Lib.hid (HSt6.out.regrow 0 rfl hS7 hM7 hF7); clear HSt6 hS7 hM7 hF7 hN7 hR7)
    | (go_at_call 11; have hS7 := HSt7.out; simp only [List.set_cons_zero, List.set_cons_succ] at hS7; have hq1 := (hS7.slice 1 rfl).rd; have hq2 := (hS7.slice 0 rfl).rd; rw [← List.flatMap_append] at hq1 hq2; refine (may_any a5 (mn + n) cap5 (m ++ l) p a7 (kn + i) cap7 (more ++ ids) w7 hq1 (by rw [List.length_append, HMN.out, HN.out]) hq2 (by rw [List.length_append, HKN.out, HIN.out])).mono ?_; rw [HC.out]; rintro e w8 ⟨rfl, hO8⟩; have T8 := Lib.hid (Old.join hS7.1 hO8); clear hS7 HSt7 hq1 hq2)
    | (go_at_call 11; have hT8 := T8.out; clear T8; refine (HMy.out w8 _ hT8).mono ?_; rw [HD.out]; rintro e w9 ⟨rfl, hO9⟩; have T9 := Lib.hid (hT8.join hO9))
    | (go_at_call 11; have hT9 := T9.out; clear T9; refine (HMy.out w9 _ hT9).mono ?_; rw [HE.out]; rintro e w10 ⟨rfl, hO10⟩; have T10 := Lib.hid (hT9.join hO10)))
  have hT10 := T10.out
  have HCC := HC
  clear T10 HMR HKR HMN HKN HC
  go_loopg [19, 20] n (fun g y19 y20 wr => ∃ (k : Nat) (pb : Option Addr) (capb : Nat), k + g = n ∧ y20 = .int .i64 ((g : Int) - 1) ∧ y19 = .slice pb k capb ∧ St w wr [sl 27 2 pb k capb (((l.drop g).reverse).flatMap ARow.cells)])
  case atStart => exact ⟨0, none, 0, by omega, by simp, rfl, by rw [← HN.out, List.drop_length]; exact (St.begin hT10).nilSlice _ _⟩
  case round =>
    obtain ⟨k, pb, capb, hk, rfl, rfl, hS⟩ := hrel
    by_cases hg0 : gk = 0
    · subst hg0
      have zz : ((0 : Nat) : Int) - 1 = -1 := by omega
      have hkn : k = n := by omega
      subst hkn
      have HS := Lib.hid hS
      clear hS hk hT10
      go_wp2
      go_loopg [21, 22] i (fun g y21 y22 wx => ∃ (j t : Nat) (pt : Option Addr) (capt : Nat), j + g = i ∧ t = 2 * j ∧ y22 = .int .i64 ((g : Int) - 1) ∧ y21 = .slice pt t capt ∧ St w wx [sl 9 1 pt t capt ((twice (ids.drop g).reverse).flatMap strC), sl 27 2 pb k capb (((l.drop 0).reverse).flatMap ARow.cells)])
      case atStart => exact ⟨0, 0, none, 0, by omega, rfl, by simp, rfl, by rw [← HIN.out, List.drop_length]; exact HS.out.nilSlice _ _⟩
      case round =>
        obtain ⟨j, t, pt, capt, hj, ht, rfl, rfl, hS⟩ := hrel
        by_cases hg0 : gk = 0
        · subst hg0
          have zz : ((0 : Nat) : Int) - 1 = -1 := by omega
          have hji : j = i := by omega
          have q1 := (hS.slice 1 rfl).rd
          have q2 := (hS.slice 0 rfl).rd
          have hO12 : Old w wr := hS.1
          rw [List.drop_zero] at q1 q2
          have cF := may_any pb k capb l.reverse p pt t capt (twice ids.reverse) wr q1 (by rw [List.length_reverse]; exact HN.out) q2 (by rw [twice_length, List.length_reverse, HIN.out, ht, hji])
          rw [may_same (ids := ids) (l := l) (fun r => by rw [List.mem_reverse]) (fun x => by rw [mem_twice, List.mem_reverse]), HA.out] at cF
          have CF := Lib.hid cF
          have hcs := grows_cases hp hq HA.out HB.out HCC.out HD.out HE.out
          have HO12 := Lib.hid hO12
          clear HS hS q1 q2 cF hj hji ht hO12 HA HB HCC HD HE
          rcases hcs with ⟨rfl, rfl⟩ | ⟨rfl, rfl, h1⟩ | ⟨rfl, rfl, h1, h2⟩ | ⟨rfl, rfl, h1, h2, rfl, rfl, rfl⟩ | ⟨rfl, rfl, h1, h2, rfl, rfl, rfl⟩ | ⟨rfl, rfl, h1, h2, rfl, rfl⟩ | ⟨rfl, rfl, h1, h2, rfl, rfl⟩ | ⟨rfl, rfl, h1, h2, rfl, rfl⟩
          all_goals
            go_wp2_with (go_at_call 11; refine CF.out.mono ?_; rintro e w20 ⟨rfl, hO20⟩)
          all_goals
            go_ret
            exact ⟨rfl, Old.join HO12.out hO20⟩
        · obtain ⟨g', rfl⟩ : ∃ g', gk = g' + 1 := ⟨gk - 1, by omega⟩
          have zm : ((g' + 1 : Nat) : Int) - 1 = (g' : Int) := by omega
          have hgl : g' < i := by omega
          have hx : ids[g']? = some (ids[g']'(HIN.out ▸ hgl)) := List.getElem?_eq_getElem _
          obtain ⟨x, hxx⟩ : ∃ x, ids[g']'(HIN.out ▸ hgl) = x := ⟨_, rfl⟩
          rw [hxx] at hx
          obtain ⟨b, o, rfl, hbl, c0⟩ := (HIR.out.mod hS.1 (fun _ _ h => h)).str hx
          have HX := Lib.hid hx
          have HS2 := Lib.hid hS
          have HTT := Lib.hid ht
          clear hx hxx hS HS ht
          have zgl : (g' : Int) < (i : Int) := by omega
          have zt : t ≤ 2097152 := by have := HTT.out; omega
          go_wp2
          go_region_law ((refine step_append rfl rfl 9 ip _ 1 16 (by kernel_rfl) HI.out.1 HI.out.2.1 HI.out.2.2.1 HI.out.2.2.2 rfl pt t capt ((twice (ids.drop (g' + 1)).reverse).flatMap strC) (by rfl) ?hv (some ⟨wr.heap.size, 0, none⟩) 2 2 [.string x, .string x] (by rfl) ?hs ?h1 ?h63 ?hb ?_
                          case hv => exact (HS2.out.slice 0 rfl).mod (S := fun _ => False) (by repeat (first | refine Mod.drew ?_ | refine Mod.alloc ?_ _ | exact Mod.refl _ _)) (fun _ _ => id)
                          case hs => first | exact src_two wr x | exact src_two wr.drew x | exact src_two wr.drew.drew x | exact src_two wr.drew.drew.drew x
                          case h1 => intro u hu; simp only [List.mem_cons, List.not_mem_nil, or_false] at hu; rcases hu with rfl | rfl <;> rfl
                          case h63 => unfold maxLen; omega
                          case hb => omega
                          intro a7 cap7 w7 hS7 hM7 hF7 hN7 hR7
                          have hSt := St.regrow (HS2.out.mod (by repeat (first | refine Mod.drew ?_ | refine Mod.alloc ?_ _ | exact Mod.refl _ _))) 0 rfl hS7 hM7 hF7
                          have HSt := Lib.hid hSt
                          clear hS7 hM7 hF7 hN7 hR7 hSt))
          all_goals
            have zg2 : (g' : Int) - 1 = (g' : Int) - 1 := rfl
            clear zg2
            (try go_wp2_with fail)
            go_roundg g'
            case measure => omega
            case rel =>
              refine ⟨j + 1, t + 2, a7, cap7, by omega, by have := HTT.out; omega, by simp, rfl, ?_⟩
              have hSS := HSt.out
              simp only [List.set_cons_zero] at hSS
              have e1 : (twice (ids.drop g').reverse).flatMap strC = (twice (ids.drop (g' + 1)).reverse).flatMap strC ++ [.string x, .string x] := by
                rw [back_snoc HX.out, twice, List.flatMap_append, List.flatMap_append]; rfl
              rw [e1]
              exact hSS
    · obtain ⟨g', rfl⟩ : ∃ g', gk = g' + 1 := ⟨gk - 1, by omega⟩
      have zm : ((g' + 1 : Nat) : Int) - 1 = (g' : Int) := by omega
      have hgl : g' < n := by omega
      have hx : l[g']? = some (l[g']'(HN.out ▸ hgl)) := List.getElem?_eq_getElem _
      obtain ⟨x, hxx⟩ : ∃ x, l[g']'(HN.out ▸ hgl) = x := ⟨_, rfl⟩
      rw [hxx] at hx
      obtain ⟨b, o, rfl, hbl, c0, c1⟩ := (HR.out.mod hS.1 (fun _ _ h => h)).row hx
      have HX := Lib.hid hx
      have HC := Lib.hid (row_chunk c0 c1)
      have HS := Lib.hid hS
      clear hx hxx c0 c1 hS hT10
      have zgl : (g' : Int) < (n : Int) := by omega
      go_wp2_with (first
        | ((with_reducible refine at_list ?_); refine wpList_load_chunk 2 _ Tryd.underlying27 rfl sizeR ⟨b, o + g' * 2, none⟩ rfl x.cells rfl HC.out ?_; simp only [ARow.cells])
        | (at_builtin; refine wpList_append 27 iq _ 2 24 (by kernel_rfl) HJ.out.1 HJ.out.2.1 HJ.out.2.2.1 HJ.out.2.2.2 rfl pb k capb _ rfl ((HS.out.mod ((Mod.refl _ _).alloc _)).slice 0 rfl) (some ⟨wr.heap.size, 0, none⟩) 1 1 _ rfl (src_row wr x) (by intro u hu; simp only [List.mem_cons, List.not_mem_nil, or_false] at hu; rcases hu with rfl | rfl <;> rfl) (by unfold maxLen; omega) (by omega) ?_; intro a7 cap7 w7 hS7 hM7 hF7 hN7 hR7; have hS7' := (HS.out.mod ((Mod.refl _ wr).alloc (.cells #[.int .i64 x.1, .string x.2] 27))).regrow 0 rfl hS7 hM7 hF7; have HS7 := Lib.hid hS7'; clear hS7 hM7 hF7 hN7 hR7 HS hS7'))
      go_roundg g'
      case measure => omega
      case rel =>
        refine ⟨k + 1, a7, cap7, by omega, by simp, rfl, ?_⟩
        have hSS := HS7.out
        simp only [List.set_cons_zero] at hSS
        rw [back_snoc HX.out, List.flatMap_append]
        exact hSS
end Go.Proofs.YtamacndbkjpkaaaDoor
