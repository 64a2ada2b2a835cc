/-
  AclAnyone, walked.
  Conditions: rows and people lie in the world; the table of math/bits lies in the world; the rows fit.
-/
import Derived.Test.YtamacndbkjpkaaaDoorAclAny
namespace Go.Proofs.YtamacndbkjpkaaaDoor
open Go.RowKit
set_option linter.unusedSectionVars false
set_option linter.unusedSimpArgs false
set_option linter.unusedVariables false
set_option maxRecDepth 100000

theorem one_src_str (w : World) (s : ByteArray) : Rd (w.alloc (.cells #[.string s] 9)) 1 (some ⟨w.heap.size, 0, none⟩) 1 1 [.string s] :=
  Rd.strs [s] (heap_alloc_new w _) rfl (by simp [maxLen])
theorem one_src_acl (w : World) (g : Int) : Rd (w.alloc (.cells #[.int .i64 g, .string ⟨#[119, 111, 114, 108, 100]⟩] 27)) 2 (some ⟨w.heap.size, 0, none⟩) 1 1 [.int .i64 g, .string world] :=
  Rd.rows [(g, world)] (heap_alloc_new w _) rfl (by simp [maxLen])

set_option maxHeartbeats 4000000 in
theorem anyone_any (a : Option Addr) (n cap : Nat) (l : List ARow) (p : Int) (ia : Option Addr) (m icap : Nat) (ids : List ByteArray) (w : World) (hT : Tab w)
    (hr : Rd w 2 a n cap (l.flatMap ARow.cells)) (hn : l.length = n) (hn24 : n * 24 ≤ 140737488351232) (hi : Rd w 1 ia m icap (ids.flatMap strC)) (hm : ids.length = m) :
    Calls Tryd.prog 7 #[.slice a n cap, .int .i64 p, .slice ia m icap] w (CopyPost (.bool true) w) := by
  have hl63 := hr.le
  have cA := awake_any w hT
  obtain ⟨ip, hi1, hi2, hi3, hi4⟩ := parts_of infoStr
  obtain ⟨iq, hj1, hj2, hj3, hj4⟩ := parts_of infoAcl
  have HI := Lib.hid (And.intro hi1 (And.intro hi2 (And.intro hi3 hi4)))
  have HJ := Lib.hid (And.intro hj1 (And.intro hj2 (And.intro hj3 hj4)))
  have HR := Lib.hid hr
  have HN := Lib.hid hn
  have HIR := Lib.hid hi
  have HM := Lib.hid hm
  clear hT hr hn hi hm hi1 hi2 hi3 hi4 hj1 hj2 hj3 hj4
  go_enter Tryd.func7, Tryd.ntmps7
  go_wp2_with (go_at_call 8; refine cA.mono ?_; rintro e w1 ⟨rfl, hO1⟩; clear cA)
  go_loopg [8, 9, 10, 11] n (fun g y8 y9 y10 y11 wr => ∃ (k : Nat) (pa : Option Addr) (capa : Nat) (pb : Option Addr) (capb : Nat), k + g = n ∧ y11 = .int .i64 k ∧ y10 = .int .i64 (orAll (l.take k)) ∧ y8 = .slice pa k capa ∧ y9 = .slice pb k capb ∧
    St w wr [sl 9 1 pa k capa (((l.take k).map (·.2)).flatMap strC), sl 27 2 pb k capb (((l.take k).map toAll).flatMap ARow.cells)])
  case atStart => exact ⟨0, none, 0, none, 0, by omega, rfl, rfl, rfl, rfl, ((St.begin hO1).nilSlice _ _).nilSlice _ _⟩
  case round =>
    obtain ⟨k, pa, capa, pb, capb, hk, rfl, rfl, rfl, rfl, hS⟩ := hrel
    by_cases hlt : k < n
    · have hx : l[k]? = some (l[k]'(HN.out ▸ hlt)) := List.getElem?_eq_getElem _
      obtain ⟨x, hxx⟩ : ∃ x, l[k]'(HN.out ▸ hlt) = x := ⟨_, rfl⟩
      rw [hxx] at hx
      obtain ⟨g, s⟩ := x
      obtain ⟨b, o, rfl, hbl, c0, c1⟩ := HR.out.row hx
      have HX := Lib.hid hx
      have C0 := Lib.hid c0
      have C1 := Lib.hid c1
      have d0 := hS.1.cell c0 (fun h => h)
      have d1 := hS.1.cell c1 (fun h => h)
      have HS := Lib.hid hS
      have hG : orAll (l.take (k + 1)) = bits .or .i64 (orAll (l.take k)) g := fold_snoc orStep 0 hx
      have HG := Lib.hid hG
      clear hx hxx c0 c1 hS hG
      generalize orAll (l.take k) = G at HG ⊢
      go_wp2_with (first
        | (at_builtin; refine wpList_append 9 ip _ 1 16 (by kernel_rfl) HI.out.1 HI.out.2.1 HI.out.2.2.1 HI.out.2.2.2 rfl pa k capa _ rfl ((HS.out.mod ((Mod.refl _ _).alloc _)).slice 0 rfl) (some ⟨wr.heap.size, 0, none⟩) 1 1 _ rfl (one_src_str wr s) (by intro u hu; simp only [List.mem_singleton] at hu; subst hu; rfl) (by unfold maxLen; omega) (by omega) ?_; intro a6 cap6 w6 hS6 hM6 hF6 hN6 hR6; have hS6' := (HS.out.mod ((Mod.refl _ wr).alloc (.cells #[.string s] 9))).regrow 0 rfl hS6 hM6 hF6; have d0 := hS6'.1.cell C0.out (fun h => h); have d1 := hS6'.1.cell C1.out (fun h => h); have HS6 := Lib.hid hS6'; clear hS6 hM6 hF6 hN6 hR6 HS hS6')
        | (at_builtin; refine wpList_append 27 iq _ 2 24 (by kernel_rfl) HJ.out.1 HJ.out.2.1 HJ.out.2.2.1 HJ.out.2.2.2 rfl pb k capb _ rfl ((HS6.out.mod ((Mod.refl _ _).alloc _)).slice 1 rfl) (some ⟨w6.heap.size, 0, none⟩) 1 1 _ rfl (one_src_acl w6 g) (by intro u hu; simp only [List.mem_cons, List.not_mem_nil, or_false] at hu; rcases hu with rfl | rfl <;> rfl) (by unfold maxLen; omega) (by omega) ?_; intro a7 cap7 w7 hS7 hM7 hF7 hN7 hR7; have hS7' := (HS6.out.mod ((Mod.refl _ w6).alloc (.cells #[.int .i64 g, .string ⟨#[119, 111, 114, 108, 100]⟩] 27))).regrow 1 rfl hS7 hM7 hF7; have d0 := hS7'.1.cell C0.out (fun h => h); have d1 := hS7'.1.cell C1.out (fun h => h); have HS7 := Lib.hid hS7'; clear hS7 hM7 hF7 hN7 hR7 HS6 hS7'))
      go_roundg (gk - 1)
      case measure => omega
      case rel =>
        refine ⟨k + 1, a6, cap6, a7, cap7, by omega, by simp, by rw [HG.out], rfl, rfl, ?_⟩
        have hSS := HS7.out
        simp only [List.set_cons_succ, List.set_cons_zero] at hSS
        have e1 : ((l.take (k + 1)).map (·.2)).flatMap strC = ((l.take k).map (·.2)).flatMap strC ++ [.string s] := by
          rw [List.flatMap_map, List.flatMap_map, flat_snoc _ HX.out]; rfl
        have e2 : ((l.take (k + 1)).map toAll).flatMap ARow.cells = ((l.take k).map toAll).flatMap ARow.cells ++ [.int .i64 g, .string world] := by
          rw [List.flatMap_map, List.flatMap_map, flat_snoc _ HX.out]; rfl
        rw [e1, e2]
        exact hSS
    · have hk2 : k = n := by omega
      have hG : orAll (l.take k) = orAll l := by rw [hk2, ← HN.out, List.take_length]
      rw [hG]
      have hS2 : St w wr [sl 9 1 pa k capa ((l.map (·.2)).flatMap strC), sl 27 2 pb k capb ((l.map toAll).flatMap ARow.cells)] := by
        rw [hk2, ← HN.out, List.take_length] at hS
        rw [hk2, ← HN.out]; exact hS
      have q1 := (hS2.slice 0 rfl).rd
      have q2 := (hS2.slice 1 rfl).rd
      have hO2 : Old w wr := hS2.1
      have hlk : l.length = k := by rw [hk2, HN.out]
      have c1 := may_any a n cap l p pa k capa _ wr (HR.out.mod hO2 (fun _ _ h => h)) HN.out q1 (by rw [List.length_map]; exact hlk)
      have c2 : ∀ W, Old wr W → Calls Tryd.prog 11 #[.slice pb k capb, .int .i64 p, .slice ia m icap] W (CopyPost (.bool (may (l.map toAll) p ids)) W) := fun W h =>
        may_any pb k capb _ p ia m icap ids W (q2.mod h (fun _ _ h => h)) (by rw [List.length_map]; exact hlk) (HIR.out.mod (hO2.join h) (fun _ _ h => h)) HM.out
      have c3 : ∀ W, Old wr W → Calls Tryd.prog 11 #[.slice pb k capb, .int .i64 p, .slice none 0 0] W (CopyPost (.bool (may (l.map toAll) p [])) W) := fun W h =>
        may_any pb k capb _ p none 0 0 [] W (q2.mod h (fun _ _ h => h)) (by rw [List.length_map]; exact hlk) (Rd.nil _ 1) rfl
      have c4 : ∀ W, Old wr W → Calls Tryd.prog 11 #[.slice none 0 0, .int .i64 p, .slice pa k capa] W (CopyPost (.bool (may [] p (l.map (·.2)))) W) := fun W h =>
        may_any none 0 0 [] p pa k capa _ W (Rd.nil _ 2) rfl (q1.mod h (fun _ _ h => h)) (by rw [List.length_map]; exact hlk)
      rw [may_own] at c1
      simp only [may_everybody] at c2 c3
      simp only [may_nobody] at c4
      have hv : mayAll (orAll l) p = (decide (0 ≤ p) && decide (p ≤ 31) && (bits .and .i64 p (orAll l) == p)) := rfl
      clear hS hS2 q1 q2 hG
      generalize orAll l = G at c1 c2 c3 hv ⊢
      generalize hM : mayAll G p = M at c1 c2 c3 hv
      have HV := Lib.hid hv
      have C1 := Lib.hid c1
      have C2 := Lib.hid c2
      have C3 := Lib.hid c3
      have C4 := Lib.hid c4
      clear hv hM c1 c2 c3 c4
      clear hlk hk2
      by_cases h1 : 0 ≤ p <;> by_cases h2 : p ≤ 31 <;> cases h3b : (bits .and .i64 p G == p)
      all_goals
        have hM2 := HV.out
        simp only [h1, h2, h3b, decide_true, decide_false, Bool.true_and, Bool.false_and, Bool.and_false, Bool.and_true] at hM2
        clear HV
        subst hM2
        go_wp2_with (first
          | (go_at_call 11; refine C1.out.mono ?_; rintro e w5 ⟨rfl, hO5⟩; clear C1)
          | (go_at_call 11; refine (C2.out w5 hO5).mono ?_; rintro e w6 ⟨rfl, hO6⟩; have hO6' := hO5.join hO6; clear C2)
          | (go_at_call 11; refine (C3.out w6 hO6').mono ?_; rintro e w7 ⟨rfl, hO7⟩; have hO7' := hO6'.join hO7; clear C3)
          | (go_at_call 11; refine (C4.out w7 hO7').mono ?_; rintro e w8 ⟨rfl, hO8⟩; have hO8' := hO7'.join hO8; clear C4))
      all_goals
        go_ret
        exact ⟨by first | rfl | (simp; done), hO2.join hO8'⟩
end Go.Proofs.YtamacndbkjpkaaaDoor
