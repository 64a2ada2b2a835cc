/-
  PathNames, walked, and for arguments as they come in.
  Conditions: the texts are not longer than 1000000000; what is asked of the world.
-/
import Derived.Test.YtfdlllpjempjoaaDoorPathOpen
namespace Go.Proofs.YtfdlllpjempjoaaDoor
open Go.ChangeShapes Go.WideShapes Go.ChangeAt Go.RowKit
set_option linter.unusedSectionVars false
set_option linter.unusedSimpArgs false
set_option linter.unusedVariables false
set_option maxRecDepth 100000

theorem str_self (s : ByteArray) : (s.toList == s.toList) = true := by simp

set_option maxHeartbeats 4000000 in
theorem names_any (p n : ByteArray) (hp : p.size ≤ 1000000000) (hn : n.size ≤ 1000000000) (w : World) (hR : Ready w) :
    Calls Tryd.prog 7 #[.string p, .string n] w (CopyPost (.bool true) w) := by
  have cA := awake_any w hR
  have c1 := fun W (h : Old w W) => check_any p (by omega) W (hR.old h)
  have cK := fun W => Kid_any p n (by omega) (by omega) W
  have hn63 : n.size ≤ 9223372036854775807 := by omega
  by_cases h0 : checkL p.data.toList = 0
  · obtain ⟨ns, hg, hpl⟩ := (check_iff _).1 h0
    rw [h0] at c1
    have hkl : (kidL p.data.toList n.data.toList).length ≤ 2000000001 := by
      rw [kidL, List.length_append, List.length_cons, ← size_list]
      have := size_list p
      split <;> simp <;> omega
    obtain ⟨Y, hY⟩ : ∃ Y, bs (kidL p.data.toList n.data.toList) = Y := ⟨_, rfl⟩
    have hYl : Y.data.toList = kidL p.data.toList n.data.toList := by rw [← hY, bs_list]
    have hYs : Y.size ≤ 2000000001 := by rw [size_list, hYl]; exact hkl
    rw [hY] at cK
    have c2 := fun W (h : Old w W) => check_any Y (by omega) W (hR.old h)
    obtain ⟨E, hE⟩ : ∃ E, checkL Y.data.toList = E := ⟨_, rfl⟩
    rw [hE] at c2
    by_cases hne : n.data.toList = []
    · have q0 := toList_beq' hne
      have hem := names_empty ns hg
      rw [← hpl] at hem
      rw [hYl, hne] at hE
      rw [hE] at hem
      have hEq : (E == 0) = (p.toList == [47]) := by
        rw [Bool.eq_iff_iff, beq_iff_eq, beq_iff_eq, ByteArray.toList_eq]; exact hem
      obtain ⟨B, hB⟩ : ∃ B, (p.toList == [47]) = B := ⟨_, rfl⟩
      rw [hB] at hEq
      have C1 := Lib.hid c1
      have C2 := Lib.hid c2
      clear c1 c2 hem hE hpl hg hY hYl hkl hne h0 hR
      go_enter Tryd.func7, Tryd.ntmps7
      go_wp2_with (first
        | (go_at_call 8; refine cA.mono ?_; rintro e w0 ⟨rfl, hO⟩; have T0 := Lib.hid hO; clear cA hO)
        | (go_at_call 9; refine (C1.out w0 T0.out).mono ?_; rintro e w1 ⟨rfl, hO⟩; have T1 := Lib.hid (T0.out.join hO); clear C1 T0 hO)
        | (go_at_call 15; refine (cK w1).mono ?_; rintro e w2 ⟨rfl, hO⟩; have T2 := Lib.hid (T1.out.join hO); clear cK T1 hO)
        | (go_at_call 9; refine (C2.out w2 T2.out).mono ?_; rintro e w3 ⟨rfl, hO⟩; have T3 := Lib.hid (T2.out.join hO); clear C2 T2 hO))
      all_goals
        go_ret
        exact ⟨by first | rfl | (simp; done) | (cases B <;> rfl), T3.out⟩
    · have q0 := toList_beq hne
      have nf := names_form ns n.data.toList hg hne
      rw [← hpl, ← hYl, hE] at nf
      obtain ⟨Z, hZ⟩ : ∃ Z : ByteArray, (⟨#[47]⟩ : ByteArray) ++ n = Z := ⟨_, rfl⟩
      have hZl : Z.data.toList = 47 :: n.data.toList := by rw [← hZ]; simp [ByteArray.data_append]
      have hZs : Z.size ≤ 1000000001 := by rw [size_list, hZl, List.length_cons, ← size_list]; omega
      have c3 := fun W (h : Old w W) => check_any Z (by omega) W (hR.old h)
      rw [hZl] at c3
      obtain ⟨O, hO1⟩ : ∃ O, checkL (47 :: n.data.toList) = O := ⟨_, rfl⟩
      rw [hO1] at nf c3
      have hpn := names_plain ns n.data.toList hg hne
      rw [hO1] at hpn
      rw [← hpl, ← hYl] at hpn
      have c4 := fun W => Parent_any Y (by omega) W
      have c5 := fun W => Base_any Y (by omega) W
      have c6 := fun W => Under_any Y p (by omega) (by omega) W
      have C1 := Lib.hid c1
      have C2 := Lib.hid c2
      have C3 := Lib.hid c3
      have C4 := Lib.hid c4
      have C5 := Lib.hid c5
      have C6 := Lib.hid c6
      have HPN := Lib.hid hpn
      clear c1 c2 c3 c4 c5 c6 hpn hE hpl hg hY hYl hkl h0 hR hZl hne hO1
      by_cases ho : O = 40
      · have he := nf.2 ho
        subst ho; subst he
        go_enter Tryd.func7, Tryd.ntmps7
        go_wp2_with (first
          | (go_at_call 8; refine cA.mono ?_; rintro e w0 ⟨rfl, hO⟩; have T0 := Lib.hid hO; clear cA hO)
          | (go_at_call 9; refine (C1.out w0 T0.out).mono ?_; rintro e w1 ⟨rfl, hO⟩; have T1 := Lib.hid (T0.out.join hO); clear C1 T0 hO)
          | (go_at_call 15; refine (cK w1).mono ?_; rintro e w2 ⟨rfl, hO⟩; have T2 := Lib.hid (T1.out.join hO); clear cK T1 hO)
          | (go_at_call 9; refine (C2.out w2 T2.out).mono ?_; rintro e w3 ⟨rfl, hO⟩; have T3 := Lib.hid (T2.out.join hO); clear C2 T2 hO)
          | (go_at_call 9; refine (C3.out w3 T3.out).mono ?_; rintro e w4 ⟨rfl, hO⟩; have T4 := Lib.hid (T3.out.join hO); clear C3 T3 hO))
        go_ret
        exact ⟨rfl, T4.out⟩
      · have he : E ≠ 40 := fun h => ho (nf.1 h)
        have zo : (O == 40) = false := by simpa using ho
        have ze : (E == 40) = false := by simpa using he
        have ze' : (E != 40) = true := by simpa using he
        clear nf
        go_enter Tryd.func7, Tryd.ntmps7
        go_wp2_with (first
          | (go_at_call 8; refine cA.mono ?_; rintro e w0 ⟨rfl, hO⟩; have T0 := Lib.hid hO; clear cA hO)
          | (go_at_call 9; refine (C1.out w0 T0.out).mono ?_; rintro e w1 ⟨rfl, hO⟩; have T1 := Lib.hid (T0.out.join hO); clear C1 T0 hO)
          | (go_at_call 15; refine (cK w1).mono ?_; rintro e w2 ⟨rfl, hO⟩; have T2 := Lib.hid (T1.out.join hO); clear cK T1 hO)
          | (go_at_call 9; refine (C2.out w2 T2.out).mono ?_; rintro e w3 ⟨rfl, hO⟩; have T3 := Lib.hid (T2.out.join hO); clear C2 T2 hO)
          | (go_at_call 9; refine (C3.out w3 T3.out).mono ?_; rintro e w4 ⟨rfl, hO⟩; have T4 := Lib.hid (T3.out.join hO); clear C3 T3 hO))
        go_loopg [9, 10] n.size (fun g y9 y10 wx => ∃ i : Nat, y10 = .int .i64 (i : Int) ∧ i ≤ n.size ∧ y9 = .bool (decide ((47 : UInt8) ∉ n.data.toList.take i)) ∧ n.size ≤ i + g ∧ wx = w4)
        case atStart => exact ⟨0, rfl, Nat.zero_le _, by simp, by omega, rfl⟩
        case round =>
          obtain ⟨i, rfl, hi, rfl, hfu, rfl⟩ := hrel
          by_cases hlt : i < n.size
          · have zl : (i : Int) < (n.size : Int) := by omega
            have hx : n.data.toList[i]? = some n[i] := by
              rw [Array.getElem?_toList, Array.getElem?_eq_getElem (show i < n.data.size from hlt)]; rfl
            obtain ⟨hj, hje⟩ := List.getElem?_eq_some_iff.1 hx
            have hb : ((n[i].toNat : Int) == 47) = decide (n[i] = 47) := by
              rw [Bool.eq_iff_iff, beq_iff_eq, decide_eq_true_eq]
              constructor
              · intro e; exact UInt8.toNat_inj.1 (by show _ = 47; omega)
              · intro e; rw [e]; rfl
            have hst : decide ((47 : UInt8) ∉ n.data.toList.take (i + 1)) = (decide ((47 : UInt8) ∉ n.data.toList.take i) && !decide (n[i] = 47)) := by
              rw [List.take_succ_eq_append_getElem hj, hje, Bool.eq_iff_iff]
              simp only [List.mem_append, List.mem_singleton, not_or, Bool.and_eq_true, decide_eq_true_eq, Bool.not_eq_true', decide_eq_false_iff_not]
              exact ⟨fun ⟨a, b⟩ => ⟨a, fun e => b e.symm⟩, fun ⟨a, b⟩ => ⟨a, fun e => b e.symm⟩⟩
            have HST := Lib.hid hst
            generalize decide (n[i] = 47) = b1 at hb HST
            generalize decide ((47 : UInt8) ∉ n.data.toList.take i) = b2 at HST ⊢
            clear hst
            cases b1 <;> cases b2
            all_goals
              go_wp2
              go_roundg (gk - 1)
              case measure => omega
              case rel => exact ⟨i + 1, rfl, by omega, by rw [HST.out]; first | rfl | (show Value.bool (!((n[i].toNat : Int) == 47)) = _; rw [hb]; rfl), by omega, rfl⟩
          · have zl : ¬ (i : Int) < (n.size : Int) := by omega
            have hall : n.data.toList.take i = n.data.toList := List.take_of_length_le (by rw [← size_list]; omega)
            rw [hall]
            by_cases hs : (47 : UInt8) ∈ n.data.toList
            · rw [decide_eq_false (by simpa using hs)]
              clear hall
              go_wp2
              go_ret
              exact ⟨rfl, T4.out⟩
            · rw [decide_eq_true hs]
              obtain ⟨g1, g2, g3⟩ := HPN.out ho hs
              have k1 : bs (parentL Y.data.toList) = p := by rw [g1]; exact (bs_of rfl).symm
              have k2 : bs (baseL Y.data.toList) = n := by rw [g2]; exact (bs_of rfl).symm
              have d4 := C4.out
              have d5 := C5.out
              have d6 := C6.out
              rw [k1] at d4
              rw [k2] at d5
              rw [g3] at d6
              have D4 := Lib.hid d4
              have D5 := Lib.hid d5
              have D6 := Lib.hid d6
              have sp := str_self p
              have sn := str_self n
              clear d4 d5 d6 k1 k2 g1 g2 g3 hall HPN C4 C5 C6
              go_wp2_with (first
                | (go_at_call 11; refine (D4.out _).mono ?_; rintro e w5 ⟨rfl, hO⟩; have T5 := Lib.hid (T4.out.join hO); clear D4 hO)
                | (go_at_call 13; refine (D5.out _).mono ?_; rintro e w6 ⟨rfl, hO⟩; have T6 := Lib.hid (T5.out.join hO); clear D5 hO)
                | (go_at_call 17; refine (D6.out _).mono ?_; rintro e w7 ⟨rfl, hO⟩; have T7 := Lib.hid (T6.out.join hO); clear D6 hO))
              go_ret
              exact ⟨by first | rfl | (simp; done), T7.out⟩
  · have zc : (checkL p.data.toList == 0) = false := by simpa using h0
    have zc' : (checkL p.data.toList != 0) = true := by simpa using h0
    generalize checkL p.data.toList = V at c1 zc zc'
    have C1 := Lib.hid c1
    clear c1 cK hR h0
    go_enter Tryd.func7, Tryd.ntmps7
    go_wp2_with (first
      | (go_at_call 8; refine cA.mono ?_; rintro e w0 ⟨rfl, hO⟩; have T0 := Lib.hid hO; clear cA hO)
      | (go_at_call 9; refine (C1.out w0 T0.out).mono ?_; rintro e w1 ⟨rfl, hO⟩; have T1 := Lib.hid (T0.out.join hO); clear C1 T0 hO))
    go_ret
    exact ⟨rfl, T1.out⟩
end Go.Proofs.YtfdlllpjempjoaaDoor
