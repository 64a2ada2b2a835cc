/-
  PathClimbs, walked, and for arguments as they come in.
  Conditions: the text is not longer than 1000000000; what is asked of the world.
-/
import Derived.Test.YtfdlllpjempjoaaDoorPathOpen
namespace Go.Proofs.YtfdlllpjempjoaaDoor
open Go.ChangeShapes Go.WideShapes Go.ChangeAt Go.RowKit
set_option linter.unusedSectionVars false
set_option linter.unusedSimpArgs false
set_option linter.unusedVariables false
set_option maxRecDepth 100000

/-- One step up, as texts. -/
theorem climb_bytes {ns : List (List UInt8)} (h : Good ns) (p : ByteArray) (hp : p.data.toList = pathOf ns) {k : Nat} (hk : k < ns.length) :
    ∃ A U B : ByteArray, bs (pathOf (ns.take (k + 1))) = A ∧ bs (pathOf (ns.take k)) = U ∧ bs (parentL A.data.toList) = U ∧ checkL U.data.toList = 0 ∧ bs (baseL A.data.toList) = B ∧ bs (kidL U.data.toList B.data.toList) = A ∧
      underL A.data.toList U.data.toList = true ∧ underL p.data.toList U.data.toList = true ∧ underL U.data.toList A.data.toList = false ∧ U.size < A.size ∧ (A.toList == [47]) = false ∧ A.size ≤ 60 ∧ U.size ≤ 60 ∧ B.size ≤ 60 := by
  obtain ⟨c1, c2, c3, c4, c5, c6, c7, c8⟩ := climb h hk
  have g1 := (h.front (k + 1)).2.2
  have g0 := (h.front k).2.2
  refine ⟨_, _, _, rfl, rfl, ?_, ?_, rfl, ?_, ?_, ?_, ?_, ?_, ?_, ?_, ?_, ?_⟩
  · rw [bs_list, c1]
  · rw [bs_list, c2]
  · rw [bs_list, bs_list, bs_list, c3]
  · rw [bs_list, bs_list, c4]
  · rw [hp, bs_list, c5]
  · rw [bs_list, bs_list, c6]
  · rw [bs_size, bs_size]; exact c7
  · exact toList_beq (by rw [bs_list]; exact c8)
  · rw [bs_size]; exact g1
  · rw [bs_size]; exact g0
  · rw [bs_size, bs_list]
    have := congrArg List.length c3
    rw [kidL, List.length_append, List.length_cons] at this
    omega

def slc (l : List UInt8) : Nat := l.countP (fun c => decide (c = 47))
theorem slc_snoc {l : List UInt8} {i : Nat} {c : UInt8} (h : l[i]? = some c) : slc (l.take (i + 1)) = slc (l.take i) + (if c = 47 then 1 else 0) := by
  obtain ⟨hj, hje⟩ := List.getElem?_eq_some_iff.1 h
  rw [slc, slc, List.take_succ_eq_append_getElem hj, hje, List.countP_append, List.countP_cons, List.countP_nil]
  by_cases hc : c = 47 <;> simp [hc]

set_option maxHeartbeats 4000000 in
theorem climbs_any (p : ByteArray) (hp : p.size ≤ 1000000000) (w : World) (hR : Ready w) :
    Calls Tryd.prog 5 #[.string p] w (CopyPost (.bool true) w) := by
  have cA := awake_any w hR
  have c1 := fun W (h : Old w W) => check_any p (by omega) W (hR.old h)
  by_cases h0 : checkL p.data.toList = 0
  · obtain ⟨ns, hg, hpl⟩ := (check_iff _).1 h0
    rw [h0] at c1
    have C1 := Lib.hid c1
    have h6 := hg.2.1
    clear c1
    go_enter Tryd.func5, Tryd.ntmps5
    go_wp2_with (first
      | (go_at_call 8; refine cA.mono ?_; rintro e w0 ⟨rfl, hO⟩; have T0 := Lib.hid hO; clear cA hO)
      | (go_at_call 9; refine (C1.out w0 T0.out).mono ?_; rintro e w1 ⟨rfl, hO⟩; have T1 := Lib.hid (T0.out.join hO); clear C1 T0 hO))
    go_loopg [4, 5, 6] ns.length (fun g y4 y5 y6 wx => ∃ k : Nat, k ≤ ns.length ∧ y4 = .string (bs (pathOf (ns.take k))) ∧ y5 = .int .i64 ((ns.length - k : Nat) : Int) ∧ k ≤ g ∧ Old w wx)
    case atStart => exact ⟨ns.length, Nat.le_refl _, by rw [List.take_length, ← hpl]; exact congrArg _ (bs_of rfl), by simp, Nat.le_refl _, T1.out⟩
    case round =>
      obtain ⟨k, hk, rfl, rfl, hgk, hO1⟩ := hrel
      clear T1
      have T1 := Lib.hid hO1
      clear hO1
      by_cases hk0 : k = 0
      · subst hk0
        obtain ⟨R, hRt⟩ : ∃ R, bs (pathOf (ns.take 0)) = R := ⟨_, rfl⟩
        have q0 : (R.toList == [47]) = true := toList_beq' (by rw [← hRt, bs_list]; rfl)
        rw [hRt]
        obtain ⟨S, hS⟩ : ∃ S, ns.length - 0 = S := ⟨_, rfl⟩
        rw [hS]
        have HSN := Lib.hid (show S = ns.length by omega)
        have c4 := fun W => Parent_any ⟨#[47]⟩ (by decide) W
        simp only [show bs (parentL (⟨#[47]⟩ : ByteArray).data.toList) = ⟨#[]⟩ by decide] at c4
        have c6 := fun W => Under_any p p (by omega) (by omega) W
        rw [hpl, under_self hg] at c6
        have C4 := Lib.hid c4
        have C6 := Lib.hid c6
        obtain ⟨P, hP⟩ : ∃ P, (p.toList == [47]) = P := ⟨_, rfl⟩
        have hPn : P = true ↔ ns = [] := by
          rw [← hP, ← pathOf_root hg.1, ← hpl, beq_iff_eq, ByteArray.toList_eq]
        have HPN := Lib.hid hPn
        have HPL := Lib.hid hpl
        have HG := Lib.hid hg
        clear c4 c6 hpl h0 hRt hS hPn hg hR
        go_wp2
        go_loopg [7, 8] p.size (fun g y7 y8 wx' => ∃ i : Nat, y8 = .int .i64 (i : Int) ∧ i ≤ p.size ∧ y7 = .int .i64 ((if P then 0 else slc (p.data.toList.take i) : Nat) : Int) ∧ p.size ≤ i + g ∧ Old w wx')
        case atStart => exact ⟨0, rfl, Nat.zero_le _, by cases P <;> rfl, by omega, T1.out⟩
        case round =>
          obtain ⟨i, rfl, hi, rfl, hfu, hO2⟩ := hrel
          clear T1
          have T1 := Lib.hid hO2
          clear hO2
          by_cases hlt : i < p.size
          · have zl : (i : Int) < (p.size : Int) := by omega
            have hx : p.data.toList[i]? = some p[i] := by
              rw [Array.getElem?_toList, Array.getElem?_eq_getElem (show i < p.data.size from hlt)]; rfl
            have hb : ((p[i].toNat : Int) == 47) = decide (p[i] = 47) := by
              rw [Bool.eq_iff_iff, beq_iff_eq, decide_eq_true_eq]
              constructor
              · intro e; exact UInt8.toNat_inj.1 (by show _ = 47; omega)
              · intro e; rw [e]; rfl
            have hst := slc_snoc hx
            have hcl : slc (p.data.toList.take i) ≤ p.size := by
              have h1 : slc (p.data.toList.take i) ≤ (p.data.toList.take i).length := List.countP_le_length
              rw [List.length_take] at h1
              omega
            obtain ⟨c, hc⟩ : ∃ c, slc (p.data.toList.take i) = c := ⟨_, rfl⟩
            rw [hc] at hst hcl
            rw [hc]
            have hst' : slc (p.data.toList.take (i + 1)) = c + (if decide (p[i] = 47) = true then 1 else 0) := by rw [hst]; simp
            have HST := Lib.hid hst'
            generalize decide (p[i] = 47) = b1 at hb HST
            clear hst hst' hc hx
            cases b1 <;> cases P
            all_goals
              simp only [Bool.false_eq_true, if_false, if_true, reduceIte]
              go_wp2
              go_roundg (gk - 1)
              case measure => omega
              case rel => exact ⟨i + 1, rfl, by omega, (by have := HST.out; simp only [Bool.false_eq_true, if_false, if_true, reduceIte] at this ⊢; first | rfl | exact congrArg _ (by omega)), by omega, T1.out⟩
          · have zl : ¬ (i : Int) < (p.size : Int) := by omega
            have hKS : (if P = true then 0 else slc (p.data.toList.take i) : Nat) = S := by
              rw [List.take_of_length_le (by rw [← size_list]; omega), HPL.out]
              by_cases hPt : P = true
              · rw [if_pos hPt, HSN.out, HPN.out.1 hPt]; rfl
              · rw [if_neg hPt, HSN.out, pathOf_ne (fun e => hPt (HPN.out.2 e))]
                exact slashes HG.out.no
            rw [hKS]
            clear hKS HPN HPL HSN
            go_wp2_with (first
              | (go_at_call 17; refine (C6.out _).mono ?_; rintro e w7 ⟨rfl, hO⟩; have T7 := Lib.hid (T1.out.join hO); clear C6 hO)
              | (go_at_call 11; refine (C4.out _).mono ?_; rintro e w8 ⟨rfl, hO⟩; have T8 := Lib.hid (T7.out.join hO); clear C4 hO))
            go_ret
            exact ⟨by first | rfl | (simp; done), T8.out⟩
      · obtain ⟨j, rfl⟩ : ∃ j, k = j + 1 := ⟨k - 1, by omega⟩
        obtain ⟨A, U, B, hA, hU, e1, e2, e3, e4, e5, e6, e7, e8, e9, s1, s2, s3⟩ := climb_bytes hg p hpl (show j < ns.length by omega)
        rw [hA]
        have c2 := fun W => Parent_any A (by omega) W
        have c3 := fun W (h : Old w W) => check_any U (by omega) W (hR.old h)
        have c4 := fun W => Base_any A (by omega) W
        have c5 := fun W => Kid_any U B (by omega) (by omega) W
        have c6 := fun W => Under_any A U (by omega) (by omega) W
        have c7 := fun W => Under_any p U (by omega) (by omega) W
        have c8 := fun W => Under_any U A (by omega) (by omega) W
        rw [e1] at c2; rw [e2] at c3; rw [e3] at c4; rw [e4] at c5; rw [e5] at c6; rw [e6] at c7; rw [e7] at c8
        obtain ⟨S, hS⟩ : ∃ S, ns.length - (j + 1) = S := ⟨_, rfl⟩
        rw [hS]
        have hs6 : ((S : Int) == 6) = false := by simp; omega
        have hst := (by simp : (A.toList == A.toList) = true)
        have C2 := Lib.hid c2
        have C3 := Lib.hid c3
        have C4 := Lib.hid c4
        have C5 := Lib.hid c5
        have C6 := Lib.hid c6
        have C7 := Lib.hid c7
        have C8 := Lib.hid c8
        clear c2 c3 c4 c5 c6 c7 c8 e1 e2 e3 e4 e5 e6 e7 h0
        go_wp2_with (first
          | (go_at_call 11; refine (C2.out _).mono ?_; rintro e w2 ⟨rfl, hO⟩; have T2 := Lib.hid (T1.out.join hO); clear C2 hO)
          | (go_at_call 9; refine (C3.out w2 T2.out).mono ?_; rintro e w3 ⟨rfl, hO⟩; have T3 := Lib.hid (T2.out.join hO); clear C3 hO)
          | (go_at_call 13; refine (C4.out w3).mono ?_; rintro e w4 ⟨rfl, hO⟩; have T4 := Lib.hid (T3.out.join hO); clear C4 hO)
          | (go_at_call 15; refine (C5.out w4).mono ?_; rintro e w5 ⟨rfl, hO⟩; have T5 := Lib.hid (T4.out.join hO); clear C5 hO)
          | (go_at_call 17; refine (C6.out w5).mono ?_; rintro e w6 ⟨rfl, hO⟩; have T6 := Lib.hid (T5.out.join hO); clear C6 hO)
          | (go_at_call 17; refine (C7.out w6).mono ?_; rintro e w7 ⟨rfl, hO⟩; have T7 := Lib.hid (T6.out.join hO); clear C7 hO)
          | (go_at_call 17; refine (C8.out w7).mono ?_; rintro e w8 ⟨rfl, hO⟩; have T8 := Lib.hid (T7.out.join hO); clear C8 hO))
        go_roundg (gk - 1)
        case measure => omega
        case rel => exact ⟨j, by omega, by rw [hU], by rw [show ns.length - j = S + 1 by omega]; rfl, by omega, T8.out⟩
  · have zc : (checkL p.data.toList == 0) = false := by simpa using h0
    have zc' : (checkL p.data.toList != 0) = true := by simpa using h0
    generalize checkL p.data.toList = V at c1 zc zc'
    have C1 := Lib.hid c1
    clear c1 hR h0
    go_enter Tryd.func5, Tryd.ntmps5
    go_wp2_with (first
      | (go_at_call 8; refine cA.mono ?_; rintro e w0 ⟨rfl, hO⟩; have T0 := Lib.hid hO; clear cA hO)
      | (go_at_call 9; refine (C1.out w0 T0.out).mono ?_; rintro e w1 ⟨rfl, hO⟩; have T1 := Lib.hid (T0.out.join hO); clear C1 T0 hO))
    go_ret
    exact ⟨rfl, T1.out⟩
end Go.Proofs.YtfdlllpjempjoaaDoor
