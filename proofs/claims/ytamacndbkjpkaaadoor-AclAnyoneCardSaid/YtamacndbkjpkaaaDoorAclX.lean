/-
  The document's given and May.
  Conditions: rows and people lie in the world.
-/
import Derived.Test.YtamacndbkjpkaaaDoorAclW
import Derived.BigQuiet
namespace Go.Proofs.YtamacndbkjpkaaaDoor
open Go.RowKit
set_option linter.unusedSectionVars false
set_option linter.unusedSimpArgs false
set_option linter.unusedVariables false

def hasR (ids : List ByteArray) (k : Nat) (r : ARow) : Bool := (V r.1).getLsbD k && hits ids r

set_option maxHeartbeats 2000000 in
theorem given_any (a : Option Addr) (n cap : Nat) (l : List ARow) (bit : Nat) (B : Int) (hB : (2 : Int) ^ bit = B) (h5 : bit < 5) (ia : Option Addr) (m icap : Nat) (ids : List ByteArray) (w : World)
    (hr : Rd w 2 a n cap (l.flatMap ARow.cells)) (hn : l.length = n) (hi : Rd w 1 ia m icap (ids.flatMap strC)) (hm : ids.length = m) :
    Calls Tryd.prog 20 #[.slice a n cap, .int .i64 B, .slice ia m icap] w (CopyPost (.bool (has ids l bit)) w) := by
  have hl63 := hr.le
  have hm63 := hi.le
  have HR := Lib.hid hr
  have HN := Lib.hid hn
  have HI := Lib.hid hi
  have HM := Lib.hid hm
  have hP : ∀ x : Int, bits .and .i64 x B = 0 ↔ (V x).getLsbD bit = false := fun x => hB ▸ and_pow x bit (by omega)
  have HP := Lib.hid hP
  clear hP
  have hhas : has ids l bit = l.any (hasR ids bit) := rfl
  rw [hhas]
  clear hr hn hi hm hB hhas h5
  go_enter Tryd.func20, Tryd.ntmps20
  go_wp2
  go_loopg [7] n (fun g y wr => ∃ k : Nat, k + g = n ∧ y = .int .i64 k ∧ Old w wr ∧ (l.take k).any (hasR ids bit) = false)
  case atStart => exact ⟨0, by omega, rfl, Old.rfl' _, rfl⟩
  case round =>
    obtain ⟨k, hkg, rfl, hb, hno⟩ := hrel
    by_cases hlt : k < n
    · have hx : l[k]? = some (l[k]'(HN.out ▸ hlt)) := List.getElem?_eq_getElem _
      obtain ⟨x, hxx⟩ : ∃ x, l[k]'(HN.out ▸ hlt) = x := ⟨_, rfl⟩
      rw [hxx] at hx
      obtain ⟨g, s⟩ := x
      obtain ⟨b, o, rfl, hbl, c0, c1⟩ := (HR.out.mod hb (fun _ _ h => h)).row hx
      have hbit := HP.out g
      have HX := Lib.hid hx
      have HNO := Lib.hid hno
      clear hx hxx hno
      by_cases hz : bits .and .i64 g B = 0
      · have hz2 : (bits .and .i64 g B == 0) = true := by simpa using hz
        have hh : hasR ids bit (g, s) = false := by simp [hasR, hbit.1 hz]
        have HH := Lib.hid hh
        clear hh hbit
        go_wp2
        go_roundg (gk - 1)
        case measure => omega
        case rel => exact ⟨k + 1, by omega, by simp, hb, by rw [any_snoc _ HX.out, HNO.out, HH.out]; rfl⟩
      · have hg : (V g).getLsbD bit = true := by
          cases h : (V g).getLsbD bit
          · exact absurd (hbit.2 h) hz
          · rfl
        have HG := Lib.hid hg
        have hz2 : (bits .and .i64 g B == 0) = false := by simpa using hz
        clear hbit hg hz
        by_cases hw : s = world
        · subst hw
          have hh : hasR ids bit (g, world) = true := by rw [hasR, HG.out, hits_among]; simp
          have HH := Lib.hid hh
          have c2 : wr.cell? ⟨b, o + k * 2 + 1, none⟩ = some (.string ⟨#[119, 111, 114, 108, 100]⟩) := c1
          clear hh c1
          go_wp2
          go_ret
          exact ⟨by rw [any_yes _ HX.out HH.out] <;> rfl, hb⟩
        · have hne : (s.toList == [119, 111, 114, 108, 100]) = false := toList_beq hw
          have hh : hasR ids bit (g, s) = among ids s := by rw [hasR, HG.out, hits_among]; simp [hw]
          have HH := Lib.hid hh
          clear hh
          go_wp2
          go_loopg [8] m (fun f y wx => ∃ j : Nat, j + f = m ∧ y = .int .i64 j ∧ Old w wx ∧ wx.cell? ⟨b, o + k * 2, none⟩ = some (.int .i64 g) ∧ wx.cell? ⟨b, o + k * 2 + 1, none⟩ = some (.string s) ∧ among (ids.take j) s = false)
          case atStart => exact ⟨0, by omega, rfl, hb, c0, c1, rfl⟩
          case round =>
            obtain ⟨j, hj, rfl, hbx, d0, d1, hno2⟩ := hrel
            have HNO2 := Lib.hid hno2
            clear hno2 c0 c1
            by_cases hlt2 : j < m
            · have hy : ids[j]? = some (ids[j]'(HM.out ▸ hlt2)) := List.getElem?_eq_getElem _
              obtain ⟨y, hyy⟩ : ∃ y, ids[j]'(HM.out ▸ hlt2) = y := ⟨_, rfl⟩
              rw [hyy] at hy
              obtain ⟨b2, o2, rfl, hbl2, e0⟩ := (HI.out.mod hbx (fun _ _ h => h)).str hy
              have HY := Lib.hid hy
              have hbq := str_beq y s
              clear hy hyy
              by_cases hv : s = y
              · rw [decide_eq_true hv] at hbq
                have hA : among ids s = true := any_yes _ HY.out (by simp [hv])
                have HA := Lib.hid hA
                clear hA hv
                go_wp2
                go_quiet (fail)
                go_wp2
                go_ret
                exact ⟨by rw [any_yes _ HX.out (HH.out.trans HA.out)] <;> rfl, hbx.drewN _⟩
              · rw [decide_eq_false hv] at hbq
                have hA : among (ids.take (j + 1)) s = false := by
                  have := any_snoc (fun x => decide (x = s)) HY.out
                  rw [decide_eq_false (Ne.symm hv), Bool.or_false] at this
                  exact this.trans HNO2.out
                have HA := Lib.hid hA
                clear hA hv
                go_wp2
                go_quiet (fail)
                go_wp2
                go_roundg (gk - 1)
                case measure => omega
                case rel => exact ⟨j + 1, by omega, by simp, hbx.drewN _, d0, d1, HA.out⟩
            · have hk : j = m := by omega
              have ha : hasR ids bit (g, s) = false := by rw [HH.out, ← HNO2.out, hk, ← HM.out, List.take_length]
              have HA := Lib.hid ha
              clear ha
              go_wp2
              go_roundg (n - k - 1)
              case measure => omega
              case rel => exact ⟨k + 1, by omega, by simp, hbx, by rw [any_snoc _ HX.out, HNO.out, HA.out]; rfl⟩
    · have hk : k = n := by omega
      have ha : l.any (hasR ids bit) = false := by rw [← hno, hk, ← HN.out, List.take_length]
      clear hno
      go_wp2
      go_ret
      exact ⟨by rw [ha] <;> rfl, hb⟩

theorem upto_succ {p : Int} {ids : List ByteArray} {l : List ARow} {k : Nat} (h : upto p ids l k) (hk : (V p).getLsbD k = true → has ids l k = true) : upto p ids l (k + 1) := by
  intro i hi hp
  rcases Nat.lt_or_ge i k with h1 | h1
  · exact h i h1 hp
  · have : i = k := by omega
    subst this; exact hk hp

set_option maxHeartbeats 2000000 in
theorem refMay_any (a : Option Addr) (n cap : Nat) (l : List ARow) (p : Int) (ia : Option Addr) (m icap : Nat) (ids : List ByteArray) (w : World)
    (hr : Rd w 2 a n cap (l.flatMap ARow.cells)) (hn : l.length = n) (hi : Rd w 1 ia m icap (ids.flatMap strC)) (hm : ids.length = m) :
    Calls Tryd.prog 12 #[.slice a n cap, .int .i64 p, .slice ia m icap] w (CopyPost (.bool (may l p ids)) w) := by
  have hv : may l p ids = (decide (0 ≤ p) && decide (p ≤ 31) && decide (bits .andNot .i64 p (given ids l) = 0)) := rfl
  by_cases h0 : p < 0
  · rw [hv, decide_eq_false (show ¬ 0 ≤ p by omega), Bool.false_and, Bool.false_and]
    clear hr hi hn hm hv
    go_enter Tryd.func12, Tryd.ntmps12
    go_wp2
    go_ret
    exact ⟨rfl, Old.rfl' _⟩
  by_cases h1 : 31 < p
  · rw [hv, decide_eq_false (show ¬ p ≤ 31 by omega), Bool.and_false, Bool.false_and]
    clear hr hi hn hm hv
    go_enter Tryd.func12, Tryd.ntmps12
    go_wp2
    go_ret
    exact ⟨rfl, Old.rfl' _⟩
  have hdoc := may_doc l p ids (by omega) (by omega)
  have hG : ∀ (W : World) (bit : Nat), bit < 5 → Old w W → Calls Tryd.prog 20 #[.slice a n cap, .int .i64 ((2 : Int) ^ bit), .slice ia m icap] W (CopyPost (.bool (has ids l bit)) W) :=
    fun W bit hb hW => given_any a n cap l bit _ rfl hb ia m icap ids W (hr.mod hW (fun _ _ h => h)) hn (hi.mod hW (fun _ _ h => h)) hm
  have HG := Lib.hid hG
  have HD := Lib.hid hdoc
  clear hr hn hi hm hG hdoc hv
  generalize hM : may l p ids = M
  have HM := Lib.hid hM
  clear hM
  go_enter Tryd.func12, Tryd.ntmps12
  go_wp2
  go_loopg [7] 5 (fun g y wr => ∃ k : Nat, k + g = 5 ∧ y = .int .i64 ((2 : Int) ^ k) ∧ Old w wr ∧ upto p ids l k)
  case atStart => exact ⟨0, by omega, rfl, Old.rfl' _, fun i hi => by omega⟩
  case round =>
    obtain ⟨k, hkg, rfl, hb, hup⟩ := hrel
    have HU := Lib.hid hup
    clear hup
    by_cases hlt : k < 5
    · have cG := HG.out wr k hlt hb
      have hP := and_pow p k (by omega)
      have hB2 : (2 : Int) ^ k * 2 = (2 : Int) ^ (k + 1) := (Int.pow_succ 2 k).symm
      have hB3 : 1 ≤ (2 : Int) ^ k ∧ (2 : Int) ^ k ≤ 16 := by
        have : k = 0 ∨ k = 1 ∨ k = 2 ∨ k = 3 ∨ k = 4 := by omega
        rcases this with rfl | rfl | rfl | rfl | rfl <;> decide
      generalize hB : (2 : Int) ^ k = B at cG hP hB2 hB3 ⊢
      have HB2 := Lib.hid hB2
      clear hB2 hB
      have zB : B < 32 := by omega
      have zB0 : 1 ≤ B := hB3.1
      have zB1 : B ≤ 16 := hB3.2
      clear hB3
      by_cases hz : bits .and .i64 p B = 0
      · have hz2 : (bits .and .i64 p B == 0) = true := by simpa using hz
        have hz3 : (bits .and .i64 p B != 0) = false := by simpa using hz
        have hU := upto_succ HU.out (fun h => by rw [hP.1 hz] at h; cases h)
        have HU2 := Lib.hid hU
        clear hU hP hz
        go_wp2_with (go_at_call 20; refine cG.mono ?_; rintro e w' ⟨rfl, hb2⟩)
        go_roundg (gk - 1)
        case measure => omega
        case rel => exact ⟨k + 1, by omega, by rw [← HB2.out] <;> rfl, hb.join hb2, HU2.out⟩
      · have hz2 : (bits .and .i64 p B == 0) = false := by simpa using hz
        have hz3 : (bits .and .i64 p B != 0) = true := by simpa using hz
        have hbit : (V p).getLsbD k = true := by
          cases h : (V p).getLsbD k
          · exact absurd (hP.2 h) hz
          · rfl
        have HB := Lib.hid hbit
        clear hP hz hbit
        cases hh : has ids l k
        · rw [hh] at cG
          have hM0 : M = false := by
            rw [Bool.eq_false_iff]
            intro hx
            have := (HD.out.1 (HM.out.trans hx)) k (by omega) HB.out
            rw [hh] at this; cases this
          have HM0 := Lib.hid hM0
          clear hh hM0
          go_wp2_with (go_at_call 20; refine cG.mono ?_; rintro e w' ⟨rfl, hb2⟩)
          go_ret
          exact ⟨by rw [HM0.out] <;> rfl, hb.join hb2⟩
        · rw [hh] at cG
          have hU := upto_succ HU.out (fun _ => hh)
          have HU2 := Lib.hid hU
          clear hh hU
          go_wp2_with (go_at_call 20; refine cG.mono ?_; rintro e w' ⟨rfl, hb2⟩)
          go_roundg (gk - 1)
          case measure => omega
          case rel => exact ⟨k + 1, by omega, by rw [← HB2.out] <;> rfl, hb.join hb2, HU2.out⟩
    · have hk : k = 5 := by omega
      subst hk
      have hM1 : M = true := by rw [← HM.out, HD.out]; exact HU.out
      have HM1 := Lib.hid hM1
      clear hM1
      go_wp2
      go_ret
      exact ⟨by rw [HM1.out] <;> rfl, hb⟩
end Go.Proofs.YtamacndbkjpkaaaDoor
