/-
  Names: isName of both, letter; the program's Check.
  Conditions: the texts are not longer than 4000000000; the cell of bytealg.MaxLen holds an int.
-/
import Derived.Test.YtfdlllpjempjoaaDoorPathN
import Derived.Lib.SplitLaws
import Derived.Lib.IndexBytes
import Derived.Lib.RuneCount
namespace Go.Proofs.YtfdlllpjempjoaaDoor
open Go.RowKit
set_option linter.unusedSectionVars false
set_option linter.unusedSimpArgs false
set_option linter.unusedVariables false
set_option maxRecDepth 100000

/-! ### What Split gives -/

theorem idx_cases (c : UInt8) : ∀ l : List UInt8, (Lib.indexByte l c = -1 ∧ c ∉ l) ∨ ∃ a b, l = a ++ c :: b ∧ c ∉ a ∧ Lib.indexByte l c = (a.length : Int)
  | [] => .inl ⟨rfl, by simp⟩
  | x :: l => by
    rw [Lib.indexByte]
    by_cases hx : x = c
    · subst hx
      exact .inr ⟨[], l, by simp, by simp, by simp⟩
    · rcases idx_cases c l with ⟨h1, h2⟩ | ⟨a, b, rfl, h2, h3⟩
      · exact .inl ⟨by rw [h1]; simp [hx], by simp [h2, Ne.symm hx]⟩
      · refine .inr ⟨x :: a, b, by simp, by simp [h2, Ne.symm hx], ?_⟩
        have h4 : ¬ ((a.length : Int) = -1) := by omega
        rw [h3]
        simp [hx, h4]

theorem split_parts : ∀ (k : Nat) (l : List UInt8), l.count 47 ≤ k → Lib.splitK [47] 0 k l = parts l
  | 0, l, h => by
    have hn : (47 : UInt8) ∉ l := List.count_eq_zero.1 (by omega)
    rw [Lib.splitK, parts_clean l hn]
  | k + 1, l, h => by
    rw [Lib.splitK, Lib.index_one]
    rcases idx_cases 47 l with ⟨h1, h2⟩ | ⟨a, b, h0, h2, h3⟩
    · rw [h1, if_pos (by decide), parts_clean l h2]
    · have hne : ¬ ((Lib.indexByte l 47 == -1) = true) := by
        rw [h3, beq_iff_eq]; omega
      rw [if_neg hne, h3, Int.toNat_natCast, Nat.add_zero]
      subst h0
      rw [List.take_left, List.length_singleton, ← List.drop_drop, List.drop_left, parts_mid, parts_clean a h2]
      have hc : b.count 47 ≤ k := by
        rw [List.count_append, List.count_cons_self] at h
        omega
      rw [List.drop_succ_cons, List.drop_zero, split_parts k b hc]
      rfl
/-- What Split lays, as texts. -/
theorem split_is (s : ByteArray) : (Lib.splitB ⟨#[47]⟩ 0 (Lib.countB s ⟨#[47]⟩) s).map (·.data.toList) = parts s.data.toList := by
  rw [Lib.splitB_data]
  have : (Lib.countB s ⟨#[47]⟩) = s.data.toList.count 47 := Lib.count_one 47 _
  rw [this]
  exact split_parts _ _ (Nat.le_refl _)
theorem count_is (s : ByteArray) : Lib.countB s ⟨#[47]⟩ + 1 = (parts s.data.toList).length := by
  have h1 : (Lib.countB s ⟨#[47]⟩) = s.data.toList.count 47 := Lib.count_one 47 _
  rw [h1]
  have key : ∀ l : List UInt8, l.count 47 + 1 = (parts l).length := by
    intro l
    induction l with
    | nil => rfl
    | cons c l ih =>
      by_cases h : c = 47
      · subst h; rw [parts_slash, List.count_cons_self, List.length_cons, ← ih]
      · obtain ⟨x, t, h1, h2⟩ := parts_other h l
        rw [h2, List.count_cons_of_ne (by simpa using h), ih, h1]; rfl
  exact key _

/-! ### Names -/

set_option maxHeartbeats 1000000 in
theorem letter_any (c : Nat) (w : World) : Calls Tryd.prog 45 #[.int .u8 (c : Int)] w (RetPost (.bool (nmB c)) w) := by
  go_enter Tryd.func45, Tryd.ntmps45
  go_wp2
  all_goals
    go_ret
    refine ⟨?_, rfl⟩
    show Ending.returned (Value.bool _) = _
    refine congrArg (fun b => Ending.returned (Value.bool b)) ?_
    rw [Bool.eq_iff_iff]
    simp [nmB] <;> omega

theorem drop_cons (s : ByteArray) (i : Nat) (h : i < s.size) : s.data.toList.drop i = s[i] :: s.data.toList.drop (i + 1) :=
  List.drop_eq_getElem_cons (by rw [Array.length_toList]; exact h)
def allNm (l : List UInt8) : Bool := l.all fun b => nmB b.toNat
theorem allNm_cons (b : UInt8) (l : List UInt8) : allNm (b :: l) = (nmB b.toNat && allNm l) := rfl
theorem isNm_eq (l : List UInt8) : isNm l = (allNm l && decide (l ≠ []) && decide (l ≠ [46]) && decide (l ≠ [46, 46])) := rfl

theorem refIsName_any (s : ByteArray) (hs : s.size ≤ 4611686018427387903) (w : World) : Calls Tryd.prog 32 #[.string s] w (CopyPost (.bool (isNm s.data.toList)) w) := by
  have hs' : s.size ≤ 9223372036854775807 := by omega
  have cL := fun c w => letter_any c w
  by_cases h0 : s.data.toList = []
  · have hv : isNm s.data.toList = false := by rw [isNm_eq, h0]; rfl
    have q0 := toList_beq' h0
    rw [hv]
    go_enter Tryd.func32, Tryd.ntmps32
    go_wp2
    all_goals first | (exfalso; simp_all; done) | (go_ret; exact ⟨rfl, Old.rfl' _⟩)
  by_cases h1 : s.data.toList = [46]
  · have hv : isNm s.data.toList = false := by rw [isNm_eq, h1]; rfl
    have q0 := toList_beq h0
    have q1 := toList_beq' h1
    rw [hv]
    go_enter Tryd.func32, Tryd.ntmps32
    go_wp2
    all_goals first | (exfalso; simp_all; done) | (go_ret; exact ⟨rfl, Old.rfl' _⟩)
  by_cases h2 : s.data.toList = [46, 46]
  · have hv : isNm s.data.toList = false := by rw [isNm_eq, h2]; rfl
    have q0 := toList_beq h0
    have q1 := toList_beq h1
    have q2 := toList_beq' h2
    rw [hv]
    go_enter Tryd.func32, Tryd.ntmps32
    go_wp2
    all_goals first | (exfalso; simp_all; done) | (go_ret; exact ⟨rfl, Old.rfl' _⟩)
  have q0 := toList_beq h0
  have q1 := toList_beq h1
  have q2 := toList_beq h2
  have hv : isNm s.data.toList = allNm s.data.toList := by rw [isNm_eq]; simp [h0, h1, h2]
  rw [hv]
  clear hv h0 h1 h2
  go_enter Tryd.func32, Tryd.ntmps32
  go_wp2
  all_goals try (exfalso; simp_all; done)
  go_loopg [3] s.size (fun gf s3 wx => ∃ i : Nat, s3 = .int .i64 (i : Int) ∧ i ≤ s.size ∧ Old w wx ∧ allNm (s.data.toList.drop i) = allNm s.data.toList ∧ s.size ≤ i + gf)
  case atStart => exact ⟨0, rfl, Nat.zero_le _, Old.rfl' _, by rw [List.drop_zero], by omega⟩
  case round =>
    obtain ⟨i, rfl, hi, hbw, hleft, hfu⟩ := hrel
    by_cases hlt : i < s.size
    · have zl : (i : Int) < (s.size : Int) := by omega
      obtain ⟨g', rfl⟩ : ∃ g', gk = g' + 1 := ⟨gk - 1, by omega⟩
      rw [drop_cons s i hlt, allNm_cons] at hleft
      have cC := cL s[i].toNat wr
      cases hn : nmB s[i].toNat
      all_goals
        rw [hn] at cC hleft
        have HL := Lib.hid hleft
        clear hleft hn
        go_wp2_with (go_at_call 45; refine cC.mono ?_; rintro e w' ⟨rfl, rfl⟩)
      · go_ret
        exact ⟨by rw [← HL.out] <;> rfl, hbw⟩
      · go_roundg g'
        case measure => omega
        case rel => exact ⟨i + 1, rfl, by omega, hbw, by rw [← HL.out, Bool.true_and], by omega⟩
    · have zl : ¬ (i : Int) < (s.size : Int) := by omega
      have hd : s.data.toList.drop i = [] := List.drop_eq_nil_of_le (by rw [← size_list]; omega)
      rw [hd] at hleft
      have HL := Lib.hid hleft
      clear hleft hd
      go_wp2
      go_ret
      exact ⟨by rw [← HL.out] <;> rfl, hbw⟩
end Go.Proofs.YtfdlllpjempjoaaDoor
