/-
  The document's user and IsID; the program's isID; what they tell.
  No condition.
-/
import Derived.Test.YtamacndbkjpkaaaDoorAclS
import Derived.Lib.Bytealg
import Derived.Lib.Strings
namespace Go.Proofs.YtamacndbkjpkaaaDoor
open Go.RowKit
set_option linter.unusedSectionVars false
set_option linter.unusedSimpArgs false
set_option linter.unusedVariables false

theorem usr_iff (c : Nat) : usr c = true ↔ (48 ≤ c ∧ c ≤ 57) ∨ (97 ≤ c ∧ c ≤ 122) := by simp [usr, dig]
theorem hex_iff (c : Nat) : hex c = true ↔ (48 ≤ c ∧ c ≤ 57) ∨ (97 ≤ c ∧ c ≤ 102) := by simp [hex, dig]
theorem drop_cons (s : ByteArray) (i : Nat) (h : i < s.size) : s.data.toList.drop i = s[i] :: s.data.toList.drop (i + 1) :=
  List.drop_eq_getElem_cons (by rw [Array.length_toList]; exact h)
theorem onlyB_cons (q : Nat → Bool) (b : UInt8) (l : List UInt8) : onlyB q (b :: l) = (q b.toNat && onlyB q l) := rfl

theorem user_any (s : ByteArray) (hs : s.size ≤ maxLen) (w : World) : Calls Tryd.prog 24 #[.string s] w (CopyPost (.bool (isUserL s.data.toList)) w) := by
  have hl : s.data.toList.length = s.size := by rw [Array.length_toList]; rfl
  have hs' : s.size ≤ 9223372036854775807 := by unfold maxLen at hs; omega
  by_cases h0 : s.size < 1
  · have hv : isUserL s.data.toList = false := by simp [isUserL, hl]; omega
    rw [hv]
    have z : (s.size : Int) < 1 := by omega
    go_enter Tryd.func24, Tryd.ntmps24
    go_wp2
    go_ret
    exact ⟨rfl, Old.rfl' _⟩
  have z0 : ¬ (s.size : Int) < 1 := by omega
  by_cases h12 : 12 < s.size
  · have hv : isUserL s.data.toList = false := by simp [isUserL, hl]; omega
    rw [hv]
    have z : (12 : Int) < (s.size : Int) := by omega
    go_enter Tryd.func24, Tryd.ntmps24
    go_wp2
    go_ret
    exact ⟨rfl, Old.rfl' _⟩
  have z1 : ¬ (12 : Int) < (s.size : Int) := by omega
  have hv : isUserL s.data.toList = onlyB usr s.data.toList := by
    simp [isUserL, hl]; omega
  rw [hv]
  go_enter Tryd.func24, Tryd.ntmps24
  go_wp2
  go_loopg [3] s.size (fun gf s3 wx => ∃ i : Nat, s3 = .int .i64 (i : Int) ∧ i ≤ s.size ∧ Old w wx ∧ onlyB usr (s.data.toList.drop i) = onlyB usr s.data.toList ∧ s.size ≤ i + gf)
  case atStart => exact ⟨0, rfl, Nat.zero_le _, Old.rfl' _, by rw [List.drop_zero], by omega⟩
  case round =>
    obtain ⟨i, rfl, hi, hbw, hleft, hfu⟩ := hrel
    by_cases hlt : i < s.size
    · have zl : (i : Int) < (s.size : Int) := by omega
      obtain ⟨g', rfl⟩ : ∃ g', gk = g' + 1 := ⟨gk - 1, by omega⟩
      rw [drop_cons s i hlt, onlyB_cons] at hleft
      have hu := usr_iff s[i].toNat
      go_wp2
      all_goals first
        | (exfalso; omega)
        | (go_ret
           exact ⟨by rw [← hleft, show usr s[i].toNat = false from Bool.eq_false_iff.2 (fun h => by have := hu.1 h; omega)]; rfl, hbw⟩)
        | (go_roundg g'
           case measure => omega
           case rel => exact ⟨i + 1, rfl, by omega, hbw, by rw [← hleft, hu.2 (by omega), Bool.true_and], by omega⟩)
    · have zl : ¬ (i : Int) < (s.size : Int) := by omega
      have hd : s.data.toList.drop i = [] := List.drop_eq_nil_of_le (by omega)
      rw [hd] at hleft
      go_wp2
      go_ret
      exact ⟨by rw [← hleft]; rfl, hbw⟩

/-! ### The first ':' -/

theorem idx_cases (c : UInt8) : ∀ l : List UInt8, (Lib.indexByte l c = -1 ∧ c ∉ l) ∨ ∃ a b, l = a ++ c :: b ∧ c ∉ a ∧ Lib.indexByte l c = (a.length : Int)
  | [] => .inl ⟨rfl, by simp⟩
  | x :: l => by
    rw [Lib.indexByte]
    by_cases hx : x = c
    · subst hx
      exact .inr ⟨[], l, by simp, by simp, by simp⟩
    · have hx' : (x == c) = false := by simpa using hx
      rcases idx_cases c l with ⟨h1, h2⟩ | ⟨a, b, rfl, h2, h3⟩
      · exact .inl ⟨by rw [h1]; simp [hx], by simp [h2, Ne.symm hx]⟩
      · refine .inr ⟨x :: a, b, by simp, by simp [h2, Ne.symm hx], ?_⟩
        have h4 : ¬ ((a.length : Int) = -1) := by omega
        rw [h3]
        simp [hx, h4]

theorem IndexByte_any (s : ByteArray) (w : World) : Calls Tryd.prog 60 #[.string s, .int .u8 58] w (RetPost (.int .i64 (Lib.indexByte s.data.toList 58)) w) := by
  go_enter Tryd.func60, Tryd.ntmps60
  go_wp2
  rw [run_callFunc_extern Tryd.func66 (by kernel_rfl) (by kernel_rfl) (by kernel_rfl) (e := Extern.BytealgIndexByte.indexByte) (by kernel_rfl), Lib.run_indexByteString]
  simp only [Result.andThen]
  rw [Oper.upon_value]
  go_wp2
  go_ret
  exact ⟨rfl, rfl⟩

set_option maxRecDepth 100000 in
theorem Index_any (s : ByteArray) (w : World) : Calls Tryd.prog 51 #[.string s, .string ⟨#[58]⟩] w (RetPost (.int .i64 (Lib.indexByte s.data.toList 58)) w) := by
  have cI := IndexByte_any s w
  have h0 : s.toList = [58] → Lib.indexByte s.data.toList 58 = 0 := by
    intro he
    rw [ByteArray.toList_eq] at he
    rw [he]; rfl
  generalize Lib.indexByte s.data.toList 58 = I at cI h0 ⊢
  have H0 := Lib.hid h0
  clear h0
  go_enter Tryd.func51, Tryd.ntmps51
  go_wp2_with (go_at_call 60; refine cI.mono ?_; rintro e w' ⟨rfl, rfl⟩)
  · go_ret
    refine ⟨?_, rfl⟩
    rw [H0.out (by simp_all)]
    rfl
  · go_ret
    exact ⟨rfl, rfl⟩

theorem sCut_none (s : ByteArray) (w : World) (h : Lib.indexByte s.data.toList 58 = -1) : Calls Tryd.prog 39 #[.string s, .string ⟨#[58]⟩] w (RetPost (.tuple #[.string s, .string ByteArray.empty, .bool false]) w) := by
  have cI := Index_any s w
  rw [h] at cI
  go_enter Tryd.func39, Tryd.ntmps39
  go_wp2_with (go_at_call 51; refine cI.mono ?_; rintro e w' ⟨rfl, rfl⟩)
  go_ret3
  exact ⟨rfl, rfl⟩

theorem sCut_some (s : ByteArray) (n : Nat) (hn : n < s.size) (hs : s.size ≤ maxLen) (w : World) (h : Lib.indexByte s.data.toList 58 = (n : Int)) :
    Calls Tryd.prog 39 #[.string s, .string ⟨#[58]⟩] w (CopyPost (.tuple #[.string (s.extract 0 n), .string (s.extract (n + 1) s.size), .bool true]) w) := by
  have cI := Index_any s w
  rw [h] at cI
  have hs' : s.size ≤ 9223372036854775807 := by unfold maxLen at hs; omega
  have z0 : (0 : Int) ≤ (n : Int) := by omega
  have z1 : (n : Int) ≤ (s.size : Int) := by omega
  have z2 : (n : Int) + 1 ≤ (s.size : Int) := by omega
  go_enter Tryd.func39, Tryd.ntmps39
  go_wp2_with (go_at_call 51; refine cI.mono ?_; rintro e w' ⟨rfl, rfl⟩)
  go_quiet (fail)
  go_wp2
  go_ret3
  exact ⟨rfl, (Old.rfl' _).drewN _⟩
end Go.Proofs.YtamacndbkjpkaaaDoor
