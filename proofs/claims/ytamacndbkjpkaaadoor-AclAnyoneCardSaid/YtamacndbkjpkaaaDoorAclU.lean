/-
  strings.Cut at ':', what an ID is (plain), the program's isID and the document's IsID.
  No condition.
-/
import Derived.Test.YtamacndbkjpkaaaDoorAclT
import Derived.Lib.Strings
namespace Go.Proofs.YtamacndbkjpkaaaDoor
open Go.RowKit
set_option linter.unusedSectionVars false
set_option linter.unusedSimpArgs false
set_option linter.unusedVariables false

theorem Cut_none (s : ByteArray) (w : World) (h : Lib.indexByte s.data.toList 58 = -1) : Calls Tryd.prog 25 #[.string s, .string ⟨#[58]⟩] w (RetPost (.tuple #[.string s, .string ByteArray.empty, .bool false]) w) := by
  have cI := sCut_none s w h
  go_enter Tryd.func25, Tryd.ntmps25
  go_wp2_with (go_at_call 39; refine cI.mono ?_; rintro e w' ⟨rfl, rfl⟩)
  go_ret3
  exact ⟨rfl, rfl⟩

theorem Cut_some (s : ByteArray) (n : Nat) (hn : n < s.size) (hs : s.size ≤ maxLen) (w : World) (h : Lib.indexByte s.data.toList 58 = (n : Int)) :
    Calls Tryd.prog 25 #[.string s, .string ⟨#[58]⟩] w (CopyPost (.tuple #[.string (s.extract 0 n), .string (s.extract (n + 1) s.size), .bool true]) w) := by
  have cI := sCut_some s n hn hs w h
  go_enter Tryd.func25, Tryd.ntmps25
  go_wp2_with (go_at_call 39; refine cI.mono ?_; rintro e w' ⟨rfl, hb⟩)
  go_ret3
  exact ⟨rfl, hb⟩

/-! ### An ID -/

/-- What stands before a ':' and what behind make an ID. -/
def pairL (a b : List UInt8) : Bool := isUserL a && decide (b.length = 16) && onlyB hex b
def longIDL (l : List UInt8) : Bool := decide (18 ≤ l.length) && decide (l[l.length - 17]? = some 58) && isUserL (l.take (l.length - 17)) && onlyB hex (l.drop (l.length - 17 + 1))
def isIDL (s : ByteArray) : Bool := decide (s = world) || longIDL s.data.toList

theorem onlyB_mem (q : Nat → Bool) (l : List UInt8) : onlyB q l = true ↔ ∀ b ∈ l, q b.toNat = true := by simp [onlyB]

theorem longIDL_none (l : List UInt8) (h : (58 : UInt8) ∉ l) : longIDL l = false := by
  rw [Bool.eq_false_iff]
  intro hx
  simp only [longIDL, Bool.and_eq_true, decide_eq_true_eq] at hx
  exact h (List.mem_of_getElem? hx.1.1.2)
theorem longIDL_pair (a b : List UInt8) (h : (58 : UInt8) ∉ a) : longIDL (a ++ 58 :: b) = pairL a b := by
  by_cases hb : b.length = 16
  · have hn : (a ++ 58 :: b).length - 17 = a.length := by simp [hb]
    have ht : (a ++ 58 :: b).take a.length = a := List.take_left
    have hd : (a ++ 58 :: b).drop (a.length + 1) = b := by
      rw [← List.drop_drop, List.drop_left]; rfl
    have hg : (a ++ 58 :: b)[a.length]? = some 58 := by simp
    rw [longIDL, hn, ht, hd, hg, pairL]
    by_cases h1 : 1 ≤ a.length
    · have : 18 ≤ (a ++ 58 :: b).length := by simp [hb]; omega
      rw [decide_eq_true this]
      simp [hb]
    · have : isUserL a = false := by simp [isUserL]; omega
      simp [this]
  · have hp : pairL a b = false := by simp [pairL, hb]
    rw [hp, Bool.eq_false_iff]
    intro hx
    simp only [longIDL, Bool.and_eq_true, decide_eq_true_eq, isUserL] at hx
    obtain ⟨⟨⟨h18, hg⟩, ⟨-, -⟩, hu⟩, -⟩ := hx
    rcases Nat.lt_trichotomy ((a ++ 58 :: b).length - 17) a.length with hlt | heq | hgt
    · rw [List.getElem?_append_left hlt] at hg
      exact h (List.mem_of_getElem? hg)
    · apply hb
      simp at heq h18
      omega
    · have := (onlyB_mem _ _).1 hu 58 (by
        rw [List.take_append]
        refine List.mem_append_right _ ?_
        obtain ⟨k, hk⟩ : ∃ k, (a ++ 58 :: b).length - 17 - a.length = k + 1 := ⟨(a ++ 58 :: b).length - 17 - a.length - 1, by omega⟩
        rw [hk, List.take_succ_cons]
        exact List.mem_cons_self)
      exact absurd this (by decide)

theorem toList_ne {s t : ByteArray} (h : ¬ s = t) : ¬ s.toList = t.data.toList := by
  intro e
  rw [ByteArray.toList_eq] at e
  exact h (ByteArray.ext (Array.toList_inj.1 e))

theorem toList_beq {s t : ByteArray} (h : ¬ s = t) : (s.toList == t.data.toList) = false := by
  rw [Bool.eq_false_iff]
  intro e
  exact toList_ne h (by simpa using e)

theorem isID_world (w : World) : Calls Tryd.prog 16 #[.string ⟨#[119, 111, 114, 108, 100]⟩] w (CopyPost (.bool true) w) := by
  have cC := Cut_none ⟨#[119, 111, 114, 108, 100]⟩ w (by decide)
  go_enter Tryd.func16, Tryd.ntmps16
  go_wp2_with (go_at_call 25; refine cC.mono ?_; rintro e w' ⟨rfl, rfl⟩)
  go_ret
  exact ⟨rfl, Old.rfl' _⟩

theorem isID_none (s : ByteArray) (hne : ¬ s = world) (h : Lib.indexByte s.data.toList 58 = -1) (w : World) : Calls Tryd.prog 16 #[.string s] w (CopyPost (.bool false) w) := by
  have cC := Cut_none s w h
  have hE : (s.toList == [119, 111, 114, 108, 100]) = false := toList_beq hne
  go_enter Tryd.func16, Tryd.ntmps16
  go_wp2_with (go_at_call 25; refine cC.mono ?_; rintro e w' ⟨rfl, rfl⟩)
  go_ret
  exact ⟨rfl, Old.rfl' _⟩

theorem isID_some (s : ByteArray) (hne : ¬ s = world) (a b : List UInt8) (hl : s.data.toList = a ++ 58 :: b) (h : Lib.indexByte s.data.toList 58 = (a.length : Int)) (hs : s.size ≤ maxLen) (w : World) : Calls Tryd.prog 16 #[.string s] w (CopyPost (.bool (pairL a b)) w) := by
  have hsz : s.size = a.length + (b.length + 1) := by
    have : s.data.toList.length = s.size := by rw [Array.length_toList]; rfl
    rw [← this, hl]; simp
  have cC := Cut_some s a.length (by omega) hs w h
  have hE : (s.toList == [119, 111, 114, 108, 100]) = false := toList_beq hne
  obtain ⟨X, hX⟩ : ∃ X, s.extract 0 a.length = X := ⟨_, rfl⟩
  obtain ⟨Y, hY⟩ : ∃ Y, s.extract (a.length + 1) s.size = Y := ⟨_, rfl⟩
  have hXl : X.data.toList = a := by
    rw [← hX, Lib.extract_data, hl]; simp
  have hYl : Y.data.toList = b := by
    rw [← hY, Lib.extract_data, hl, hsz, ← List.drop_drop, List.drop_left]
    exact List.take_of_length_le (by simp; omega)
  have hXs : X.size = a.length := by rw [← hXl, Array.length_toList]; rfl
  have hYs : Y.size = b.length := by rw [← hYl, Array.length_toList]; rfl
  rw [hX, hY] at cC
  have cU := fun w => isUser_any X (by omega) w
  have cO := fun w => only_any _ hex takes_hex hex_low Y w
  rw [hXl] at cU
  rw [hYl] at cO
  clear hX hY hXl hYl hl h hsz
  cases hu : isUserL a
  · have hp : pairL a b = false := by simp [pairL, hu]
    rw [hu] at cU
    rw [hp]
    go_enter Tryd.func16, Tryd.ntmps16
    go_wp2_with (first | (go_at_call 25; refine cC.mono ?_; rintro e w' ⟨rfl, hb1⟩) | (go_at_call 21; refine (cU _).mono ?_; rintro e w'' ⟨rfl, hb2⟩))
    go_ret
    exact ⟨rfl, hb1.join hb2⟩
  · rw [hu] at cU
    by_cases h16 : b.length = 16
    · have z : (Y.size : Int) = 16 := by omega
      have hp : pairL a b = onlyB hex b := by simp [pairL, hu, h16]
      rw [hp]
      generalize onlyB hex b = V at cO ⊢
      clear hp h16 hYs hXs
      go_enter Tryd.func16, Tryd.ntmps16
      go_wp2_with (first | (go_at_call 25; refine cC.mono ?_; rintro e w' ⟨rfl, hb1⟩) | (go_at_call 21; refine (cU _).mono ?_; rintro e w'' ⟨rfl, hb2⟩) | (go_at_call 26; refine (cO _).mono ?_; rintro e w3 ⟨rfl, hb3⟩))
      go_ret
      exact ⟨rfl, (hb1.join hb2).join hb3⟩
    · have z : ((Y.size : Int) == 16) = false := by simpa using (show ¬ (Y.size : Int) = 16 by omega)
      have hp : pairL a b = false := by simp [pairL, h16]
      rw [hp]
      clear hp h16 hYs hXs
      go_enter Tryd.func16, Tryd.ntmps16
      go_wp2_with (first | (go_at_call 25; refine cC.mono ?_; rintro e w' ⟨rfl, hb1⟩) | (go_at_call 21; refine (cU _).mono ?_; rintro e w'' ⟨rfl, hb2⟩))
      go_ret
      exact ⟨rfl, hb1.join hb2⟩

theorem isID_any (s : ByteArray) (hs : s.size ≤ maxLen) (w : World) : Calls Tryd.prog 16 #[.string s] w (CopyPost (.bool (isIDL s)) w) := by
  by_cases hw : s = world
  · have hv : isIDL s = true := by simp [isIDL, hw]
    rw [hv, hw]
    exact isID_world w
  · rcases idx_cases 58 s.data.toList with ⟨h1, h2⟩ | ⟨a, b, hl, h2, h3⟩
    · have hv : isIDL s = false := by simp [isIDL, hw, longIDL_none _ h2]
      rw [hv]
      exact isID_none s hw h1 w
    · have hv : isIDL s = pairL a b := by rw [isIDL, hl, longIDL_pair _ _ h2]; simp [hw]
      rw [hv]
      exact isID_some s hw a b hl h3 hs w

/-! ### The document's -/

theorem IsID_world (w : World) : Calls Tryd.prog 18 #[.string ⟨#[119, 111, 114, 108, 100]⟩] w (CopyPost (.bool true) w) := by
  go_enter Tryd.func18, Tryd.ntmps18
  go_wp2
  go_ret
  exact ⟨rfl, Old.rfl' _⟩

theorem IsID_any (s : ByteArray) (hs : s.size ≤ maxLen) (w : World) : Calls Tryd.prog 18 #[.string s] w (CopyPost (.bool (isIDL s)) w) := by
  by_cases hw : s = world
  · have hv : isIDL s = true := by simp [isIDL, hw]
    rw [hv, hw]
    exact IsID_world w
  have hE : (s.toList == [119, 111, 114, 108, 100]) = false := toList_beq hw
  have hv : isIDL s = longIDL s.data.toList := by simp [isIDL, hw]
  rw [hv]
  have hl : s.data.toList.length = s.size := by rw [Array.length_toList]; rfl
  have hs' : s.size ≤ 9223372036854775807 := by unfold maxLen at hs; omega
  clear hv hw
  by_cases h18 : s.size < 18
  · have hv : longIDL s.data.toList = false := by simp [longIDL, hl]; omega
    rw [hv]
    have z : (s.size : Int) - 17 < 1 := by omega
    go_enter Tryd.func18, Tryd.ntmps18
    go_wp2
    go_ret
    exact ⟨rfl, Old.rfl' _⟩
  obtain ⟨n, hn⟩ : ∃ n, s.size = n + 17 := ⟨s.size - 17, by omega⟩
  have hn17 : s.data.toList.length - 17 = n := by omega
  have hge : s.data.toList[n]? = some s[n] := by
    rw [Array.getElem?_toList, Array.getElem?_eq_getElem (show n < s.data.size by show n < s.size; omega)]; rfl
  obtain ⟨X, hX⟩ : ∃ X, s.extract 0 n = X := ⟨_, rfl⟩
  have hXl : X.data.toList = s.data.toList.take n := by
    rw [← hX, Lib.extract_data]; simp
  have hXs : X.size ≤ s.size := by
    have : X.data.toList.length = X.size := by rw [Array.length_toList]; rfl
    rw [← this, hXl, List.length_take]; omega
  have hv : longIDL s.data.toList = (decide (s[n] = 58) && isUserL (s.data.toList.take n) && onlyB hex (s.data.toList.drop (n + 1))) := by
    rw [longIDL, hn17, hge, decide_eq_true (show 18 ≤ s.data.toList.length by omega)]; simp
  rw [hv]
  have cU := fun w => user_any X (Nat.le_trans hXs hs) w
  rw [hXl] at cU
  have zn : (s.size : Int) - 17 = (n : Int) := by omega
  have z1 : ¬ (n : Int) < 1 := by omega
  have z2 : (n : Int) < (s.size : Int) := by omega
  have z3 : n < s.size := by omega
  have z4 : (0 : Int) ≤ (n : Int) := by omega
  have z5 : (n : Int) ≤ (s.size : Int) := by omega
  clear hv hge hXl hXs
  by_cases h58 : s[n] = 58
  · have e58 : s[n].toNat = 58 := by rw [h58]; rfl
    cases hu : isUserL (s.data.toList.take n)
    · rw [hu] at cU
      rw [Bool.and_false, Bool.false_and]
      go_enter Tryd.func18, Tryd.ntmps18
      go_wp2_with (go_at_call 24; refine (cU _).mono ?_; rintro e w'' ⟨rfl, hb2⟩)
      go_ret
      exact ⟨rfl, hb2⟩
    · rw [hu] at cU
      have hv : (decide (s[n] = 58) && true && onlyB hex (s.data.toList.drop (n + 1))) = onlyB hex (s.data.toList.drop (n + 1)) := by simp [h58]
      rw [hv]
      clear hv
      go_enter Tryd.func18, Tryd.ntmps18
      go_wp2_with (go_at_call 24; refine (cU _).mono ?_; rintro e w'' ⟨rfl, hb2⟩)
      trace_state
      go_loopg [4] s.size (fun gf s4 wx => ∃ i : Nat, s4 = .int .i64 (i : Int) ∧ i ≤ s.size ∧ Old w wx ∧ onlyB hex (s.data.toList.drop i) = onlyB hex (s.data.toList.drop (n + 1)) ∧ s.size ≤ i + gf)
      case atStart => exact ⟨n + 1, rfl, by omega, hb2, rfl, by omega⟩
      case round =>
        obtain ⟨i, rfl, hi, hbw, hleft, hfu⟩ := hrel
        by_cases hlt : i < s.size
        · have zl : (i : Int) < (s.size : Int) := by omega
          obtain ⟨g', rfl⟩ : ∃ g', gk = g' + 1 := ⟨gk - 1, by omega⟩
          rw [drop_cons s i hlt, onlyB_cons] at hleft
          have hu := hex_iff s[i].toNat
          clear z1 z2 z4 z5 zn
          go_wp2
          all_goals first
            | (exfalso; omega)
            | (go_ret
               exact ⟨by rw [← hleft, show hex s[i].toNat = false from Bool.eq_false_iff.2 (fun h => by have := hu.1 h; omega)]; rfl, hbw⟩)
            | (go_roundg g'
               case measure => omega
               case rel => exact ⟨i + 1, rfl, by omega, hbw, by rw [← hleft, hu.2 (by omega), Bool.true_and], by omega⟩)
        · have zl : ¬ (i : Int) < (s.size : Int) := by omega
          have hd : s.data.toList.drop i = [] := List.drop_eq_nil_of_le (by omega)
          rw [hd] at hleft
          go_wp2
          go_ret
          exact ⟨by rw [← hleft]; rfl, hbw⟩
  · have e58 : ¬ s[n].toNat = 58 := fun h => h58 (UInt8.toNat_inj.1 h)
    have hv : (decide (s[n] = 58) && isUserL (s.data.toList.take n) && onlyB hex (s.data.toList.drop (n + 1))) = false := by simp [h58]
    rw [hv]
    go_enter Tryd.func18, Tryd.ntmps18
    go_wp2
    go_ret
    exact ⟨rfl, Old.rfl' _⟩
end Go.Proofs.YtamacndbkjpkaaaDoor
