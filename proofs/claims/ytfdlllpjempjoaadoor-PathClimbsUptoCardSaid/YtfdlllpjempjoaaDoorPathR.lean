/-
  The document's slash, Parent, Base, Kid, Under; Numbered of both.
  Conditions: the texts are not longer than any text is; the table of powers of ten lies in the world.
-/
import Derived.Test.YtfdlllpjempjoaaDoorPathS
import Derived.Lib.ItoaLen
import Derived.Lib.Repeat
namespace Go.Proofs.YtfdlllpjempjoaaDoor
open Go.RowKit
set_option linter.unusedSectionVars false
set_option linter.unusedSimpArgs false
set_option linter.unusedVariables false
set_option maxRecDepth 100000

theorem slash_any (s : ByteArray) (hs : s.size ≤ 4611686018427387903) (w : World) : Calls Tryd.prog 25 #[.string s] w (CopyPost (.int .i64 (Lib.lastIndexByte s 47)) w) := by
  have hs' : s.size ≤ 9223372036854775807 := by omega
  go_enter Tryd.func25, Tryd.ntmps25
  go_wp2
  go_loopg [3] s.size (fun g y3 wr => g ≤ s.size ∧ y3 = .int .i64 ((g : Int) - 1) ∧ Old w wr ∧ Lib.lastIdx s 47 g = Lib.lastIndexByte s 47)
  case atStart => exact ⟨Nat.le_refl _, rfl, Old.rfl' _, rfl⟩
  case round =>
    obtain ⟨hg, rfl, hO, hl⟩ := hrel
    by_cases hg0 : gk = 0
    · subst hg0
      have zz : ((0 : Nat) : Int) - 1 = -1 := by omega
      have HL := Lib.hid hl
      clear hl
      go_wp2
      go_ret
      exact ⟨by rw [← HL.out] <;> rfl, hO⟩
    · obtain ⟨m, rfl⟩ : ∃ m, gk = m + 1 := ⟨gk - 1, by omega⟩
      have zm : ((m + 1 : Nat) : Int) - 1 = (m : Int) := by omega
      have hm : m < s.size := by omega
      have zms : (m : Int) < (s.size : Int) := by omega
      have hb : ((s.data[m]!).toNat : Int) = (s[m].toNat : Int) := by rw [getElem!_pos s.data m hm]; rfl
      by_cases h47 : s[m].toNat = 47
      · have z47 : ((s[m].toNat : Int) == 47) = true := by simpa using (show (s[m].toNat : Int) = 47 by omega)
        have hv := Lib.lastIdx_hit s 47 m (by rw [hb]; omega)
        rw [hl] at hv
        have HV := Lib.hid hv
        clear hv hl hb
        go_wp2
        go_ret
        exact ⟨by rw [HV.out, ← zm] <;> rfl, hO⟩
      · have z47 : ((s[m].toNat : Int) == 47) = false := by simpa using (show ¬ (s[m].toNat : Int) = 47 by omega)
        have hv := Lib.lastIdx_miss s 47 m (by rw [hb]; omega)
        rw [hl] at hv
        have HV := Lib.hid hv
        clear hv hl hb
        go_wp2
        go_roundg m
        case measure => omega
        case rel => exact ⟨by omega, rfl, hO, HV.out.symm⟩

theorem refParent_any (s : ByteArray) (hs : s.size ≤ 4611686018427387903) (w : World) : Calls Tryd.prog 12 #[.string s] w (CopyPost (.string (bs (parentL s.data.toList))) w) := by
  have cL := slash_any s hs w
  have hs' : s.size ≤ 9223372036854775807 := by omega
  rcases last_cases s with ⟨h1, h2⟩ | ⟨x, y, h0, hy, h1, h2⟩
  · rw [h1] at cL
    have hv : parentL s.data.toList = [] := by rw [parentL, h2]
    rw [hv]
    go_enter Tryd.func12, Tryd.ntmps12
    go_wp2_with (go_at_call 25; refine cL.mono ?_; rintro e w' ⟨rfl, hO⟩)
    go_ret
    exact ⟨rfl, hO⟩
  · rw [h1] at cL
    have hsz : s.size = x.length + 1 + y.length := by rw [size_list, h0]; simp; omega
    by_cases hr : s.data.toList = [47]
    · have hv : parentL s.data.toList = [] := by rw [parentL, h2]; simp [hr]
      have hq := toList_beq' hr
      rw [hv]
      have z0 : ¬ ((x.length : Nat) : Int) < 0 := by omega
      go_enter Tryd.func12, Tryd.ntmps12
      go_wp2_with (go_at_call 25; refine cL.mono ?_; rintro e w' ⟨rfl, hO⟩)
      go_ret
      exact ⟨rfl, hO⟩
    · have hq := toList_beq hr
      obtain ⟨n, hn⟩ : ∃ n, x.length = n := ⟨_, rfl⟩
      rw [hn] at cL hsz
      by_cases hx : x = []
      · have hv : parentL s.data.toList = [47] := by rw [parentL, h2]; simp [hr, hx]
        have hn0 : n = 0 := by rw [← hn, hx]; rfl
        subst hn0
        rw [hv]
        go_enter Tryd.func12, Tryd.ntmps12
        go_wp2_with (go_at_call 25; refine cL.mono ?_; rintro e w' ⟨rfl, hO⟩)
        go_ret
        exact ⟨rfl, hO⟩
      · have hv : parentL s.data.toList = x := by rw [parentL, h2]; simp [hr, hx]
        have hn1 : 1 ≤ n := by rw [← hn]; exact List.length_pos_iff.2 hx
        have zq : ((n : Int) == 0) = false := by simpa using (show ¬ (n : Int) = 0 by omega)
        have hE : s.extract 0 n = bs x := by
          apply bs_of
          rw [Lib.extract_data, h0, ← hn]; simp
        rw [hv]
        clear h0 h1 h2 hx hv
        go_enter Tryd.func12, Tryd.ntmps12
        go_wp2_with (go_at_call 25; refine cL.mono ?_; rintro e w' ⟨rfl, hO⟩)
        go_ret
        exact ⟨rfl, hO⟩

theorem base_cut (s : ByteArray) : ∃ n : Nat, Lib.lastIndexByte s 47 + 1 = (n : Int) ∧ n ≤ s.size ∧ s.extract n s.size = bs (baseL s.data.toList) := by
  rcases last_cases s with ⟨h1, h2⟩ | ⟨x, y, h0, hy, h1, h2⟩
  · refine ⟨0, by rw [h1]; rfl, Nat.zero_le _, ?_⟩
    rw [baseL, h2]
    apply bs_of
    rw [Lib.extract_data, size_list, List.drop_zero, Nat.sub_zero, List.take_length]
  · refine ⟨x.length + 1, by rw [h1]; omega, by rw [size_list, h0]; simp, ?_⟩
    rw [baseL, h2]
    apply bs_of
    rw [Lib.extract_data, size_list, h0, ← List.drop_drop, List.drop_left]
    exact List.take_of_length_le (by simp; omega)
theorem refBase_any (s : ByteArray) (hs : s.size ≤ 4611686018427387903) (w : World) : Calls Tryd.prog 14 #[.string s] w (CopyPost (.string (bs (baseL s.data.toList))) w) := by
  have cL := slash_any s hs w
  have hs' : s.size ≤ 9223372036854775807 := by omega
  obtain ⟨n, hn, hns, hE⟩ := base_cut s
  generalize Lib.lastIndexByte s 47 = K at cL hn
  have zK : K = (n : Int) - 1 := by omega
  subst zK
  have zn : (n : Int) - 1 + 1 = (n : Int) := by omega
  have zns : (n : Int) ≤ (s.size : Int) := by omega
  clear hn
  go_enter Tryd.func14, Tryd.ntmps14
  go_wp2_with (go_at_call 25; refine cL.mono ?_; rintro e w' ⟨rfl, hO⟩)
  all_goals
    go_ret
    exact ⟨by first | rfl | (rw [← hE] <;> rfl), hO⟩

theorem refKid_any (p n : ByteArray) (hp : p.size ≤ 4611686018427387903) (hn : n.size ≤ 4611686018427387902) (w : World) : Calls Tryd.prog 16 #[.string p, .string n] w (CopyPost (.string (bs (kidL p.data.toList n.data.toList))) w) := by
  by_cases hr : p.data.toList = [47]
  · have hq := toList_beq' hr
    have hE : bs (kidL p.data.toList n.data.toList) = p ++ n := by
      apply ByteArray.ext
      apply Array.toList_inj.1
      simp [bs, kidL, ByteArray.data_append, hr]
    rw [hE]
    clear hE
    go_enter Tryd.func16, Tryd.ntmps16
    go_wp2
    go_ret
    exact ⟨rfl, Old.rfl' _⟩
  · have hq := toList_beq hr
    have hE : bs (kidL p.data.toList n.data.toList) = p ++ ⟨#[47]⟩ ++ n := by
      apply ByteArray.ext
      apply Array.toList_inj.1
      simp [bs, kidL, ByteArray.data_append, hr]
    rw [hE]
    clear hE
    go_enter Tryd.func16, Tryd.ntmps16
    go_wp2
    go_ret
    exact ⟨rfl, Old.rfl' _⟩

theorem under_take (l k : List UInt8) : (k.isPrefixOf l && decide (l ≠ k)) = (decide (k.length < l.length) && decide (l.take k.length = k)) := by
  rw [Bool.eq_iff_iff]
  simp only [Bool.and_eq_true, decide_eq_true_eq, List.isPrefixOf_iff_prefix]
  constructor
  · rintro ⟨⟨t, rfl⟩, hne⟩
    have : t ≠ [] := fun e => hne (by rw [e, List.append_nil])
    exact ⟨by rw [List.length_append]; have := List.length_pos_iff.2 this; omega, List.take_left⟩
  · rintro ⟨h1, h2⟩
    refine ⟨⟨l.drop k.length, by rw [← h2, List.length_take, Nat.min_eq_left (by omega), List.take_append_drop]⟩, ?_⟩
    rintro rfl
    omega
theorem refUnder_any (p q : ByteArray) (hp : p.size ≤ 4611686018427387903) (hq : q.size ≤ 4611686018427387902) (w : World) : Calls Tryd.prog 18 #[.string p, .string q] w (CopyPost (.bool (underL p.data.toList q.data.toList)) w) := by
  have cK := refKid_any q ByteArray.empty (by omega) (by simp) w
  rw [show (ByteArray.empty.data.toList : List UInt8) = [] from rfl] at cK
  obtain ⟨Y, hY⟩ : ∃ Y, bs (kidL q.data.toList []) = Y := ⟨_, rfl⟩
  have hYl : Y.data.toList = kidL q.data.toList [] := by rw [← hY, bs_list]
  have hYs : Y.size ≤ 4611686018427387903 := by
    rw [size_list, hYl, kidL]
    have := size_list q
    split <;> simp <;> omega
  rw [hY] at cK
  rw [underL, ← hYl, under_take, ← size_list, ← size_list]
  by_cases hlt : Y.size < p.size
  · have z : (Y.size : Int) < (p.size : Int) := by omega
    have hx : ((p.extract 0 Y.size).toList == Y.toList) = decide (p.data.toList.take Y.size = Y.data.toList) := by
      rw [ByteArray.toList_eq, ByteArray.toList_eq, Lib.extract_data, List.drop_zero, Nat.sub_zero, Bool.eq_iff_iff]; simp
    rw [decide_eq_true hlt, Bool.true_and, ← hx]
    clear hx hY hYl
    go_enter Tryd.func18, Tryd.ntmps18
    go_wp2_with (go_at_call 16; refine cK.mono ?_; rintro e w' ⟨rfl, hO⟩)
    go_ret
    exact ⟨rfl, hO⟩
  · have z : ¬ (Y.size : Int) < (p.size : Int) := by omega
    rw [decide_eq_false hlt, Bool.false_and]
    clear hY hYl
    go_enter Tryd.func18, Tryd.ntmps18
    go_wp2_with (go_at_call 16; refine cK.mono ?_; rintro e w' ⟨rfl, hO⟩)
    go_ret
    exact ⟨rfl, hO⟩
end Go.Proofs.YtfdlllpjempjoaaDoor
