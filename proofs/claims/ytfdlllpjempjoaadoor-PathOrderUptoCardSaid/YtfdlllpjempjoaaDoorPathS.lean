/-
  Parent, Base, Kid, Under of package path.
  Conditions: the texts are not longer than any text is.
-/
import Derived.Test.YtfdlllpjempjoaaDoorRows
import Derived.Test.YtfdlllpjempjoaaDoorShelfF
import Derived.Test.YtfdlllpjempjoaaDoorPathQ
import Derived.Test.YtfdlllpjempjoaaDoorLib
import Derived.Test.YtfdlllpjempjoaaDoorFlat
import Derived.Test.YtfdlllpjempjoaaDoorConv
import Derived.Deep.LoopGhost
import Derived.BigQuiet
namespace Go.Proofs.YtfdlllpjempjoaaDoor
open Go.RowKit
set_option linter.unusedSectionVars false
set_option linter.unusedSimpArgs false
set_option linter.unusedVariables false
set_option maxRecDepth 100000

abbrev Old (w w' : World) : Prop := Mod (fun _ => False) w w'
theorem Old.of {w w' : World} (h : Below w.heap.size w w') : Old w w' := ⟨h.os, h.tape, h.output, h.size, fun b hb _ => h.block b hb⟩
theorem Old.join {a b c : World} (h : Old a b) (k : Old b c) : Old a c := h.trans k (fun _ _ h => h) (fun _ _ h => h)
theorem Old.rfl' (w : World) : Old w w := Mod.refl _ w
def RetPost (v : Value) (w : World) (e : Ending) (w' : World) : Prop := e = .returned v ∧ w' = w
def CopyPost (v : Value) (w : World) (e : Ending) (w' : World) : Prop := e = .returned v ∧ Old w w'

/-- A text of these bytes. -/
def bs (l : List UInt8) : ByteArray := ⟨l.toArray⟩
theorem bs_list (l : List UInt8) : (bs l).data.toList = l := by simp [bs]
theorem bs_size (l : List UInt8) : (bs l).size = l.length := by show l.toArray.size = _; simp
theorem bs_of {s : ByteArray} {l : List UInt8} (h : s.data.toList = l) : s = bs l := ByteArray.ext (by rw [bs, ← h])
theorem size_list (s : ByteArray) : s.size = s.data.toList.length := by rw [Array.length_toList]; rfl
theorem toList_beq {s : ByteArray} {l : List UInt8} (h : ¬ s.data.toList = l) : (s.toList == l) = false := by
  rw [ByteArray.toList_eq, Bool.eq_false_iff]; simpa using h
theorem toList_beq' {s : ByteArray} {l : List UInt8} (h : s.data.toList = l) : (s.toList == l) = true := by
  rw [ByteArray.toList_eq]; simpa using h

theorem get_bang (s : ByteArray) (j : Nat) (h : j < s.size) : s.data[j]! = s.data.toList[j]'(by rw [Array.length_toList]; exact h) := by
  rw [getElem!_pos s.data j h]; simp
theorem last_cases (s : ByteArray) : (Lib.lastIndexByte s 47 = -1 ∧ lastCut s.data.toList = none) ∨
    ∃ x y, s.data.toList = x ++ 47 :: y ∧ (47 : UInt8) ∉ y ∧ Lib.lastIndexByte s 47 = (x.length : Int) ∧ lastCut s.data.toList = some (x, y) := by
  have key : ∀ j (h : j < s.size), ((s.data[j]!).toNat : Int) = 47 ↔ s.data.toList[j]'(by rw [Array.length_toList]; exact h) = 47 := fun j h => by
    rw [get_bang s j h]
    constructor
    · intro e; exact UInt8.toNat_inj.1 (by show _ = 47; omega)
    · intro e; rw [e]; rfl
  have hl : s.data.toList.length = s.size := (size_list s).symm
  rcases Lib.lastIndexByte_spec s 47 with ⟨h1, h2⟩ | ⟨i, hi, h1, h2, h3⟩
  · refine .inl ⟨h1, lastCut_none.2 fun hm => ?_⟩
    obtain ⟨j, hj, he⟩ := List.mem_iff_getElem.1 hm
    exact h2 j (by omega) ((key j (by omega)).2 he)
  · have e : s.data.toList = s.data.toList.take i ++ 47 :: s.data.toList.drop (i + 1) := by
      have : s.data.toList[i]'(by omega) = 47 := (key i hi).1 h2
      rw [← this, List.getElem_cons_drop, List.take_append_drop]
    have hn : (47 : UInt8) ∉ s.data.toList.drop (i + 1) := by
      intro hm
      obtain ⟨j, hj, he⟩ := List.mem_iff_getElem.1 hm
      rw [List.length_drop] at hj
      rw [List.getElem_drop] at he
      exact h3 (i + 1 + j) (by omega) (by omega) ((key _ (by omega)).2 he)
    refine .inr ⟨_, _, e, hn, by rw [h1, List.length_take]; omega, ?_⟩
    have := lastCut_mk (s.data.toList.take i) _ hn
    rw [← e] at this
    exact this

theorem Parent_any (s : ByteArray) (hs : s.size < 4611686018427387904) (w : World) : Calls Tryd.prog 11 #[.string s] w (CopyPost (.string (bs (parentL s.data.toList))) w) := by
  have cL := Tryd.strings_LastIndexByte s 47 hs w
  have hs' : s.size ≤ 9223372036854775807 := by omega
  rcases last_cases s with ⟨h1, h2⟩ | ⟨x, y, h0, hy, h1, h2⟩
  · rw [h1] at cL
    have hv : parentL s.data.toList = [] := by rw [parentL, h2]
    rw [hv]
    go_enter Tryd.func11, Tryd.ntmps11
    go_wp2_with (go_at_call 24; refine cL.mono ?_; rintro e w' ⟨rfl, rfl⟩)
    go_ret
    exact ⟨rfl, Old.rfl' _⟩
  · rw [h1] at cL
    have hsz : s.size = x.length + 1 + y.length := by rw [size_list, h0]; simp; omega
    by_cases hr : s.data.toList = [47]
    · have hv : parentL s.data.toList = [] := by rw [parentL, h2]; simp [hr]
      have hq := toList_beq' hr
      rw [hv]
      have z0 : ¬ ((x.length : Nat) : Int) < 0 := by omega
      go_enter Tryd.func11, Tryd.ntmps11
      go_wp2_with (go_at_call 24; refine cL.mono ?_; rintro e w' ⟨rfl, rfl⟩)
      go_ret
      exact ⟨rfl, Old.rfl' _⟩
    · have hq := toList_beq hr
      obtain ⟨n, hn⟩ : ∃ n, x.length = n := ⟨_, rfl⟩
      rw [hn] at cL hsz
      by_cases hx : x = []
      · have hv : parentL s.data.toList = [47] := by rw [parentL, h2]; simp [hr, hx]
        have hn0 : n = 0 := by rw [← hn, hx]; rfl
        subst hn0
        rw [hv]
        go_enter Tryd.func11, Tryd.ntmps11
        go_wp2_with (go_at_call 24; refine cL.mono ?_; rintro e w' ⟨rfl, rfl⟩)
        go_ret
        exact ⟨rfl, Old.rfl' _⟩
      · have hv : parentL s.data.toList = x := by rw [parentL, h2]; simp [hr, hx]
        have hn1 : 1 ≤ n := by rw [← hn]; exact List.length_pos_iff.2 hx
        have zq : ((n : Int) == 0) = false := by simpa using (show ¬ (n : Int) = 0 by omega)
        have hE : s.extract 0 n = bs x := by
          apply bs_of
          rw [Lib.extract_data, h0, ← hn]; simp
        rw [hv]
        clear h0 h1 h2 hx hv
        go_enter Tryd.func11, Tryd.ntmps11
        go_wp2_with (go_at_call 24; refine cL.mono ?_; rintro e w' ⟨rfl, rfl⟩)
        go_ret
        exact ⟨rfl, Old.rfl' _⟩

theorem Base_any (s : ByteArray) (hs : s.size < 4611686018427387904) (w : World) : Calls Tryd.prog 13 #[.string s] w (CopyPost (.string (bs (baseL s.data.toList))) w) := by
  have cL := Tryd.strings_LastIndexByte s 47 hs w
  have hs' : s.size ≤ 9223372036854775807 := by omega
  obtain ⟨n, hn, hns, hE⟩ : ∃ n : Nat, Lib.lastIndexByte s 47 + 1 = (n : Int) ∧ n ≤ s.size ∧ s.extract n s.size = bs (baseL s.data.toList) := by
    rcases last_cases s with ⟨h1, h2⟩ | ⟨x, y, h0, hy, h1, h2⟩
    · refine ⟨0, by rw [h1]; rfl, Nat.zero_le _, ?_⟩
      rw [baseL, h2]
      apply bs_of
      rw [Lib.extract_data, size_list, List.drop_zero, Nat.sub_zero, List.take_length]
    · refine ⟨x.length + 1, by rw [h1]; omega, by rw [size_list, h0]; simp, ?_⟩
      rw [baseL, h2]
      apply bs_of
      rw [Lib.extract_data, size_list, h0, ← List.drop_drop, List.drop_left]
      exact List.take_of_length_le (by simp; omega)
  generalize Lib.lastIndexByte s 47 = K at cL hn
  have zK : K = (n : Int) - 1 := by omega
  subst zK
  have zn : (n : Int) - 1 + 1 = (n : Int) := by omega
  have zns : (n : Int) ≤ (s.size : Int) := by omega
  clear hn
  go_enter Tryd.func13, Tryd.ntmps13
  go_wp2_with (go_at_call 24; refine cL.mono ?_; rintro e w' ⟨rfl, rfl⟩)
  all_goals
    go_ret
    exact ⟨by first | rfl | (rw [← hE] <;> rfl), Old.rfl' _⟩

theorem slashOf_any (s : ByteArray) (w : World) : Calls Tryd.prog 27 #[.string s] w (CopyPost (.string (bs (if s.data.toList = [47] then [47] else []))) w) := by
  by_cases hr : s.data.toList = [47]
  · have hq := toList_beq' hr
    rw [if_pos hr]
    go_enter Tryd.func27, Tryd.ntmps27
    go_wp2
    go_ret
    exact ⟨rfl, Old.rfl' _⟩
  · have hq := toList_beq hr
    rw [if_neg hr]
    go_enter Tryd.func27, Tryd.ntmps27
    go_wp2
    go_ret
    exact ⟨rfl, Old.rfl' _⟩

theorem trim_slash (l : List UInt8) : Lib.trimSuffix l (if l = [47] then [47] else []) = if l = [47] then [] else l := by
  by_cases h : l = [47]
  · rw [if_pos h, if_pos h, h]; decide
  · rw [if_neg h, if_neg h, Lib.trimSuffix]
    split <;> simp
theorem Kid_any (p n : ByteArray) (hp : p.size ≤ 4611686018427387903) (hn : n.size ≤ 4611686018427387902) (w : World) : Calls Tryd.prog 15 #[.string p, .string n] w (CopyPost (.string (bs (kidL p.data.toList n.data.toList))) w) := by
  have cS := slashOf_any p w
  have cT := fun w => Tryd.strings_TrimSuffix p (bs (if p.data.toList = [47] then [47] else [])) w (by omega)
  rw [bs_list, trim_slash] at cT
  obtain ⟨Z, hZ⟩ : ∃ Z, (⟨(if p.data.toList = [47] then [] else p.data.toList).toArray⟩ : ByteArray) = Z := ⟨_, rfl⟩
  have hZs : Z.size ≤ p.size := by
    rw [← hZ]
    show (List.toArray _).size ≤ _
    rw [List.size_toArray]
    split
    · simp
    · rw [← size_list]; exact Nat.le_refl _
  have hE : bs (kidL p.data.toList n.data.toList) = Z ++ ⟨#[47]⟩ ++ n := by
    rw [← hZ]
    apply ByteArray.ext
    apply Array.toList_inj.1
    simp [bs, kidL, ByteArray.data_append]
  rw [hZ] at cT
  rw [hE]
  clear hZ hE
  generalize bs (if p.data.toList = [47] then [47] else []) = Y at cS cT
  go_enter Tryd.func15, Tryd.ntmps15
  go_wp2_with (first | (go_at_call 27; refine cS.mono ?_; rintro e w1 ⟨rfl, hO⟩; clear cS) | (go_at_call 26; refine (cT _).mono ?_; rintro e w2 ⟨rfl, rfl⟩))
  go_ret
  exact ⟨rfl, hO⟩

theorem Under_any (p q : ByteArray) (hp : p.size ≤ 4611686018427387903) (hq : q.size ≤ 4611686018427387903) (w : World) : Calls Tryd.prog 17 #[.string p, .string q] w (CopyPost (.bool (underL p.data.toList q.data.toList)) w) := by
  have cK := Kid_any q ByteArray.empty hq (by simp) w
  have cH := fun w => Tryd.strings_HasPrefix p (bs (kidL q.data.toList [])) w
  rw [bs_list] at cH
  rw [show (ByteArray.empty.data.toList : List UInt8) = [] from rfl] at cK
  have hv : underL p.data.toList q.data.toList = (Lib.hasPrefix p.data.toList (kidL q.data.toList []) && (p.toList != (bs (kidL q.data.toList [])).toList)) := by
    rw [underL, Lib.hasPrefix, ByteArray.toList_eq, ByteArray.toList_eq, bs_list]
    congr 1
    by_cases h : p.data.toList = kidL q.data.toList [] <;> simp [h]
  rw [hv]
  clear hv
  generalize bs (kidL q.data.toList []) = Y at cK cH ⊢
  generalize Lib.hasPrefix p.data.toList (kidL q.data.toList []) = b at cH ⊢
  cases b
  all_goals
    go_enter Tryd.func17, Tryd.ntmps17
    go_wp2_with (first | (go_at_call 15; refine cK.mono ?_; rintro e w1 ⟨rfl, hO⟩; clear cK) | (go_at_call 28; refine (cH _).mono ?_; rintro e w2 ⟨rfl, rfl⟩))
    go_ret
    exact ⟨by first | rfl | simp, hO⟩
end Go.Proofs.YtfdlllpjempjoaaDoor
