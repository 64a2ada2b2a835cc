/-
  The program's isName.
  Conditions: the text is not longer than any text is.
-/
import Derived.Test.YtfdlllpjempjoaaDoorPathC
import Derived.Lib.OthersKept
import Derived.Shelf.GgClosure.StringsIndexFunc
namespace Go.Proofs.YtfdlllpjempjoaaDoor
open Go.RowKit
set_option linter.unusedSectionVars false
set_option linter.unusedSimpArgs false
set_option linter.unusedVariables false
set_option maxRecDepth 100000

theorem nmB_iff (c : Nat) : nmB c = true ↔ ((((((97 ≤ c ∧ c ≤ 122) ∨ (65 ≤ c ∧ c ≤ 90)) ∨ (48 ≤ c ∧ c ≤ 57)) ∨ c = 95) ∨ c = 45) ∨ c = 46) := by simp [nmB]
theorem decode_low (s : ByteArray) (i : Nat) (h : (s.get! i).toNat < 128) : Utf8.decode s i = ((s.get! i).toNat, 1) := by
  unfold Utf8.decode
  simp [h]
theorem decode_high (s : ByteArray) (i : Nat) (h : ¬ (s.get! i).toNat < 128) : 128 ≤ (Utf8.decode s i).1 := by
  unfold Utf8.decode
  simp only [Nat.add_zero]
  rw [if_neg h]
  have e : 128 ≤ Utf8.runeError := by decide
  repeat' split
  all_goals first | exact e | omega | (simp_all; done) | (simp_all; omega)
theorem get_is (s : ByteArray) (i : Nat) (h : i < s.size) : s.get! i = s[i] := by
  show s.data[i]! = _
  rw [getElem!_pos s.data i h]; rfl

set_option maxHeartbeats 4000000 in
theorem isName_any (s : ByteArray) (hs : s.size ≤ 4611686018427387903) (w : World) : Calls Tryd.prog 22 #[.string s] w (CopyPost (.bool (isNm s.data.toList)) w) := by
  have hs' : s.size ≤ 9223372036854775807 := by omega
  have hv : isNm s.data.toList = (allNm s.data.toList && decide (s.data.toList ≠ []) && decide (s.data.toList ≠ [46]) && decide (s.data.toList ≠ [46, 46])) := rfl
  have HV := Lib.hid hv
  clear hv
  have b0 : (s.toList == ([] : List UInt8)) = decide (s.data.toList = []) := by rw [ByteArray.toList_eq, Bool.eq_iff_iff]; simp
  have b1 : (s.toList == [46]) = decide (s.data.toList = [46]) := by rw [ByteArray.toList_eq, Bool.eq_iff_iff]; simp
  have b2 : (s.toList == [46, 46]) = decide (s.data.toList = [46, 46]) := by rw [ByteArray.toList_eq, Bool.eq_iff_iff]; simp
  have B0 := Lib.hid b0
  have B1 := Lib.hid b1
  have B2 := Lib.hid b2
  clear b0 b1 b2
  go_enter Tryd.func22, Tryd.ntmps22
  go_wp2
  go_loopg [] s.size (fun gf wx => ∃ pos : Nat, wx.heap[w.heap.size]? = some (.stringIter s pos) ∧ Below w.heap.size w wx ∧ allNm (s.data.toList.drop pos) = allNm s.data.toList ∧ s.size ≤ pos + gf)
  case atStart => exact ⟨0, World.iter_heap w s 0, (Below.refl _ w).alloc (Nat.le_refl _) _, by rw [List.drop_zero], by omega⟩
  case round =>
    obtain ⟨pos, hit, hbw, hleft, hfu⟩ := hrel
    by_cases hps : pos < s.size
    · obtain ⟨g', rfl⟩ : ∃ g', gk = g' + 1 := ⟨gk - 1, by omega⟩
      have hnx : ∀ ty, (Instr.next (.pointer (some ⟨w.heap.size, 0, none⟩)) true ty).run Tryd.prog wr = _ := fun ty => Lib.run_next_any_at wr w.heap.size s pos ty hit hps
      have hwd := Lib.width_pos s pos
      obtain ⟨R, K, hRK⟩ : ∃ R K : Nat, Utf8.decode s pos = (R, K) := ⟨_, _, rfl⟩
      rw [hRK] at hwd hnx
      simp only at hwd
      have hcs : (nmB R = false ∧ allNm (s.data.toList.drop pos) = false) ∨ (nmB R = true ∧ K = 1 ∧ allNm (s.data.toList.drop pos) = allNm (s.data.toList.drop (pos + 1))) := by
        rw [drop_cons s pos hps, allNm_cons, ← get_is s pos hps]
        by_cases h128 : (s.get! pos).toNat < 128
        · have hlo := decode_low s pos h128
          rw [hRK] at hlo
          obtain ⟨rfl, rfl⟩ := Prod.mk.inj hlo
          cases hn : nmB (s.get! pos).toNat
          · exact .inl ⟨rfl, rfl⟩
          · exact .inr ⟨rfl, rfl, by rw [Bool.true_and]⟩
        · have hx := decode_high s pos h128
          rw [hRK] at hx
          have h1 : ∀ c, 128 ≤ c → nmB c = false := fun c hc => Bool.eq_false_iff.2 fun h => by have := (nmB_iff c).1 h; omega
          exact .inl ⟨h1 _ hx, by rw [h1 _ (by omega)]; rfl⟩
      have hit2 := Lib.iterAt_heap wr w.heap.size s pos (pos + K) hit
      have hbw2 := Lib.below_iterAt hbw (k := w.heap.size) (Nat.le_refl _) s (pos + K)
      obtain ⟨W, hWd⟩ : ∃ W, wr.iterAt w.heap.size s (pos + K) = W := ⟨_, rfl⟩
      simp only [hWd] at hnx hit2 hbw2
      have hu := nmB_iff R
      rcases hcs with ⟨hn, hall⟩ | ⟨hn, rfl, hall⟩
      · have hu2 : ¬ ((((((97 ≤ R ∧ R ≤ 122) ∨ (65 ≤ R ∧ R ≤ 90)) ∨ (48 ≤ R ∧ R ≤ 57)) ∨ R = 95) ∨ R = 45) ∨ R = 46) := fun h => by rw [hu.2 h] at hn; cases hn
        rw [hall] at hleft
        have HL := Lib.hid hleft
        clear hleft hall hu hn hit
        go_wp2
        all_goals first
          | (exfalso; omega)
          | (go_ret
             exact ⟨by rw [HV.out, ← HL.out] <;> rfl, Old.of hbw2⟩)
      · have hu2 := hu.1 hn
        rw [hall] at hleft
        have HL := Lib.hid hleft
        clear hleft hall hu hn hit
        go_wp2
        all_goals first
          | (exfalso; omega)
          | (go_roundg g'
             case measure => omega
             case rel => exact ⟨pos + 1, hit2, hbw2, HL.out, by omega⟩)
    · have hnx : ∀ ty, (Instr.next (.pointer (some ⟨w.heap.size, 0, none⟩)) true ty).run Tryd.prog wr = _ := fun ty => Lib.run_next_end_at wr w.heap.size s pos ty hit hps
      have hd : s.data.toList.drop pos = [] := List.drop_eq_nil_of_le (by rw [← size_list]; omega)
      rw [hd] at hleft
      have hv2 : isNm s.data.toList = ((s.toList != []) && (s.toList != [46]) && (s.toList != [46, 46])) := by
        rw [HV.out, ← hleft]
        simp only [bne, B0.out, B1.out, B2.out]
        simp [allNm]
      have HV2 := Lib.hid hv2
      clear hleft hd hv2
      go_wp2
      all_goals
        go_ret
        refine ⟨?_, Old.of hbw⟩
        rw [HV2.out]
        show Ending.returned (Value.bool _) = _
        refine congrArg (fun b => Ending.returned (Value.bool b)) ?_
        first | (simp_all; done) | (simp; done) | (generalize s.toList = L; cases L <;> rfl)
end Go.Proofs.YtfdlllpjempjoaaDoor
