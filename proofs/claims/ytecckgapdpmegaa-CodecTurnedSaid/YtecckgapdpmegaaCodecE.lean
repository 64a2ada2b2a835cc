/-
  Sum.
  Conditions: the text fits.
-/
import Derived.Test.YtecckgapdpmegaaCodecD
namespace Go.Proofs.Ytecckgapdpmegaa
open Go.RowKit
set_option linter.unusedSectionVars false
set_option linter.unusedSimpArgs false
set_option linter.unusedVariables false

/-- One byte of a sum, and a text's. -/
def sumStep (h : Int) (c : UInt8) : Int := bits .xor .u32 h ((c.toNat : Int) % 4294967296) * 16777619 % 4294967296
def sumOf (l : List UInt8) (h : Int) : Int := l.foldl sumStep h

theorem sumOf_next (s : ByteArray) (k : Nat) (h : k < s.size) (a : Int) : sumOf (s.data.toList.take (k + 1)) a = sumStep (sumOf (s.data.toList.take k) a) (s[k]) := by
  have hk : k < s.data.toList.length := by rw [Array.length_toList]; exact h
  rw [List.take_succ_eq_append_getElem hk]
  unfold sumOf
  rw [List.foldl_append]
  rfl

def SumPost (v : Value) (w : World) (e : Ending) (w' : World) : Prop := e = .returned v ∧ w' = w

theorem sum_any (s : ByteArray) (hf : bfits s.size) (w : World) : Calls Try.prog 26 #[.string s] w (SumPost (.int .u32 (sumOf s.data.toList 2166136261)) w) := by
  obtain ⟨n, hn⟩ : ∃ n, s.size = n := ⟨_, rfl⟩
  have hnl : n ≤ 2 ^ 63 - 1 := hn ▸ hf.le
  clear hf
  go_enter Try.func26, Try.ntmps26
  go_wp2
  go_loopw [3, 7] (fun h i wr => ∃ k : Nat, k ≤ n ∧ i = .int .i64 k ∧ h = .int .u32 (sumOf (s.data.toList.take k) 2166136261) ∧ wr = w) (fun _ i _ => n - (intOf i).toNat)
  case atStart => exact ⟨0, by omega, rfl, rfl, rfl⟩
  case round =>
    obtain ⟨k, hk, rfl, rfl, rfl⟩ := hrel
    by_cases hlt : k < n
    · obtain ⟨h, hh⟩ : ∃ h, sumOf (s.data.toList.take k) 2166136261 = h := ⟨_, rfl⟩
      rw [hh]
      have HH := Lib.hid hh
      have HX := Lib.hid (sumOf_next s k (hn ▸ hlt) 2166136261)
      clear hh
      go_wp2
      refine ⟨⟨k + 1, by omega, by simp, ?_, trivial⟩, ?_⟩
      · rw [HX.out, HH.out]; rfl
      · simp only [intOf]; omega
    · obtain rfl : k = n := by omega
      go_wp2
      go_ret
      refine ⟨?_, rfl⟩
      rw [List.take_of_length_le (by rw [Array.length_toList, ← hn]; exact Nat.le_refl _)]
      rfl

end Go.Proofs.Ytecckgapdpmegaa
