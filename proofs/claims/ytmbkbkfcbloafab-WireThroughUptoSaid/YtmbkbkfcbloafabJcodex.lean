/-
  The document's Reader: what each of its methods takes up, as the plain reader of CodecP does.
  Conditions: the reader lies in a block of its own; the text fits.
  The document's Reader: Num, Flag, Count, Text, Fail, End.
  Conditions: as in CodecX.
-/
import Derived.Test.YtmbkbkfcbloafabJcodec
import Derived.WalkSpells
namespace Go.Proofs.Ytmbkbkfcbloafab
section
open Go.RowKit
set_option linter.unusedSectionVars false
set_option linter.unusedSimpArgs false
set_option linter.unusedVariables false
set_option maxRecDepth 100000

/-- A byte of a text at a place that is reckoned. -/
theorem index_byte {P : Program} {t : TypeId} (h : P.underlying t = some .string) (bs : ByteArray) (i : Int) (k : Nat) (hi : i = k) (c : UInt8) (hlt : k < bs.size) (hc : bs[k] = c) (w : World) :
    (Instr.index t (.string bs) (.int .i64 i)).run P w = .ok (.int .u8 c.toNat) w := by
  subst hi
  rw [run_index_string (P := P) w t bs .i64 k h, dif_pos (by omega)]
  subst hc
  rfl

/-- The cells of a reader of the document's. -/
def drc (bs : ByteArray) (s : RS) : Array Value := #[.string bs, .int .i64 s.at_, .int .i64 s.wr]

/-- What the rounds of the document's sevens keep. -/
def DvRel (l : List UInt8) (n : Nat) (x un i : Value) : Prop :=
  ∃ j u q : Nat, i = .int .i64 ((j : Int) + 1) ∧ un = .int .u64 (q : Int) ∧ x = .int .u64 (u : Int) ∧ q = 128 ^ j ∧ u < q ∧ j ≤ 9 ∧ j ≤ n ∧ sv l 0 0 = sv (l.drop j) j u

theorem u64_wrap_nat (n : Nat) (h : n < 18446744073709551616) : IntKind.u64.wrap (n : Int) = n := by
  simp [IntKind.wrap, IntKind.bits, IntKind.signed]; omega

/-- A round's sum. -/
theorem dsev_sum {u c q : Nat} (h : u + c % 128 * q < 18446744073709551616) : IntKind.u64.wrap ((u : Int) + IntKind.u64.wrap ((c : Int) % 128 * (q : Int))) = ((u + c % 128 * q : Nat) : Int) := by
  have e1 : (c : Int) % 128 * (q : Int) = ((c % 128 * q : Nat) : Int) := by push_cast; rfl
  rw [e1, u64_wrap_nat _ (by omega), ← Int.natCast_add, u64_wrap_nat _ h]

theorem dsev_in {j u q c : Nat} (hq : q = 128 ^ j) (hu : u < q) (hj : j ≤ 9) (hc : c < 256) (h9 : j = 9 → c ≤ 1) : u + c % 128 * q < 18446744073709551616 := by
  have h1 : c % 128 ≤ 127 := by omega
  rcases Nat.lt_or_ge j 9 with h | h
  · have h2 : q ≤ 128 ^ 8 := by rw [hq]; exact Nat.pow_le_pow_right (by omega) (by omega)
    have h3 : c % 128 * q ≤ 127 * q := Nat.mul_le_mul_right _ h1
    have h5 : (128 : Nat) ^ 8 = 72057594037927936 := by decide
    omega
  · obtain rfl : j = 9 := by omega
    have h5 : (128 : Nat) ^ 9 = 9223372036854775808 := by decide
    have h3 : c % 128 * q ≤ 1 * q := Nat.mul_le_mul_right _ (by have := h9 rfl; omega)
    omega

end

section
open Go.RowKit
set_option linter.unusedSectionVars false
set_option linter.unusedSimpArgs false
set_option linter.unusedVariables false
set_option maxRecDepth 100000

def SameTo (v : Value) (w : World) (e : Ending) (w' : World) : Prop := e = .returned v ∧ w = w'

theorem toList_size (bs : ByteArray) : bs.data.toList.length = bs.size := by rw [Array.length_toList]; rfl

theorem rnum_eq (bs : List UInt8) (s : RS) : rnum bs s = (zag (rsev bs s).1, ⟨s.at_ + (rsev bs s).2.1, (rsev bs s).2.2.wr⟩) := rfl

/-- Nothing is counted where something was wrong. -/
theorem rcount_wrong {bs : List UInt8} {most : Int} {s : RS} (h : s.ok bs.length) (hw : (rcount bs most s).2.wr ≠ 0) : (rcount bs most s).1 = 0 := by
  have hok := rsev_ok h
  unfold rcount at hw ⊢
  split
  · rfl
  · rename_i hb
    rw [if_neg hb] at hw
    exact (hok.2.2.2.2 hw).1

theorem str_cut {bs : ByteArray} {i j : Nat} : bs.extract i j = ⟨((bs.data.toList.drop i).take (j - i)).toArray⟩ := by
  apply ByteArray.ext
  rw [ByteArray.data_extract]
  apply Array.ext'
  simp [List.drop_take]

end
end Go.Proofs.Ytmbkbkfcbloafab
