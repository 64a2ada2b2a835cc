/-
  Plain laws on bits and numbers that the codec's arithmetic needs.
  Conditions: the numbers fit their kinds.
-/
import Derived.WalkKit
namespace Go.Proofs.Ytmbkbkfcbloafaa
open Go.RowKit

theorem xor_ones (x : Nat) (h : x < 2 ^ 64) : x ^^^ (2 ^ 64 - 1) = 2 ^ 64 - (x + 1) := by
  apply Nat.eq_of_testBit_eq
  intro i
  rw [Nat.testBit_xor, Nat.testBit_two_pow_sub_succ h, Nat.testBit_two_pow_sub_one]
  by_cases hi : i < 64
  · simp [hi]
  · have hb : x.testBit i = false := Nat.testBit_lt_two_pow (Nat.lt_of_lt_of_le h (Nat.pow_le_pow_right (by omega) (by omega)))
    simp [hi, hb]

def zig (n : Int) : Nat := if 0 ≤ n then (2 * n).toNat else (-2 * n - 1).toNat

theorem zig_eq (n : Int) (h0 : -9223372036854775808 ≤ n) (h1 : n ≤ 9223372036854775807) :
    bits .xor .u64 (IntKind.u64.wrap (IntKind.u64.wrap n * 2)) (IntKind.u64.wrap (n / 9223372036854775808)) = (zig n : Int) := by
  simp only [IntKind.wrap_u64]
  by_cases hn : 0 ≤ n
  · have e1 : n % 18446744073709551616 * 2 % 18446744073709551616 = ((2 * n).toNat : Int) := by omega
    have e2 : n / 9223372036854775808 % 18446744073709551616 = ((0 : Nat) : Int) := by omega
    rw [e1, e2, u64_xor_nat _ _ (by omega) (by omega), Nat.xor_zero, zig, if_pos hn]
  · have e1 : n % 18446744073709551616 * 2 % 18446744073709551616 = ((18446744073709551616 + 2 * n).toNat : Int) := by omega
    have e2 : n / 9223372036854775808 % 18446744073709551616 = ((18446744073709551615 : Nat) : Int) := by omega
    have hx := xor_ones (18446744073709551616 + 2 * n).toNat (by omega)
    rw [e1, e2, u64_xor_nat _ _ (by omega) (by omega)]
    rw [show (18446744073709551615 : Nat) = 2 ^ 64 - 1 from rfl, hx, zig, if_neg hn]
    omega

theorem zig_lt (n : Int) (h0 : -9223372036854775808 ≤ n) (h1 : n ≤ 9223372036854775807) : zig n < 18446744073709551616 := by
  unfold zig; split <;> omega

/-- One byte's seven bits, joined on top of what was taken up. -/
theorem seven_step (u k c : Nat) (hu : u < 128 ^ k) (hk : k ≤ 9) (hc : c < 256) (h9 : k = 9 → c ≤ 1) :
    bits .or .u64 (u : Int) (IntKind.u64.wrap (IntKind.u64.wrap (bits .and .u8 (c : Int) 127) * 2 ^ (7 * k))) = ((u + c % 128 * 128 ^ k : Nat) : Int) := by
  have e0 : (128 : Nat) ^ k = 2 ^ (7 * k) := by rw [Nat.pow_mul]
  have e1 : bits .and .u8 (c : Int) 127 = ((c % 128 : Nat) : Int) := by
    rw [show (127 : Int) = ((127 : Nat) : Int) from rfl, u8_and_nat c 127 hc (by omega), nat_mask7]
  have e2 : ((c % 128 : Nat) : Int) % 18446744073709551616 = ((c % 128 : Nat) : Int) := by omega
  have hlt : c % 128 * 128 ^ k < 18446744073709551616 := by
    rcases Nat.lt_or_ge k 9 with h | h
    · have h3 : (128 : Nat) ^ k ≤ 128 ^ 8 := Nat.pow_le_pow_right (by omega) (by omega)
      have h4 : c % 128 * 128 ^ k ≤ 127 * 128 ^ 8 := Nat.mul_le_mul (by omega) h3
      have h5 : 127 * (128 : Nat) ^ 8 < 18446744073709551616 := by decide
      omega
    · obtain rfl : k = 9 := by omega
      have h1 := h9 rfl
      have h2 : c % 128 ≤ 1 := by omega
      exact Nat.lt_of_le_of_lt (Nat.mul_le_mul_right (128 ^ 9) h2) (by decide)
  have hul : u < 18446744073709551616 := by
    have h3 : (128 : Nat) ^ k ≤ 128 ^ 9 := Nat.pow_le_pow_right (by omega) hk
    exact Nat.lt_of_lt_of_le hu (Nat.le_trans h3 (by decide))
  have e3 : (((c % 128 : Nat) : Int) * 2 ^ (7 * k)) = ((c % 128 * 128 ^ k : Nat) : Int) := by
    rw [e0, Int.natCast_mul, Int.natCast_pow]; rfl
  simp only [IntKind.wrap_u64, e1, e2, e3]
  rw [show ((c % 128 * 128 ^ k : Nat) : Int) % 18446744073709551616 = ((c % 128 * 128 ^ k : Nat) : Int) by omega]
  rw [u64_or_nat _ _ hul hlt, Nat.or_comm, nat_join (7 * k) _ _ (by rw [← e0]; exact Nat.mul_mod_left _ _) (by rw [← e0]; exact hu), Nat.add_comm]
end Go.Proofs.Ytmbkbkfcbloafaa
