/-
  strings.Repeat of "0".
  Conditions: at most 15 times.
-/
import Derived.Test.YtamacndbkjpkaaaDoorAclY
namespace Go.Proofs.YtamacndbkjpkaaaDoor
open Go.RowKit
set_option linter.unusedSectionVars false
set_option linter.unusedSimpArgs false
set_option linter.unusedVariables false
set_option maxRecDepth 100000

theorem mul64_any (n : Nat) (h : n < 16) (w : World) : Calls Tryd.prog 47 #[.int .u64 1, .int .u64 (n : Int)] w (RetPost (.tuple #[.int .u64 0, .int .u64 (n : Int)]) w) := by
  have e1 : bits .and .u64 1 4294967295 = 1 := by decide
  have e2 : bits .and .u64 (n : Int) 4294967295 = (n : Int) := by
    rw [show (4294967295 : Int) = ((4294967295 : Nat) : Int) from rfl, u64_and_nat n 4294967295 (by omega) (by omega), show (4294967295 : Nat) = 2 ^ 32 - 1 from rfl, Nat.and_two_pow_sub_one_eq_mod, Nat.mod_eq_of_lt (by omega)]
  have e3 : bits .and .u64 0 4294967295 = 0 := by decide
  have e4 : (n : Int) / 4294967296 = 0 := by omega
  have e5 : (n : Int) < 16 := by omega
  have e6 : IntKind.u64.wrap (n : Int) = n := by rw [IntKind.wrap_u64]; omega
  go_enter Tryd.func47, Tryd.ntmps47
  go_wp2
  go_ret2
  exact ⟨rfl, rfl⟩

theorem mul_any (n : Nat) (h : n < 16) (w : World) : Calls Tryd.prog 33 #[.int .u64 1, .int .u64 (n : Int)] w (RetPost (.tuple #[.int .u64 0, .int .u64 (n : Int)]) w) := by
  have cM := mul64_any n h w
  go_enter Tryd.func33, Tryd.ntmps33
  go_wp2_with (go_at_call 47; refine cM.mono ?_; rintro e w' ⟨rfl, rfl⟩)
  go_ret2
  exact ⟨rfl, rfl⟩

def zeros : ByteArray := ⟨#[48, 48, 48, 48, 48, 48, 48, 48, 48, 48, 48, 48, 48, 48, 48, 48, 48, 48, 48, 48, 48, 48, 48, 48, 48, 48, 48, 48, 48, 48, 48, 48, 48, 48, 48, 48, 48, 48, 48, 48, 48, 48, 48, 48, 48, 48, 48, 48, 48, 48, 48, 48, 48, 48, 48, 48, 48, 48, 48, 48, 48, 48, 48, 48]⟩
theorem zeros_take (n : Nat) (h : n < 16) : zeros.extract 0 n = ⟨(List.replicate n 48).toArray⟩ := by
  have : ∀ n : Fin 16, zeros.extract 0 n.1 = ⟨(List.replicate n.1 48).toArray⟩ := by decide
  exact this ⟨n, h⟩

theorem sPrefix_any (t : ByteArray) (b : Bool) (h1 : 1 ≤ t.size) (hm : t.size ≤ 1000) (hq : ((t.extract 0 1).toList == [48]) = b) (w : World) : Calls Tryd.prog 48 #[.string t, .string ⟨#[48]⟩] w (RetPost (.bool b) w) := by
  have z1 : (1 : Int) ≤ (t.size : Int) := by omega
  have z2 : (t.size : Int) ≤ 1000 := by omega
  go_enter Tryd.func48, Tryd.ntmps48
  go_wp2
  go_ret
  exact ⟨rfl, rfl⟩
theorem prefix_any (t : ByteArray) (b : Bool) (h1 : 1 ≤ t.size) (hm : t.size ≤ 1000) (hq : ((t.extract 0 1).toList == [48]) = b) (w : World) : Calls Tryd.prog 34 #[.string t, .string ⟨#[48]⟩] w (RetPost (.bool b) w) := by
  have cP := sPrefix_any t b h1 hm hq w
  go_enter Tryd.func34, Tryd.ntmps34
  go_wp2_with (go_at_call 48; refine cP.mono ?_; rintro e w' ⟨rfl, rfl⟩)
  go_ret
  exact ⟨rfl, rfl⟩

set_option maxHeartbeats 2000000 in
theorem repeat_any (n : Nat) (h : n < 16) (w : World) : Calls Tryd.prog 23 #[.string ⟨#[48]⟩, .int .i64 (n : Int)] w (CopyPost (.string ⟨(List.replicate n 48).toArray⟩) w) := by
  by_cases h0 : n = 0
  · subst h0
    go_enter Tryd.func23, Tryd.ntmps23
    go_wp2
    go_ret
    exact ⟨rfl, Old.rfl' _⟩
  by_cases h1 : n = 1
  · subst h1
    go_enter Tryd.func23, Tryd.ntmps23
    go_wp2
    go_ret
    exact ⟨rfl, Old.rfl' _⟩
  have hc : ((⟨#[48]⟩ : ByteArray)[0]'(by decide)).toNat = 48 := by decide
  have z0 : ((n : Int) == 0) = false := by simpa using h0
  have z1 : ((n : Int) == 1) = false := by simpa using (show ¬ (n : Int) = 1 by omega)
  have zn : ¬ (n : Int) < 0 := by omega
  have z16 : (n : Int) ≤ 15 := by omega
  have cM := mul_any n h w
  rw [← zeros_take n h]
  go_enter Tryd.func23, Tryd.ntmps23
  go_wp2_with (first | (go_at_call 33; refine cM.mono ?_; rintro e w' ⟨rfl, rfl⟩) | (go_at_call 34; refine (prefix_any _ false (by decide) (by decide) (by rw [ByteArray.toList_eq]; decide) _).mono ?_; rintro e w' ⟨rfl, rfl⟩) | (go_at_call 34; refine (prefix_any _ true (by decide) (by decide) (by rw [ByteArray.toList_eq]; decide) _).mono ?_; rintro e w' ⟨rfl, rfl⟩))
  go_ret
  exact ⟨rfl, Old.rfl' _⟩
end Go.Proofs.YtamacndbkjpkaaaDoor
