/-
  The chapter's example, that each law runs first, and what all laws share.
  No condition.
-/
import Derived.Test.YtecckgapdpmegaaCodecS
namespace Go.Proofs.Ytecckgapdpmegaa
open Go.RowKit
set_option linter.unusedSectionVars false
set_option linter.unusedSimpArgs false
set_option linter.unusedVariables false

theorem ex1 : ([] : List UInt8) ++ sevens (zig (-3)) = [5] := by rw [show zig (-3) = 5 from rfl, sevens_small (by omega)]; rfl
theorem ex2 : ([5] : List UInt8) ++ [if true then 1 else 0] = [5, 1] := rfl
theorem ex3 (s : ByteArray) (h : s = ⟨#[97, 98]⟩) : ([5, 1] : List UInt8) ++ sevens s.size ++ s.data.toList = [5, 1, 2, 97, 98] := by
  subst h
  rw [show (ByteArray.mk #[97, 98]).size = 2 from rfl, sevens_small (by omega)]; rfl
theorem ex4 : ([5, 1, 2, 97, 98] : List UInt8) ++ sevens (300 : Int).toNat = [5, 1, 2, 97, 98, 172, 2] := by
  rw [show (300 : Int).toNat = 300 from rfl, sevens_big (by omega), sevens_small (by omega)]; rfl
theorem ex5 : sumOf (ByteArray.mk #[97]).data.toList 2166136261 = 3826002220 := by decide +kernel

def exBytes : List UInt8 := [5, 1, 2, 97, 98, 172, 2]

def AwPost (w : World) (e : Ending) (w' : World) : Prop := e = .returned (.bool true) ∧ Mod (fun _ => False) w w'



set_option maxRecDepth 100000 in
theorem awake_any (w : World) : Calls Try.prog 9 #[] w (AwPost w) := by
  go_enter Try.func9, Try.ntmps9
  go_wp2_with fail
  refine (wnew_st (St.start w)).mono ?_
  rintro e w1 ⟨pb, rfl, hS⟩
  go_wp2_with fail
  refine (rread_st hS _ (bfits_small (by decide))).mono ?_
  clear hS
  rintro e w2 ⟨qb, rfl, hS⟩
  have hS := hS.swap
  go_wp2_with fail
  refine (wnum_st hS (-3) (by omega) (by omega) (bfits_small (by decide))).mono ?_
  rw [ex1]
  clear hS
  rintro e w3 ⟨rfl, hS⟩
  go_wp2_with fail
  refine (wflag_st hS true (bfits_small (by decide))).mono ?_
  rw [ex2]
  clear hS
  rintro e w4 ⟨rfl, hS⟩
  go_wp2_with fail
  refine (wtext_st hS ⟨#[97, 98]⟩ (bfits_small (by decide))).mono ?_
  rw [ex3 _ rfl]
  clear hS
  rintro e w5 ⟨rfl, hS⟩
  go_wp2_with fail
  refine (wcount_st hS 300 (by omega) (by omega) (bfits_small (by decide))).mono ?_
  rw [ex4]
  clear hS
  rintro e w6 ⟨rfl, hS⟩
  have hS := hS.swap
  go_wp2_with fail
  refine (rnum_st hS).mono ?_
  rw [show rnum (ByteArray.mk #[5, 1, 2, 97, 98, 172, 2]).data.toList ⟨0, 0⟩ = (-3, ⟨1, 0⟩) by decide +kernel]
  clear hS
  rintro e w7 ⟨rfl, hS⟩
  go_wp2_with fail
  refine (rflag_st hS).mono ?_
  rw [show rflag (ByteArray.mk #[5, 1, 2, 97, 98, 172, 2]).data.toList ⟨1, 0⟩ = (true, ⟨2, 0⟩) by decide +kernel]
  clear hS
  rintro e w8 ⟨rfl, hS⟩
  go_wp2_with fail
  refine (rtext_st hS 2 (by omega) (by omega)).mono ?_
  rw [show rtext (ByteArray.mk #[5, 1, 2, 97, 98, 172, 2]).data.toList 2 ⟨2, 0⟩ = ([97, 98], ⟨5, 0⟩) by decide +kernel]
  clear hS
  rintro e w9 ⟨rfl, hS⟩
  go_wp2_with fail
  refine (rcount_st hS 300 (by omega) (by omega)).mono ?_
  rw [show rcount (ByteArray.mk #[5, 1, 2, 97, 98, 172, 2]).data.toList 300 ⟨5, 0⟩ = (300, ⟨7, 0⟩) by decide +kernel]
  clear hS
  rintro e w10 ⟨rfl, hS⟩
  go_wp2_with fail
  refine (wbytes_st hS.swap).mono ?_
  rintro e w11 ⟨rfl, rfl⟩
  go_wp2_with fail
  refine (rend_st hS).mono ?_
  rw [show rend (ByteArray.mk #[5, 1, 2, 97, 98, 172, 2]).data.toList ⟨7, 0⟩ = ⟨7, 0⟩ by decide +kernel]
  clear hS
  rintro e w11 ⟨rfl, hS⟩
  go_wp2_with fail
  refine (sum_any _ (bfits_small (by decide)) _).mono ?_
  rw [ex5]
  rintro e w12 ⟨rfl, rfl⟩
  go_wp2
  go_ret
  exact ⟨rfl, hS.1⟩
end Go.Proofs.Ytecckgapdpmegaa
