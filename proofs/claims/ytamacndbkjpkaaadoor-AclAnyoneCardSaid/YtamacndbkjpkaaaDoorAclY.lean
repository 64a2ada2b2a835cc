/-
  strconv.FormatUint to the base 16; strings.Repeat of "0".
  Conditions: the table of math/bits lies in the world.
-/
import Derived.Test.YtamacndbkjpkaaaDoorAclX
import Derived.Test.YtamacndbkjpkaaaDoorConv
namespace Go.Proofs.YtamacndbkjpkaaaDoor
open Go.RowKit
set_option linter.unusedSectionVars false
set_option linter.unusedSimpArgs false
set_option linter.unusedVariables false

/-- What is asked of the table in math/bits. -/
def Tab (w : World) : Prop := w.cell? ⟨3, 15, none⟩ = some (.int .u8 4) ∧ 3 < w.heap.size
theorem Tab.old {w w' : World} (h : Tab w) (k : Old w w') : Tab w' := ⟨k.cell h.1 (fun h => h), Nat.lt_of_lt_of_le h.2 k.size⟩

theorem tz64_any (w : World) (h : w.cell? ⟨3, 15, none⟩ = some (.int .u8 4)) : Calls Tryd.prog 65 #[.int .u64 16] w (RetPost (.int .i64 4) w) := by
  have hE : IntKind.u64.wrap (bits .and .u64 16 (IntKind.u64.wrap (-16)) * 285870213051353865) / 288230376151711744 = 15 := by decide
  go_enter Tryd.func65, Tryd.ntmps65
  go_wp2
  go_ret
  exact ⟨rfl, rfl⟩

theorem tz_any (w : World) (h : w.cell? ⟨3, 15, none⟩ = some (.int .u8 4)) : Calls Tryd.prog 57 #[.int .u64 16] w (RetPost (.int .i64 4) w) := by
  have cT := tz64_any w h
  go_enter Tryd.func57, Tryd.ntmps57
  go_wp2_with (go_at_call 65; refine cT.mono ?_; rintro e w' ⟨rfl, rfl⟩)
  go_ret
  exact ⟨rfl, rfl⟩

theorem isPow_any (w : World) : Calls Tryd.prog 56 #[.int .i64 16] w (RetPost (.bool true) w) := by
  go_enter Tryd.func56, Tryd.ntmps56
  go_wp2
  go_ret
  exact ⟨rfl, rfl⟩

/-! ### Digits -/

def dgt (n : Nat) : UInt8 := if n < 10 then UInt8.ofNat (48 + n) else UInt8.ofNat (87 + n)
/-- The lowest j digits. -/
def lowD : Nat → Nat → List UInt8
  | _, 0 => []
  | n, j + 1 => lowD (n / 16) j ++ [dgt (n % 16)]
theorem lowD_length : ∀ (n j : Nat), (lowD n j).length = j
  | _, 0 => rfl
  | n, j + 1 => by rw [lowD, List.length_append, lowD_length]; rfl
theorem lowD_front : ∀ (n j : Nat), lowD n (j + 1) = dgt (n / 16 ^ j % 16) :: lowD n j
  | n, 0 => by simp [lowD]
  | n, j + 1 => by
    rw [lowD, lowD_front (n / 16) j, lowD, Nat.div_div_eq_div_mul, Nat.pow_succ, Nat.mul_comm (16 ^ j) 16]
    rfl
/-- All digits, as few as there are. -/
def count : Nat → Nat → Nat
  | 0, _ => 1
  | f + 1, n => if n < 16 then 1 else count f (n / 16) + 1

def digitsT : ByteArray := ⟨#[48, 49, 50, 51, 52, 53, 54, 55, 56, 57, 97, 98, 99, 100, 101, 102, 103, 104, 105, 106, 107, 108, 109, 110, 111, 112, 113, 114, 115, 116, 117, 118, 119, 120, 121, 122]⟩
theorem digitsT_at : ∀ (d : Nat) (h : d < 16), (digitsT[d]'(by show d < 36; omega)) = dgt d := by decide

/-- A block that holds the lowest digits at its end. -/
def Tail (W : World) (b k : Nat) (ds : List UInt8) : Prop := ∃ (c : Array Value) (e : TypeId), W.heap[b]? = some (.cells c e (0, 0)) ∧ c.size = 65 ∧ k + ds.length = 65 ∧ ∀ i v, (bc ds)[i]? = some v → c[k + i]? = some v
theorem Tail.cell {W : World} {b k m : Nat} {ds : List UInt8} (h : Tail W b k ds) (hm : m < 65) : ∃ v, W.cell? ⟨b, m, none⟩ = some v := by
  obtain ⟨c, e, h1, h2, _⟩ := h
  exact ⟨_, blk_cell h1 m c[m] (Array.getElem?_eq_getElem (by omega))⟩
theorem Tail.free {W : World} {b k : Nat} {ds : List UInt8} (h : Tail W b k ds) (m : Nat) : W.frozen? ⟨b, m, none⟩ = false := by
  obtain ⟨c, e, h1, _⟩ := h
  exact blk_free h1 m
theorem Tail.put {W : World} {b m : Nat} {ds : List UInt8} (h : Tail W b (m + 1) ds) (x : UInt8) : Tail (W.setCell ⟨b, m, none⟩ (.int .u8 x.toNat)) b m (x :: ds) := by
  obtain ⟨c, e, h1, h2, h3, h4⟩ := h
  refine ⟨_, e, blk_set (.int .u8 x.toNat) h1, by simpa using h2, by simp; omega, fun i v hv => ?_⟩
  match i, hv with
  | 0, hv =>
    simp [bc] at hv
    subst hv
    rw [Nat.add_zero, Array.getElem?_setIfInBounds]
    simp [h2]; omega
  | i + 1, hv =>
    have := h4 i v (by simpa [bc] using hv)
    rw [Array.getElem?_setIfInBounds, if_neg (by omega), show m + (i + 1) = m + 1 + i by omega]
    exact this

theorem Tail.putD {W : World} {b m : Nat} {ds : List UInt8} (h : Tail W b (m + 1) ds) (d : Nat) (hd : d < 16) (h36 : d < digitsT.size) : Tail (W.setCell ⟨b, m, none⟩ (.int .u8 (digitsT[d]'h36).toNat)) b m (dgt d :: ds) := by
  have := h.put (dgt d)
  rw [← digitsT_at d hd] at this ⊢
  exact this

theorem Tail.rd {W : World} {b k : Nat} {ds : List UInt8} (h : Tail W b k ds) : Rd W 1 (some ⟨b, k, none⟩) (65 - k) (65 - k) (bc ds) := by
  obtain ⟨c, e, h1, h2, h3, h4⟩ := h
  refine ⟨by rw [bc_length]; omega, Nat.le_refl _, by unfold maxLen; omega, .inr ⟨_, rfl, fun i u hu => ?_⟩⟩
  rw [add_none]
  exact blk_cell h1 _ _ (h4 i u hu)

theorem slice65 (b m : Nat) (h : m < 65) (W : World) : (Instr.sliceAt 80 (.pointer (some ⟨b, 0, none⟩)) (some (.int .i64 (m : Int))) none none).run Tryd.prog W = .ok (.slice (some ⟨b, m, none⟩) (65 - m) (65 - m)) W := by
  have ht : Tryd.prog.underlying 80 = some (.array (Tryd.prog.arrayLen 80) (Tryd.prog.elem 80)) := by kernel_rfl
  have hl : Tryd.prog.arrayLen 80 = 65 := by kernel_rfl
  have he : Tryd.prog.elem 80 = 5 := by kernel_rfl
  have hs : (sizeOf 5).run Tryd.prog W = .ok 1 W := by kernel_rfl
  rw [run_sliceAt_array_l W _ _ ht .i64 (m : Int) (by omega) (by rw [hl]; omega), he, hs, hl]
  simp only [Result.andThen_ok, slicedAt, Int.toNat_natCast]
  rw [if_neg (by omega), Nat.mul_one, add_none, Nat.zero_add]

set_option maxRecDepth 100000 in
set_option maxHeartbeats 4000000 in
theorem formatBits_any (N : Nat) (hN : N < 18446744073709551616) (w : World) (hT : Tab w) :
    Calls Tryd.prog 45 #[.slice none 0 0, .int .u64 (N : Int), .int .i64 16, .bool false, .bool false] w fun e w' =>
      ∃ (j : Nat), e = .returned (.tuple #[.slice none 0 0, .string ⟨(lowD N (j + 1)).toArray⟩]) ∧ N < 16 ^ (j + 1) ∧ j < 16 ∧ Old w w' := by
  have hP := fun W => isPow_any W
  have hZ : ∀ W, Old w W → Calls Tryd.prog 57 #[.int .u64 16] W (RetPost (.int .i64 4) W) := fun W h => tz_any W (hT.old h).1
  have HZ := Lib.hid hZ
  clear hT hZ
  go_enter Tryd.func45, Tryd.ntmps45
  go_wp2_with (first | (go_at_call 56; refine (hP _).mono ?_; rintro e w' ⟨rfl, rfl⟩) | (go_at_call 57; refine (HZ.out _ ((Old.rfl' w).alloc _)).mono ?_; rintro e w' ⟨rfl, rfl⟩))
  go_loopg [1, 13] 15 (fun g y1 y13 wr => ∃ (j k : Nat), j + g = 15 ∧ k + j = 65 ∧ y1 = .int .u64 ((N / 16 ^ j : Nat) : Int) ∧ y13 = .int .i64 (k : Int) ∧ Old w wr ∧ Tail wr w.heap.size k (lowD N j))
  case atStart =>
    refine ⟨0, 65, by omega, by omega, by simp, rfl, (Old.rfl' w).alloc _, ?_⟩
    exact ⟨_, _, heap_alloc_new w _, rfl, rfl, fun i v h => by simp [lowD, bc] at h⟩
  case round =>
    obtain ⟨j, k, hj, hk, rfl, rfl, hO, hTl⟩ := hrel
    obtain ⟨U, hU⟩ : ∃ U, N / 16 ^ j = U := ⟨_, rfl⟩
    rw [hU]
    have hU64 : U < 18446744073709551616 := hU ▸ Nat.lt_of_le_of_lt (Nat.div_le_self _ _) hN
    obtain ⟨m, rfl⟩ : ∃ m, k = m + 1 := ⟨k - 1, by omega⟩
    have zm : ((m + 1 : Nat) : Int) - 1 = (m : Int) := by omega
    obtain ⟨v0, hv0⟩ := hTl.cell (m := m) (by omega)
    have hfz := hTl.free m
    have zm65 : (m : Int) < 65 := by omega
    have zm65' : m < 65 := by omega
    have HUU := Lib.hid hU
    have HT := Lib.hid hTl
    have HK := Lib.hid hk
    clear hU hTl hk
    by_cases h16 : 16 ≤ U
    · have z16 : (16 : Int) ≤ (U : Int) := by omega
      have hand : bits .and .u64 (U : Int) 15 = ((U % 16 : Nat) : Int) := by
        rw [show (15 : Int) = ((15 : Nat) : Int) from rfl, u64_and_nat U 15 (by omega) (by omega), show (15 : Nat) = 2 ^ 4 - 1 from rfl, Nat.and_two_pow_sub_one_eq_mod]
      have hshr : (U : Int) / 16 = ((U / 16 : Nat) : Int) := by omega
      have hD : U % 16 < 16 := Nat.mod_lt _ (by omega)
      have zD : ((U % 16 : Nat) : Int) < 36 := by omega
      have zD2 : U % 16 < 36 := by omega
      generalize hDD : U % 16 = D at hand hD zD zD2
      have HDD := Lib.hid hDD
      clear hDD
      generalize hV : U / 16 = V at hshr
      have HV := Lib.hid hV
      clear hV
      have hj15 : j < 15 := by
        rcases Nat.lt_or_ge j 15 with h | h
        · exact h
        · have hj2 : j = 15 := by omega
          subst hj2
          have hp : (16 : Nat) ^ 15 = 1152921504606846976 := by decide
          have := HUU.out
          rw [hp] at this
          omega
      go_wp2
      go_roundg (gk - 1)
      case measure => omega
      case rel =>
        refine ⟨j + 1, m, by omega, by have := HK.out; omega, ?_, rfl, hO.setCell _ _ (fun h => absurd h (Nat.lt_irrefl _)), ?_⟩
        · rw [← HV.out, ← HUU.out, Nat.div_div_eq_div_mul, Nat.pow_succ]
        · rw [lowD_front, HUU.out, HDD.out]
          exact HT.out.putD D hD _
    · have z16 : ¬ (16 : Int) ≤ (U : Int) := by omega
      have zU : (U : Int) < 36 := by omega
      have zU2 : U < 36 := by omega
      have hmod : U % 16 = U := Nat.mod_eq_of_lt (by omega)
      have HM := Lib.hid hmod
      clear hmod
      have hT2 := HT.out.putD U (by omega) (show U < 36 by omega)
      rw [show dgt U :: lowD N j = lowD N (j + 1) by rw [lowD_front, HUU.out, HM.out]] at hT2
      have HT2 := Lib.hid hT2
      clear hT2
      have hsl := slice65 w.heap.size m zm65'
      go_wp2_with ((with_reducible refine at_list ?_); refine wpList_toString 5 (by kernel_rfl) (by kernel_rfl) (by kernel_rfl) (some ⟨w.heap.size, m, none⟩) (65 - m) (65 - m) rfl (lowD N (j + 1)) HT2.out.rd ?_)
      go_ret2
      refine ⟨j, rfl, ?_, by omega, hO.setCell _ _ (fun h => absurd h (Nat.lt_irrefl _))⟩
      rw [Nat.pow_succ, Nat.mul_comm]
      exact (Nat.div_lt_iff_lt_mul (Nat.pow_pos (by omega))).1 (by rw [HUU.out]; omega)

theorem iFormat_any (N : Nat) (hN : N < 18446744073709551616) (w : World) (hT : Tab w) :
    Calls Tryd.prog 32 #[.int .u64 (N : Int), .int .i64 16] w fun e w' =>
      ∃ (j : Nat), e = .returned (.string ⟨(lowD N (j + 1)).toArray⟩) ∧ N < 16 ^ (j + 1) ∧ j < 16 ∧ Old w w' := by
  have cF := formatBits_any N hN w hT
  clear hT
  go_enter Tryd.func32, Tryd.ntmps32
  go_wp2_with (go_at_call 45; refine cF.mono ?_; rintro e w' ⟨j, rfl, h1, h2, h3⟩)
  go_ret
  exact ⟨j, rfl, h1, h2, h3⟩

theorem format_any (N : Nat) (hN : N < 18446744073709551616) (w : World) (hT : Tab w) :
    Calls Tryd.prog 22 #[.int .u64 (N : Int), .int .i64 16] w fun e w' =>
      ∃ (j : Nat), e = .returned (.string ⟨(lowD N (j + 1)).toArray⟩) ∧ N < 16 ^ (j + 1) ∧ j < 16 ∧ Old w w' := by
  have cF := iFormat_any N hN w hT
  clear hT
  go_enter Tryd.func22, Tryd.ntmps22
  go_wp2_with (go_at_call 32; refine cF.mono ?_; rintro e w' ⟨j, rfl, h1, h2, h3⟩)
  go_ret
  exact ⟨j, rfl, h1, h2, h3⟩

theorem lowD_pad (N j : Nat) (h : N < 16 ^ j) : ∀ k, lowD N (k + j) = List.replicate k 48 ++ lowD N j
  | 0 => by simp
  | k + 1 => by
    have h0 : N / 16 ^ (k + j) = 0 := Nat.div_eq_of_lt (Nat.lt_of_lt_of_le h (Nat.pow_le_pow_right (by omega) (by omega)))
    rw [show k + 1 + j = (k + j) + 1 by omega, lowD_front, h0, lowD_pad N j h k, List.replicate_succ]
    rfl
end Go.Proofs.YtamacndbkjpkaaaDoor
