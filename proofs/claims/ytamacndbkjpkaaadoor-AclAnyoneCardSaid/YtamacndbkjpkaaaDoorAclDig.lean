/-
  Digest: the program's and the document's.
  Conditions: the table of math/bits lies in the world; the texts fit.
-/
import Derived.Test.YtamacndbkjpkaaaDoorAclZ
namespace Go.Proofs.YtamacndbkjpkaaaDoor
open Go.RowKit
set_option linter.unusedSectionVars false
set_option linter.unusedSimpArgs false
set_option linter.unusedVariables false
set_option maxRecDepth 100000

def hstep (h : Int) (c : UInt8) : Int := bits .xor .u64 h (c.toNat : Int) * 1099511628211 % 18446744073709551616
def hsh (l : List UInt8) : Int := l.foldl hstep 14695981039346656037
theorem hsh_range (l : List UInt8) : 0 ≤ hsh l ∧ hsh l < 18446744073709551616 := by
  have key : ∀ (l : List UInt8) (h : Int), 0 ≤ h ∧ h < 18446744073709551616 → 0 ≤ l.foldl hstep h ∧ l.foldl hstep h < 18446744073709551616 := by
    intro l
    induction l with
    | nil => exact fun h hh => hh
    | cons x l ih => exact fun h _ => ih _ (by unfold hstep; omega)
  exact key l _ (by decide)
def hshN (l : List UInt8) : Nat := (hsh l).toNat
theorem hshN_eq (l : List UInt8) : hsh l = (hshN l : Int) := (Int.toNat_of_nonneg (hsh_range l).1).symm
theorem hshN_lt (l : List UInt8) : hshN l < 18446744073709551616 := by have := hsh_range l; unfold hshN; omega

/-- What is digested, and the ID that comes of it. -/
def saltL (name secret : ByteArray) : List UInt8 := name.data.toList ++ 58 :: secret.data.toList
def idOf (name secret : ByteArray) : ByteArray := ⟨(name.data.toList ++ 58 :: lowD (hshN (saltL name secret)) 16).toArray⟩

set_option maxHeartbeats 2000000 in
theorem digest_yes (name secret : ByteArray) (hu : isUserL name.data.toList = true) (hs : secret.size + 100 ≤ maxLen) (w : World) (hT : Tab w) :
    Calls Tryd.prog 13 #[.string name, .string secret] w (CopyPost (.tuple #[.string (idOf name secret), .int .i64 0]) w) := by
  have hn12 : name.size ≤ 12 := by
    have : name.data.toList.length = name.size := by rw [Array.length_toList]; rfl
    simp only [isUserL, Bool.and_eq_true, decide_eq_true_eq] at hu
    omega
  have cU := isUser_any name (by unfold maxLen; omega) w
  rw [hu] at cU
  have hs' : secret.size + 100 ≤ 9223372036854775807 := by unfold maxLen at hs; omega
  have HT := Lib.hid hT
  clear hT hu
  obtain ⟨T, hTT⟩ : ∃ T, name ++ ⟨#[58]⟩ ++ secret = T := ⟨_, rfl⟩
  have hTL : T.data.toList = saltL name secret := by rw [← hTT]; simp [saltL, ByteArray.data_append]
  have hTs : T.size = name.size + 1 + secret.size := by rw [← hTT, ByteArray.size_append, ByteArray.size_append]; rfl
  have hTm : T.size ≤ maxLen := by omega
  have hT63 : T.size ≤ 9223372036854775807 := by omega
  have HTL := Lib.hid hTL
  clear hTL hTs
  go_enter Tryd.func13, Tryd.ntmps13
  go_wp2_with (first | (go_at_call 21; refine cU.mono ?_; rintro e w1 ⟨rfl, hO1⟩) | ((with_reducible refine at_list ?_); refine wpList_toBytes 5 (by kernel_rfl) (by kernel_rfl) (by kernel_rfl) T rfl hTm ?_; intro cap2 w2 hR2 hM2 hz2))
  have hO2 : Old w w2 := hO1.join hM2
  have HR := Lib.hid hR2
  clear hM2 hz2 hR2
  go_loopg [6, 19] T.size (fun g y6 y19 wr => ∃ k : Nat, k + g = T.size ∧ y19 = .int .i64 k ∧ y6 = .int .u64 ((T.data.toList.take k).foldl hstep 14695981039346656037) ∧ wr = w2)
  case atStart => exact ⟨0, by omega, rfl, rfl, rfl⟩
  case round =>
    obtain ⟨k, hk, rfl, rfl, rfl⟩ := hrel
    by_cases hlt : k < T.size
    · have hkl : k < T.data.toList.length := by rw [Array.length_toList]; exact hlt
      have hx : T.data.toList[k]? = some (T.data.toList[k]'hkl) := List.getElem?_eq_getElem _
      obtain ⟨x, hxx⟩ : ∃ x, T.data.toList[k]'hkl = x := ⟨_, rfl⟩
      rw [hxx] at hx
      obtain ⟨b, o, hb, c0⟩ := HR.out.byte hx
      simp only [Option.some.injEq, Addr.mk.injEq] at hb
      obtain ⟨rfl, rfl, -⟩ := hb
      have HF := Lib.hid (fold_snoc hstep 14695981039346656037 hx)
      clear hx hxx
      generalize (T.data.toList.take k).foldl hstep 14695981039346656037 = G at HF ⊢
      have hxlt : (x.toNat : Int) < 256 := by have := x.toNat_lt; omega
      rw [Nat.zero_add] at c0
      go_wp2
      go_roundg (gk - 1)
      case measure => omega
      case rel => exact ⟨k + 1, by omega, by simp, by rw [HF.out]; rfl, rfl⟩
    · have hk2 : k = T.size := by omega
      have hfold : (T.data.toList.take k).foldl hstep 14695981039346656037 = (hshN (saltL name secret) : Int) := by
        rw [hk2, show T.size = T.data.toList.length by rw [Array.length_toList]; rfl, List.take_length, HTL.out]
        exact hshN_eq _
      rw [hfold]
      have cF := format_any _ (hshN_lt (saltL name secret)) wr (HT.out.old hO2)
      have hid : idOf name secret = ⟨(name.data.toList ++ 58 :: lowD (hshN (saltL name secret)) 16).toArray⟩ := rfl
      have HID := Lib.hid hid
      clear hfold hid
      generalize hshN (saltL name secret) = N at cF HID ⊢
      go_wp2_with (first | (go_at_call 22; refine cF.mono ?_; rintro e w3 ⟨j, rfl, hj1, hj2, hO3⟩; obtain ⟨Y, hY⟩ : ∃ Y : ByteArray, (⟨(lowD N (j + 1)).toArray⟩ : ByteArray) = Y := ⟨_, rfl⟩; rw [hY]; have hYs : Y.size = j + 1 := (by rw [← hY]; show (lowD N (j + 1)).toArray.size = _; rw [List.size_toArray, lowD_length]); obtain ⟨n, hn⟩ : ∃ n, n + (j + 1) = 16 := ⟨15 - j, by omega⟩; have zY : (16 : Int) - (Y.size : Int) = (n : Int) := (by omega); have zn : (n : Int) ≤ 15 := (by omega); have hn16 : n < 16 := (by omega); have HY := Lib.hid hY; have HNN := Lib.hid hn; have HJ := Lib.hid hj1; clear hY hYs hn hj1) | (go_at_call 23; refine (repeat_any n hn16 _).mono ?_; rintro e w4 ⟨rfl, hO4⟩))
      go_ret2
      refine ⟨?_, (hO2.join hO3).join hO4⟩
      have hE : idOf name secret = name ++ ⟨#[58]⟩ ++ ⟨(List.replicate n 48).toArray⟩ ++ Y := by
        rw [HID.out, ← HNN.out, lowD_pad N (j + 1) HJ.out n, ← HY.out]
        apply ByteArray.ext
        apply Array.toList_inj.1
        simp [ByteArray.data_append]
      rw [hE]
      rfl

theorem digest_no (name secret : ByteArray) (hu : isUserL name.data.toList = false) (hn : name.size ≤ maxLen) (w : World) :
    Calls Tryd.prog 13 #[.string name, .string secret] w (CopyPost (.tuple #[.string ByteArray.empty, .int .i64 50]) w) := by
  have cU := isUser_any name hn w
  rw [hu] at cU
  go_enter Tryd.func13, Tryd.ntmps13
  go_wp2_with (go_at_call 21; refine cU.mono ?_; rintro e w1 ⟨rfl, hO1⟩)
  go_ret2
  exact ⟨rfl, hO1⟩

/-! ### The document's -/

def digits16 : ByteArray := ⟨#[48, 49, 50, 51, 52, 53, 54, 55, 56, 57, 97, 98, 99, 100, 101, 102]⟩
theorem digits16_at : ∀ (d : Nat) (h : d < 16), (digits16[d]'(by show d < 16; omega)) = dgt d := by decide

/-- A block of sixteen that holds the lowest digits at its end. -/
def Tail2 (W : World) (b k : Nat) (ds : List UInt8) : Prop := ∃ (c : Array Value) (e : TypeId), W.heap[b]? = some (.cells c e (0, 0)) ∧ c.size = 16 ∧ k + ds.length = 16 ∧ ∀ i v, (bc ds)[i]? = some v → c[k + i]? = some v
theorem Tail2.cell {W : World} {b k m : Nat} {ds : List UInt8} (h : Tail2 W b k ds) (hm : m < 16) : ∃ v, W.cell? ⟨b, m, none⟩ = some v := by
  obtain ⟨c, e, h1, h2, _⟩ := h
  exact ⟨_, blk_cell h1 m c[m] (Array.getElem?_eq_getElem (by omega))⟩
theorem Tail2.free {W : World} {b k : Nat} {ds : List UInt8} (h : Tail2 W b k ds) (m : Nat) : W.frozen? ⟨b, m, none⟩ = false := by
  obtain ⟨c, e, h1, _⟩ := h
  exact blk_free h1 m
theorem Tail2.putD {W : World} {b m : Nat} {ds : List UInt8} (h : Tail2 W b (m + 1) ds) (d : Nat) (hd : d < 16) (h36 : d < digits16.size) : Tail2 (W.setCell ⟨b, m, none⟩ (.int .u8 (digits16[d]'h36).toNat)) b m (dgt d :: ds) := by
  rw [digits16_at d hd]
  obtain ⟨c, e, h1, h2, h3, h4⟩ := h
  refine ⟨_, e, blk_set (.int .u8 (dgt d).toNat) h1, by simpa using h2, by simp; omega, fun i v hv => ?_⟩
  match i, hv with
  | 0, hv =>
    simp [bc] at hv
    subst hv
    rw [Nat.add_zero, Array.getElem?_setIfInBounds]
    simp [h2]; omega
  | i + 1, hv =>
    have := h4 i v (by simpa [bc] using hv)
    rw [Array.getElem?_setIfInBounds, if_neg (by omega), show m + (i + 1) = m + 1 + i by omega]
    exact this
theorem Tail2.rd {W : World} {b : Nat} {ds : List UInt8} (h : Tail2 W b 0 ds) : Rd W 1 (some ⟨b, 0, none⟩) 16 16 (bc ds) := by
  obtain ⟨c, e, h1, h2, h3, h4⟩ := h
  refine ⟨by rw [bc_length]; omega, Nat.le_refl _, by unfold maxLen; omega, .inr ⟨_, rfl, fun i u hu => ?_⟩⟩
  rw [add_none]
  exact blk_cell h1 _ _ (by have := h4 i u hu; simpa using this)

theorem refDigest_no (name secret : ByteArray) (hu : isUserL name.data.toList = false) (hn : name.size ≤ maxLen) (w : World) :
    Calls Tryd.prog 14 #[.string name, .string secret] w (CopyPost (.tuple #[.string ByteArray.empty, .int .i64 50]) w) := by
  have cU := user_any name hn w
  rw [hu] at cU
  go_enter Tryd.func14, Tryd.ntmps14
  go_wp2_with (go_at_call 24; refine cU.mono ?_; rintro e w1 ⟨rfl, hO1⟩)
  go_ret2
  exact ⟨rfl, hO1⟩
end Go.Proofs.YtamacndbkjpkaaaDoor
