/-
  Contracts and plain laws of CodecB, CodecC, CodecD, CodecY, CodecQ, CodecR.
  Conditions: each law states its own.
-/
import Derived.Laws.DeepNot64
import Derived.WalkSpells
import Derived.Test.YtonnbkebjeoflaaGreatDoorJ3
set_option linter.unusedSectionVars false
set_option linter.unusedSimpArgs false
set_option linter.unusedVariables false
set_option maxRecDepth 100000
namespace Go.Proofs.YtonnbkebjeoflaaGreatDoor.W
open Go.RowKit
def RdrAt (w : World) (pb : Nat) (a : Option Addr) (cap : Nat) (bs : List UInt8) (s : RS) : Prop :=
 w.heap[pb]? = some (.cells #[.slice a bs.length cap, .int .i64 s.at_, .int .i64 s.wr] 300 (0, 0)) ∧ Rd w 1 a bs.length cap (bc bs) ∧ own a ≠ some pb ∧ s.ok bs.length ∧ bfits bs.length
def RdrTo (v : Value) (w : World) (pb : Nat) (a : Option Addr) (cap : Nat) (bs : List UInt8) (s : RS) (e : Ending) (w' : World) : Prop :=
 e = .returned v ∧ RdrAt w' pb a cap bs s ∧ Mod (fun b => b = pb) w w' ∧ w'.heap.size = w.heap.size
theorem RdrAt.put {w w' : World} {pb : Nat} {a : Option Addr} {cap : Nat} {bs : List UInt8} {s t : RS} (h : RdrAt w pb a cap bs s) (ht : t.ok bs.length) (hm : Mod (fun b => b = pb) w w')
 (hw : w'.heap[pb]? = some (.cells #[.slice a bs.length cap, .int .i64 t.at_, .int .i64 t.wr] 300 (0, 0))) : RdrAt w' pb a cap bs t :=
 ⟨hw, h.2.1.mod hm (fun b hb e => h.2.2.1 (e ▸ hb)), h.2.2.1, ht, h.2.2.2.2⟩
def LeftPost (n : Int) (w : World) (e : Ending) (w' : World) : Prop := ∃ d, e = .returned (.int .i64 n) ∧ w' = w.drewN d
theorem left_any (pb : Nat) (a : Option Addr) (cap : Nat) (bs : List UInt8) (s : RS) (w : World) (h : RdrAt w pb a cap bs s) :
 Calls Tryz.prog 224 #[.pointer (some ⟨pb, 0, none⟩)] w (LeftPost ((bs.length - s.at_ : Nat) : Int) w) := by
 have c0 := blk_cell h.1 0 _ rfl
 have c1 := blk_cell h.1 1 _ rfl
 have hle := h.2.2.2.1.1
 have hl := h.2.2.2.2.le
 have hz := heap_lt h.1
 obtain ⟨n, hn⟩ : ∃ n, bs.length = n := ⟨_, rfl⟩
 obtain ⟨k, hk⟩ : ∃ k, s.at_ = k := ⟨_, rfl⟩
 rw [hn] at c0 hle hl ⊢
 rw [hk] at c1 hle ⊢
 clear h hn hk
 go_enter Tryz.func224, Tryz.ntmps224
 go_wp2
 go_quiet (fail)
 go_wp2
 go_ret
 refine ⟨_, ?_, rfl⟩
 rw [Int.ofNat_sub hle]; rfl
theorem fails_any (pb : Nat) (a : Option Addr) (cap : Nat) (bs : List UInt8) (s : RS) (w : World) (h : RdrAt w pb a cap bs s) (x : Int) (hx : x = 10 ∨ x = 11 ∨ x = 12) :
 Calls Tryz.prog 261 #[.pointer (some ⟨pb, 0, none⟩), .int .i64 x] w (RdrTo (.tuple #[]) w pb a cap bs (s.fail x)) := by
 have c2 := blk_cell h.1 2 _ rfl
 have f2 := blk_free h.1 2
 have hz := heap_lt h.1
 have HP := Lib.hid h
 clear h
 by_cases h0 : s.wr = 0
 ·have hb : (s.wr == 0) = true := by simpa using h0
  have HE : Hid (s.fail x = ⟨s.at_, x⟩) := by show s.fail x = _; rw [RS.fail, if_pos h0]
  clear h0
  go_enter Tryz.func261, Tryz.ntmps261
  go_wp2
  go_end0
  have hm : Mod (fun b => b = pb) w (w.setCell ⟨pb, 2, none⟩ (.int .i64 x)) := (Mod.refl _ w).setCell _ _ (fun _ => rfl)
  rw [HE.out]
  exact ⟨rfl, HP.out.put ⟨HP.out.2.2.2.1.1, .inr hx⟩ hm (blk_set (i := 2) _ HP.out.1), hm, by simp⟩
 ·have hb : (s.wr == 0) = false := by simpa using h0
  have HE : Hid (s.fail x = s) := by show s.fail x = _; rw [RS.fail, if_neg h0]
  clear h0
  go_enter Tryz.func261, Tryz.ntmps261
  go_wp2
  go_end0
  rw [HE.out]
  exact ⟨rfl, HP.out, Mod.refl _ _, rfl⟩
def SvRel (l : List UInt8) (x : Value) (k : Nat) : Prop := ∃ u : Nat, x = .int .u64 u ∧ u < 128 ^ k ∧ k ≤ 9 ∧ sv l 0 0 = sv (l.drop k) k u
set_option maxRecDepth 100000 in
theorem rsevens_any (pb : Nat) (a : Option Addr) (cap : Nat) (bs : List UInt8) (s : RS) (w : World) (h : RdrAt w pb a cap bs s) :
 Calls Tryz.prog 262 #[.pointer (some ⟨pb, 0, none⟩)] w (RdrTo (.tuple #[.int .u64 (rsev bs s).1, .int .i64 (rsev bs s).2.1]) w pb a cap bs (rsev bs s).2.2) := by
 have c0 := blk_cell h.1 0 _ rfl
 have c1 := blk_cell h.1 1 _ rfl
 have c2 := blk_cell h.1 2 _ rfl
 have hz := heap_lt h.1
 have hle := h.2.2.2.1.1
 have hl := h.2.2.2.2.le
 have HP := Lib.hid h
 clear h
 by_cases h0 : s.wr = 0
 ·have hb : (s.wr != 0) = false := by simpa using h0
  have HE : Hid (rsev bs s = ((sv (bs.drop s.at_) 0 0).1, (sv (bs.drop s.at_) 0 0).2.1, ⟨s.at_, (sv (bs.drop s.at_) 0 0).2.2⟩)) := by
   show rsev bs s = _; rw [rsev, if_neg (by simpa using h0)]
  have HW := Lib.hid h0
  clear h0
  go_enter Tryz.func262, Tryz.ntmps262
  go_wp2_with fail
  refine (left_any pb a cap bs s w HP.out).mono ?_
  rintro e w1 ⟨d, rfl, rfl⟩
  obtain ⟨m, hm⟩ : ∃ m, bs.length - s.at_ = m := ⟨_, rfl⟩
  rw [hm]
  have HM := Lib.hid hm
  have hml : m ≤ 2 ^ 63 - 1 := by omega
  clear hm
  go_wp2
  go_loopw [4, 16] (fun x i wr => ∃ k : Nat, k ≤ m ∧ i = .int .i64 k ∧ SvRel (bs.drop s.at_) x k ∧ ∃ d, wr = w.drewN d) (fun _ i _ => m - (intOf i).toNat)
  case atStart => exact ⟨0, by omega, rfl, ⟨0, rfl, by omega, by omega, rfl⟩, d, rfl⟩
  case round =>
   obtain ⟨k, hk, rfl, ⟨u, rfl, hu, hk9, hsv⟩, d2, rfl⟩ := hrel
   by_cases hlt : k < m
   ·have hix : s.at_ + k < bs.length := by have := HM.out; omega
    have hcg : bs[s.at_ + k]? = some bs[s.at_ + k] := List.getElem?_eq_getElem hix
    obtain ⟨c, hcc⟩ : ∃ c, bs[s.at_ + k] = c := ⟨_, rfl⟩
    rw [hcc] at hcg
    obtain ⟨b, o, hab, hcell⟩ := HP.out.2.1.byte hcg
    subst hab
    have hdr : (bs.drop s.at_).drop k = c :: (bs.drop s.at_).drop (k + 1) := by
     rw [List.drop_drop, List.drop_drop, ← hcc]; exact List.drop_eq_getElem_cons hix
    rw [hdr] at hsv
    have HSV := Lib.hid hsv
    have HU := Lib.hid hu
    have hcb : c.toNat < 256 := c.toNat_lt
    have hbl := World.block_lt_of_cell? w _ hcell
    clear hcc hdr hsv hcg hu
    have hU2 : ∀ h : ¬ ((k = 9 ∧ 1 < c.toNat) ∨ (c.toNat = 0 ∧ 0 < k)), bits .or .u64 (u : Int) (IntKind.u64.wrap (IntKind.u64.wrap (bits .and .u8 (c.toNat : Int) 127) * 2 ^ (7 * k))) = ((u + c.toNat % 128 * 128 ^ k : Nat) : Int) :=
     fun h => seven_step u k c.toNat HU.out hk9 hcb fun h9 => by omega
    have HF : Hid (∀ x, s.fail x = ⟨s.at_, x⟩) := by
     show ∀ x, s.fail x = _
     intro x; rw [RS.fail, if_pos HW.out]
    by_cases hbad : (k = 9 ∧ 1 < c.toNat) ∨ (c.toNat = 0 ∧ 0 < k)
    ·have HB := Lib.hid (sv_bad (l := (bs.drop s.at_).drop (k + 1)) (u := u) hbad)
     clear hU2
     by_cases h9 : k = 9
     ·by_cases hc1 : 1 < c.toNat
      ·have f9 : ((k : Int) == 9) = true := by simp; omega
       have g1 : decide ((1 : Int) < (c.toNat : Int)) = true := by simp; omega
       clear hbad h9 hc1
       go_wp2
       go_quiet (fail)
       go_wp2_with fail
       refine calls_named fun wA hA => ?_
       have hA1 : RdrAt wA pb (some ⟨b, o, none⟩) cap bs s := by rw [hA]; exact HP.out
       have hA2 : Mod (fun b => b = pb) w wA := by rw [hA]; exact (Mod.refl _ w).drewN _
       have hA3 : wA.heap.size = w.heap.size := by rw [hA]; simp
       clear hA
       refine (fails_any pb (some ⟨b, o, none⟩) cap bs s wA hA1 11 (.inr (.inl rfl))).mono ?_
       rintro e w2 ⟨rfl, hr2, hm2, hz2⟩
       go_wp2
       go_ret2
       rw [HF.out 11, HE.out, HSV.out, HB.out] at *
       exact ⟨rfl, hr2, hA2.trans hm2 (fun _ _ h => h) (fun _ _ h => h), hz2.trans hA3⟩
      ·have h0 : c.toNat = 0 := by omega
       have f9 : ((k : Int) == 9) = true := by simp; omega
       have g1 : decide ((1 : Int) < (c.toNat : Int)) = false := by simp; omega
       have gz : ((c.toNat : Int) == 0) = true := by simp; omega
       have gk : decide (0 < k) = true := by simp; omega
       clear hbad h9 hc1 h0
       go_wp2
       go_quiet (fail)
       go_wp2_with fail
       refine calls_named fun wA hA => ?_
       have hA1 : RdrAt wA pb (some ⟨b, o, none⟩) cap bs s := by rw [hA]; exact HP.out
       have hA2 : Mod (fun b => b = pb) w wA := by rw [hA]; exact (Mod.refl _ w).drewN _
       have hA3 : wA.heap.size = w.heap.size := by rw [hA]; simp
       clear hA
       refine (fails_any pb (some ⟨b, o, none⟩) cap bs s wA hA1 11 (.inr (.inl rfl))).mono ?_
       rintro e w2 ⟨rfl, hr2, hm2, hz2⟩
       go_wp2
       go_ret2
       rw [HF.out 11, HE.out, HSV.out, HB.out] at *
       exact ⟨rfl, hr2, hA2.trans hm2 (fun _ _ h => h) (fun _ _ h => h), hz2.trans hA3⟩
     ·have h0 : c.toNat = 0 := by omega
      have h00 : 0 < k := by omega
      have f9 : ((k : Int) == 9) = false := by simp; omega
      have gz : ((c.toNat : Int) == 0) = true := by simp; omega
      have gk : decide (0 < k) = true := by simp; omega
      clear hbad h9 h0 h00
      go_wp2
      go_quiet (fail)
      go_wp2_with fail
      refine calls_named fun wA hA => ?_
      have hA1 : RdrAt wA pb (some ⟨b, o, none⟩) cap bs s := by rw [hA]; exact HP.out
      have hA2 : Mod (fun b => b = pb) w wA := by rw [hA]; exact (Mod.refl _ w).drewN _
      have hA3 : wA.heap.size = w.heap.size := by rw [hA]; simp
      clear hA
      refine (fails_any pb (some ⟨b, o, none⟩) cap bs s wA hA1 11 (.inr (.inl rfl))).mono ?_
      rintro e w2 ⟨rfl, hr2, hm2, hz2⟩
      go_wp2
      go_ret2
      rw [HF.out 11, HE.out, HSV.out, HB.out] at *
      exact ⟨rfl, hr2, hA2.trans hm2 (fun _ _ h => h) (fun _ _ h => h), hz2.trans hA3⟩
    ·have HST := Lib.hid (hU2 hbad)
     clear hU2
     by_cases hc128 : c.toNat < 128
     ·have HEND := Lib.hid (sv_end (l := (bs.drop s.at_).drop (k + 1)) (u := u) hbad hc128)
      have HOK : Hid (RS.ok ⟨s.at_, 0⟩ bs.length) := Lib.hid ⟨HP.out.2.2.2.1.1, .inl rfl⟩
      by_cases h9 : k = 9
      ·have hc1 : ¬ 1 < c.toNat := by omega
       have h0 : c.toNat ≠ 0 := by omega
       have f9 : ((k : Int) == 9) = true := by simp; omega
       have g1 : decide ((1 : Int) < (c.toNat : Int)) = false := by simp; omega
       have gz : ((c.toNat : Int) == 0) = false := by simp; omega
       have gl : decide ((c.toNat : Int) < 128) = true := by simp; omega
       clear hbad h9 hc1 h0 hc128
       go_wp2
       go_quiet (fail)
       go_wp2
       go_ret2
       rw [HST.out, HE.out, HSV.out, HEND.out]
       exact ⟨rfl, HP.out.put HOK.out ((Mod.refl _ w).drewN _) (by have := HP.out.1; rw [HW.out] at this; exact this), (Mod.refl _ w).drewN _, by simp⟩
      ·by_cases h0 : c.toNat = 0
       ·have h00 : ¬ 0 < k := by omega
        have f9 : ((k : Int) == 9) = false := by simp; omega
        have gz : ((c.toNat : Int) == 0) = true := by simp; omega
        have gk : decide (0 < k) = false := by simp; omega
        have gl : decide ((c.toNat : Int) < 128) = true := by simp; omega
        clear hbad h9 h0 h00 hc128
        go_wp2
        go_quiet (fail)
        go_wp2
        go_ret2
        rw [HST.out, HE.out, HSV.out, HEND.out]
        exact ⟨rfl, HP.out.put HOK.out ((Mod.refl _ w).drewN _) (by have := HP.out.1; rw [HW.out] at this; exact this), (Mod.refl _ w).drewN _, by simp⟩
       ·skip
        have f9 : ((k : Int) == 9) = false := by simp; omega
        have gz : ((c.toNat : Int) == 0) = false := by simp; omega
        have gl : decide ((c.toNat : Int) < 128) = true := by simp; omega
        clear hbad h9 h0 hc128
        go_wp2
        go_quiet (fail)
        go_wp2
        go_ret2
        rw [HST.out, HE.out, HSV.out, HEND.out]
        exact ⟨rfl, HP.out.put HOK.out ((Mod.refl _ w).drewN _) (by have := HP.out.1; rw [HW.out] at this; exact this), (Mod.refl _ w).drewN _, by simp⟩
     ·have HEND := Lib.hid (sv_more (l := (bs.drop s.at_).drop (k + 1)) (u := u) hbad hc128)
      have h9 : ¬ k = 9 := by omega
      have h0 : ¬ c.toNat = 0 := by omega
      have hk9' : k + 1 ≤ 9 := by omega
      have HU2 : Hid (u + c.toNat % 128 * 128 ^ k < 128 ^ (k + 1)) := by
       show _ < _
       have : c.toNat % 128 * 128 ^ k ≤ 127 * 128 ^ k := Nat.mul_le_mul_right _ (by omega)
       have := HU.out
       rw [Nat.pow_succ]; omega
      have f9 : ((k : Int) == 9) = false := by simp; omega
      have gz : ((c.toNat : Int) == 0) = false := by simp; omega
      have gl : decide ((c.toNat : Int) < 128) = false := by simp; omega
      clear hbad h9 h0 hc128
      go_wp2
      go_quiet (fail)
      go_wp2
      rw [HST.out]
      refine ⟨⟨k + 1, by omega, by simp, ⟨_, rfl, HU2.out, hk9', HSV.out.trans HEND.out⟩, _, rfl⟩, ?_⟩
      simp only [intOf]; omega
   ·have HB : Hid (sv (bs.drop s.at_) 0 0 = (0, 0, 10)) := by
     show _ = _
     rw [hsv, List.drop_eq_nil_of_le (by rw [List.length_drop, HM.out]; omega), sv_nil]
    have HF : Hid (∀ x, s.fail x = ⟨s.at_, x⟩) := by
     show ∀ x, s.fail x = _
     intro x; rw [RS.fail, if_pos HW.out]
    clear hsv
    go_wp2_with fail
    refine calls_named fun wA hA => ?_
    have hA1 : RdrAt wA pb a cap bs s := by rw [hA]; exact HP.out
    have hA2 : Mod (fun b => b = pb) w wA := by rw [hA]; exact (Mod.refl _ w).drewN _
    have hA3 : wA.heap.size = w.heap.size := by rw [hA]; simp
    clear hA
    refine (fails_any pb a cap bs s wA hA1 10 (.inl rfl)).mono ?_
    rintro e w2 ⟨rfl, hr2, hm2, hz2⟩
    go_wp2
    go_ret2
    rw [HF.out 10, HE.out, HB.out] at *
    exact ⟨rfl, hr2, hA2.trans hm2 (fun _ _ h => h) (fun _ _ h => h), hz2.trans hA3⟩
 ·have hb : (s.wr != 0) = true := by simpa using h0
  have HE : Hid (rsev bs s = (0, 0, s)) := by show rsev bs s = _; rw [rsev, if_pos h0]
  clear h0
  go_enter Tryz.func262, Tryz.ntmps262
  go_wp2
  go_ret2
  rw [HE.out]
  exact ⟨rfl, HP.out, Mod.refl _ _, rfl⟩
end Go.Proofs.YtonnbkebjeoflaaGreatDoor.W
namespace Go.Proofs.YtonnbkebjeoflaaGreatDoor.W
open Go.RowKit
theorem bits_xor_comm (k : IntKind) (x y : Int) : bits .xor k x y = bits .xor k y x := by
 show k.wrap ((BitVec.ofInt k.bits x ^^^ BitVec.ofInt k.bits y).toNat : Int) = k.wrap ((BitVec.ofInt k.bits y ^^^ BitVec.ofInt k.bits x).toNat : Int)
 rw [BitVec.xor_comm]
theorem i64_xor_zero (a : Nat) (ha : a < 9223372036854775808) : bits .xor .i64 (a : Int) 0 = a := by
 show IntKind.i64.wrap ((BitVec.ofInt 64 (a : Int) ^^^ BitVec.ofInt 64 0).toNat : Int) = _
 have h1 : BitVec.ofInt 64 0 = 0#64 := by decide
 rw [h1, BitVec.xor_zero, ofInt_u64 a (by omega)]
 simp [IntKind.wrap, IntKind.bits, IntKind.signed]
 omega
theorem zag_eq (u : Nat) (hu : u < 18446744073709551616) : bits .xor .i64 (wrap64 ((u : Int) / 2)) (wrap64 (-wrap64 (bits .and .u64 (u : Int) 1))) = zag u := by
 have e1 : bits .and .u64 (u : Int) 1 = ((u % 2 : Nat) : Int) := by
  rw [show (1 : Int) = ((1 : Nat) : Int) from rfl, u64_and_nat u 1 hu (by omega), Nat.and_one_is_mod]
 have e2 : wrap64 ((u : Int) / 2) = ((u / 2 : Nat) : Int) := by unfold wrap64; omega
 rw [e1, e2]
 have hlt : u / 2 < 9223372036854775808 := by omega
 unfold zag
 by_cases h : u % 2 = 0
 ·rw [if_pos h, h, show wrap64 (-wrap64 ((0 : Nat) : Int)) = 0 by unfold wrap64; omega]; exact i64_xor_zero _ hlt
 ·have h1 : u % 2 = 1 := by omega
  rw [if_neg h, h1, show wrap64 (-wrap64 ((1 : Nat) : Int)) = -1 by unfold wrap64; omega, bits_xor_comm, i64_not _ hlt]
  omega
theorem rnum_any (pb : Nat) (a : Option Addr) (cap : Nat) (bs : List UInt8) (s : RS) (w : World) (h : RdrAt w pb a cap bs s) :
 Calls Tryz.prog 226 #[.pointer (some ⟨pb, 0, none⟩)] w (RdrTo (.int .i64 (rnum bs s).1) w pb a cap bs (rnum bs s).2) := by
 have hok := rsev_ok h.2.2.2.1
 have hnok := rnum_ok h.2.2.2.1
 have hbl := h.2.2.2.2.le
 have HP := Lib.hid h
 clear h
 go_enter Tryz.func226, Tryz.ntmps226
 go_wp2_with fail
 refine (rsevens_any pb a cap bs s w HP.out).mono ?_
 rintro e w1 ⟨rfl, hr, hm, hz⟩
 obtain ⟨u, hu⟩ : ∃ u, (rsev bs s).1 = u := ⟨_, rfl⟩
 obtain ⟨n, hn⟩ : ∃ n, (rsev bs s).2.1 = n := ⟨_, rfl⟩
 have HN : Hid ((rnum bs s).1 = zag u ∧ (rnum bs s).2 = ⟨s.at_ + n, (rsev bs s).2.2.wr⟩) := by
  show _ ∧ _
  rw [← hu, ← hn]; exact ⟨rfl, rfl⟩
 have c1 := blk_cell hr.1 1 _ rfl
 have f1 := blk_free hr.1 1
 have hzz := heap_lt hr.1
 rw [hok.2.2.2.1] at c1
 rw [hu, hn] at hok ⊢
 have HR := Lib.hid hr
 have hal := hok.2.1
 have hal2 : s.at_ + n ≤ 2 ^ 63 - 1 := Nat.le_trans hal hbl
 have HU := Lib.hid hok.1
 clear hu hn hr hok
 go_wp2
 go_ret
 rw [zag_eq u HU.out, HN.out.1, HN.out.2]
 have hmm : Mod (fun b => b = pb) w (w1.setCell ⟨pb, 1, none⟩ (.int .i64 ((s.at_ : Int) + n))) := hm.setCell _ _ (fun _ => rfl)
 refine ⟨rfl, HR.out.put (HN.out.2 ▸ hnok) ((Mod.refl _ w1).setCell _ _ (fun _ => rfl)) ?_, hmm, by simp [hz]⟩
 have := blk_set (i := 1) (.int .i64 ((s.at_ : Int) + n)) HR.out.1
 rw [this]; rfl
theorem rcount_any (pb : Nat) (a : Option Addr) (cap : Nat) (bs : List UInt8) (s : RS) (w : World) (h : RdrAt w pb a cap bs s) (most : Int) (h0 : -9223372036854775808 ≤ most) (h1 : most ≤ 9223372036854775807) :
 Calls Tryz.prog 230 #[.pointer (some ⟨pb, 0, none⟩), .int .i64 most] w (RdrTo (.int .i64 (rcount bs most s).1) w pb a cap bs (rcount bs most s).2) := by
 have hok := rsev_ok h.2.2.2.1
 have hcok := (rcount_ok (most := most) h.2.2.2.1).1
 have hbl := h.2.2.2.2.le
 have HP := Lib.hid h
 clear h
 go_enter Tryz.func230, Tryz.ntmps230
 go_wp2_with fail
 refine (rsevens_any pb a cap bs s w HP.out).mono ?_
 rintro e w1 ⟨rfl, hr, hm, hz⟩
 obtain ⟨u, hu⟩ : ∃ u, (rsev bs s).1 = u := ⟨_, rfl⟩
 obtain ⟨n, hn⟩ : ∃ n, (rsev bs s).2.1 = n := ⟨_, rfl⟩
 have HN : Hid (rcount bs most s = if most.toNat < u then (0, (rsev bs s).2.2.fail 12) else (u, ⟨s.at_ + n, (rsev bs s).2.2.wr⟩)) := by
  show rcount bs most s = _
  rw [← hu, ← hn]; rfl
 have c1 := blk_cell hr.1 1 _ rfl
 have f1 := blk_free hr.1 1
 have hzz := heap_lt hr.1
 rw [hok.2.2.2.1] at c1
 rw [hu, hn] at hok ⊢
 have HR := Lib.hid hr
 have hal := hok.2.1
 have hal2 : s.at_ + n ≤ 2 ^ 63 - 1 := Nat.le_trans hal hbl
 have HU := Lib.hid hok.1
 clear hu hn hr hok
 by_cases hb : most.toNat < u
 ·have HB : Hid (rcount bs most s = (0, (rsev bs s).2.2.fail 12)) := by show _ = _; rw [HN.out, if_pos hb]
  go_wp2_with fail
  all_goals first
   | omega
   | (exfalso; rename_i hq; split at hq <;> omega)
   | (refine (fails_any pb a cap bs (rsev bs s).2.2 w1 HR.out 12 (.inr (.inr rfl))).mono ?_
      rintro e w2 ⟨rfl, hr2, hm2, hz2⟩
      go_wp2
      go_ret
      rw [HB.out]
      exact ⟨rfl, hr2, hm.trans hm2 (fun _ _ h => h) (fun _ _ h => h), hz2.trans hz⟩)
 ·have HB : Hid (rcount bs most s = (u, ⟨s.at_ + n, (rsev bs s).2.2.wr⟩)) := by show _ = _; rw [HN.out, if_neg hb]
  go_wp2_with fail
  all_goals first
   | (exfalso; omega)
   | (exfalso; rename_i hq; split at hq <;> omega)
   | (go_ret
      rw [HB.out] at hcok ⊢
      exact ⟨rfl, HR.out.put hcok ((Mod.refl _ w1).setCell _ _ (fun _ => rfl)) (blk_set (i := 1) (.int .i64 ((s.at_ : Int) + n)) HR.out.1), hm.setCell _ _ (fun _ => rfl), by simp [hz]⟩)
end Go.Proofs.YtonnbkebjeoflaaGreatDoor.W
namespace Go.Proofs.YtonnbkebjeoflaaGreatDoor.W
open Go.RowKit
theorem rfail_any (pb : Nat) (a : Option Addr) (cap : Nat) (bs : List UInt8) (s : RS) (w : World) (h : RdrAt w pb a cap bs s) :
 Calls Tryz.prog 225 #[.pointer (some ⟨pb, 0, none⟩)] w (RdrTo (.tuple #[]) w pb a cap bs (s.fail 11)) := by
 have HP := Lib.hid h
 clear h
 go_enter Tryz.func225, Tryz.ntmps225
 go_wp2_with fail
 refine (fails_any pb a cap bs s w HP.out 11 (.inr (.inl rfl))).mono ?_
 rintro e w1 ⟨rfl, hr, hm, hz⟩
 go_wp2
 go_end0
 exact ⟨rfl, hr, hm, hz⟩
theorem rend_any (pb : Nat) (a : Option Addr) (cap : Nat) (bs : List UInt8) (s : RS) (w : World) (h : RdrAt w pb a cap bs s) :
 Calls Tryz.prog 152 #[.pointer (some ⟨pb, 0, none⟩)] w (RdrTo (.int .i64 (rend bs s).wr) w pb a cap bs (rend bs s)) := by
 have HP := Lib.hid h
 have hz0 := heap_lt h.1
 have hle := h.2.2.2.1.1
 clear h
 go_enter Tryz.func152, Tryz.ntmps152
 go_wp2_with fail
 refine (left_any pb a cap bs s w HP.out).mono ?_
 rintro e w1 ⟨d, rfl, rfl⟩
 by_cases hlt : s.at_ < bs.length
 ·have HE : Hid (rend bs s = s.fail 11) := by show _ = _; rw [rend, if_pos hlt]
  obtain ⟨m, hm⟩ : ∃ m, bs.length - s.at_ = m := ⟨_, rfl⟩
  rw [hm]
  have hm0 : 0 < m := by omega
  clear hm hlt
  go_wp2_with fail
  refine calls_named fun wA hA => ?_
  have hA1 : RdrAt wA pb a cap bs s := by rw [hA]; exact HP.out
  have hA2 : Mod (fun b => b = pb) w wA := by rw [hA]; exact (Mod.refl _ w).drewN _
  have hA3 : wA.heap.size = w.heap.size := by rw [hA]; simp
  clear hA
  refine (rfail_any pb a cap bs s wA hA1).mono ?_
  rintro e w2 ⟨rfl, hr2, hm2, hz2⟩
  have c2 := blk_cell hr2.1 2 _ rfl
  have hzz := heap_lt hr2.1
  have HR := Lib.hid hr2
  clear hr2
  go_wp2
  go_ret
  rw [HE.out]
  exact ⟨rfl, HR.out, hA2.trans hm2 (fun _ _ h => h) (fun _ _ h => h), hz2.trans hA3⟩
 ·have HE : Hid (rend bs s = s) := by show _ = _; rw [rend, if_neg hlt]
  obtain ⟨m, hm⟩ : ∃ m, bs.length - s.at_ = m := ⟨_, rfl⟩
  rw [hm]
  have hm0 : m = 0 := by omega
  subst hm0
  clear hm hlt
  have c2 := blk_cell HP.out.1 2 _ rfl
  go_wp2
  go_ret
  rw [HE.out]
  exact ⟨rfl, HP.out, (Mod.refl _ w).drewN _, by simp⟩
def RNewPost (bs : List UInt8) (w : World) (e : Ending) (w' : World) : Prop :=
 ∃ pb a cap, e = .returned (.pointer (some ⟨pb, 0, none⟩)) ∧ RdrAt w' pb a cap bs ⟨0, 0⟩ ∧ Mod (fun _ => False) w w' ∧ w.heap.size ≤ pb ∧ pb < w'.heap.size ∧ (∀ b, own a = some b → w.heap.size ≤ b ∧ b < w'.heap.size)
set_option maxRecDepth 100000 in
theorem rread_any (bs : ByteArray) (hf : bfits bs.size) (w : World) : Calls Tryz.prog 151 #[.string bs] w (RNewPost bs.data.toList w) := by
 go_enter Tryz.func151, Tryz.ntmps151
 go_wp2_with ((with_reducible refine at_list ?_); refine wpList_toBytes 5 (by kernel_rfl) (by kernel_rfl) (by kernel_rfl) bs rfl hf.maxLen ?_)
 intro cap w1 hr hm hz
 go_wp2
 go_ret
 have e1 : bs.size = bs.data.toList.length := by rw [Array.length_toList]; rfl
 refine ⟨w.heap.size + 1, some ⟨w.heap.size, 0, none⟩, cap, rfl, ⟨?_, ?_, ?_, ⟨Nat.zero_le _, .inl rfl⟩, e1 ▸ hf⟩, hm.alloc _, by omega, by rw [World.size_alloc, hz]; omega, ?_⟩
 ·rw [← e1]
  have := heap_alloc_new w1 (.cells #[.slice (some ⟨w.heap.size, 0, none⟩) bs.size cap, .int .i64 0, .int .i64 0] 300 (0, 0))
  rw [hz] at this
  exact this
 ·rw [← e1]
  exact hr.mod ((Mod.refl (fun _ => False) w1).alloc _) (fun _ _ h => h)
 ·simp [own]
 ·intro b hb
  simp only [own, Option.map_some, Option.some.injEq] at hb
  subst hb
  exact ⟨Nat.le_refl _, by rw [World.size_alloc, hz]; omega⟩
set_option maxRecDepth 100000 in
theorem rtext_any (pb : Nat) (a : Option Addr) (cap : Nat) (bs : List UInt8) (s : RS) (w : World) (h : RdrAt w pb a cap bs s) (most : Int) (h0 : -9223372036854775808 ≤ most) (h1 : most ≤ 9223372036854775807) :
 Calls Tryz.prog 263 #[.pointer (some ⟨pb, 0, none⟩), .int .i64 most] w (RdrTo (.string ⟨(rtext bs most s).1.toArray⟩) w pb a cap bs (rtext bs most s).2) := by
 have c1 := blk_cell h.1 1 _ rfl
 have hz0 := heap_lt h.1
 have hle := h.2.2.2.1.1
 have hl := h.2.2.2.2.le
 have htok := rtext_ok (most := most) h.2.2.2.1
 have hcok := (rcount_ok (most := most) h.2.2.2.1).1
 have HP := Lib.hid h
 clear h
 go_enter Tryz.func263, Tryz.ntmps263
 go_wp2_with fail
 refine (rcount_any pb a cap bs s w HP.out most h0 h1).mono ?_
 rintro e w1 ⟨rfl, hr, hm, hz⟩
 obtain ⟨n, hn⟩ : ∃ n, (rcount bs most s).1 = n := ⟨_, rfl⟩
 obtain ⟨t, ht⟩ : ∃ t, (rcount bs most s).2 = t := ⟨_, rfl⟩
 have HN : Hid (rtext bs most s = if bs.length - t.at_ < n then ([], RS.fail ⟨s.at_, t.wr⟩ 10) else ((bs.drop t.at_).take n, ⟨t.at_ + n, t.wr⟩)) := by
  show _ = _
  rw [← hn, ← ht]; rfl
 rw [ht] at hr hcok
 rw [hn]
 have HR := Lib.hid hr
 have hzz := heap_lt hr.1
 clear hn ht hr
 go_wp2_with fail
 refine (left_any pb a cap bs t w1 HR.out).mono ?_
 rintro e w2 ⟨d, rfl, rfl⟩
 obtain ⟨m, hm2⟩ : ∃ m, bs.length - t.at_ = m := ⟨_, rfl⟩
 rw [hm2] at HN ⊢
 have hcok1 := hcok.1
 have d0 := blk_cell HR.out.1 0 _ rfl
 have d1 := blk_cell HR.out.1 1 _ rfl
 have f1 := blk_free HR.out.1 1
 by_cases hlt : m < n
 ·have HE : Hid (rtext bs most s = ([], RS.fail ⟨s.at_, t.wr⟩ 10)) := by show _ = _; rw [HN.out, if_pos hlt]
  have hT : decide (m < n) = true := by simpa using hlt
  clear hlt hm2
  go_wp2_with fail
  refine calls_named fun wA hA => ?_
  have hA1 : RdrAt wA pb a cap bs ⟨s.at_, t.wr⟩ := by
   rw [hA]
   exact HR.out.put ⟨hle, hcok.2⟩ ((Mod.refl _ w1).drewN _ |>.setCell _ _ (fun _ => rfl)) (blk_set (w := w1.drewN d) (i := 1) (.int .i64 s.at_) HR.out.1)
  have hA2 : Mod (fun b => b = pb) w wA := by rw [hA]; exact (hm.drewN _).setCell _ _ (fun _ => rfl)
  have hA3 : wA.heap.size = w.heap.size := by rw [hA]; simp [hz]
  clear hA
  refine (fails_any pb a cap bs ⟨s.at_, t.wr⟩ wA hA1 10 (.inl rfl)).mono ?_
  rintro e w3 ⟨rfl, hr2, hm3, hz2⟩
  go_wp2
  go_ret
  rw [HE.out]
  exact ⟨rfl, hr2, hA2.trans hm3 (fun _ _ h => h) (fun _ _ h => h), hz2.trans hA3⟩
 ·have HE : Hid (rtext bs most s = ((bs.drop t.at_).take n, ⟨t.at_ + n, t.wr⟩)) := by show _ = _; rw [HN.out, if_neg hlt]
  have hT : decide (m < n) = false := by simpa using hlt
  have hsum : t.at_ + n ≤ bs.length := by omega
  have hsum2 : t.at_ + n ≤ 2 ^ 63 - 1 := Nat.le_trans hsum hl
  clear hlt hm2
  obtain ⟨p', hp', hrd, hown⟩ : ∃ p', (if cap = t.at_ then a else Option.map (fun x => x.add t.at_) a) = p' ∧ Rd w1 1 p' n (cap - t.at_) (bc ((bs.drop t.at_).take n)) ∧ own p' = own a := by
   have hcap := HR.out.2.1.2.1
   obtain ⟨this, ho⟩ := HR.out.2.1.cut t.at_ (t.at_ + n) cap (by omega) hsum (by omega) (Nat.le_refl _)
   rw [Nat.mul_one, Nat.add_sub_cancel_left, Nat.mul_one] at this
   rw [Nat.mul_one] at ho
   refine ⟨_, rfl, ?_, ho⟩
   rw [show bc ((bs.drop t.at_).take n) = ((bc bs).drop t.at_).take n by simp [bc]]
   exact this
  have hcap := HR.out.2.1.2.1
  have hcm := HR.out.2.1.2.2.1
  go_wp2_with fail
  generalize hW : (w1.drewN d).setCell ⟨pb, 1, none⟩ (.int .i64 ((t.at_ : Int) + n)) = W
  have hmW : Mod (fun b => b = pb) w1 W := by rw [← hW]; exact ((Mod.refl _ w1).drewN _).setCell _ _ (fun _ => rfl)
  have hbW := blk_set (w := w1.drewN d) (i := 1) (.int .i64 ((t.at_ : Int) + n)) HR.out.1
  rw [hW] at hbW
  have hRW : RdrAt W pb a cap bs ⟨t.at_ + n, t.wr⟩ := HR.out.put ⟨hsum, hcok.2⟩ hmW hbW
  have hzW : W.heap.size = w1.heap.size := by rw [← hW]; simp
  have hrdW : Rd W 1 p' n (cap - t.at_) (bc ((bs.drop t.at_).take n)) := hrd.mod hmW (fun b hb e => HR.out.2.2.1 (by rw [← hown, hb, e]))
  clear hW d0 d1 f1
  have d0 := blk_cell hRW.1 0 _ rfl
  have d1 := blk_cell hRW.1 1 _ rfl
  have HRW := Lib.hid hRW
  clear hRW
  obtain ⟨q, hq⟩ : ∃ q, t.at_ + n = q := ⟨_, rfl⟩
  have hle1 : t.at_ ≤ q := by omega
  have hle2 : q ≤ cap := by omega
  have htl : t.at_ ≤ 2 ^ 63 - 1 := by omega
  have hwr : IntKind.i64.wrap (t.at_ : Int) = t.at_ := by rw [IntKind.wrap_i64]; omega
  have hsub : (q : Int) - (n : Int) = (t.at_ : Int) := by omega
  have hql : q - t.at_ = n := by omega
  have d1' : W.cell? ⟨pb, 1, none⟩ = some (.int .i64 q) := by rw [d1]; simp [← hq]
  clear d1 hq hsum hsum2 hrd hcok1 hbW
  go_still_tail 18, (by kernel_rfl)
  change wpList _ _ _ _ _ W.drew
  refine wpList_toString 5 (by kernel_rfl) (by kernel_rfl) (by kernel_rfl) p' n (cap - t.at_) rfl _ hrdW.drew ?_
  go_wp2
  go_ret
  rw [HE.out]
  exact ⟨rfl, HRW.out, (hm.trans hmW (fun _ _ h => h) (fun _ _ h => h)).drew, by show W.heap.size = _; omega⟩
end Go.Proofs.YtonnbkebjeoflaaGreatDoor.W
namespace Go.Proofs.YtonnbkebjeoflaaGreatDoor.W
open Go.RowKit
theorem toList_size (bs : ByteArray) : bs.data.toList.length = bs.size := by rw [Array.length_toList]; rfl
end Go.Proofs.YtonnbkebjeoflaaGreatDoor.W
namespace Go.Proofs.YtonnbkebjeoflaaGreatDoor.W
open Go.RowKit
theorem sevens_ne (u : Nat) : sevens u ≠ [] := by rw [sevens]; split <;> simp
theorem byte_ofNat {n : Nat} (h : n < 256) : (UInt8.ofNat n).toNat = n := by simp [UInt8.toNat_ofNat]; omega
theorem sv_back : ∀ (v k u : Nat) (l : List UInt8), (0 < k → v ≠ 0) → v * 128 ^ k < 18446744073709551616 → sv (sevens v ++ l) k u = (u + v * 128 ^ k, k + (sevens v).length, 0) := by
 intro v
 induction v using Nat.strongRecOn with
 | ind v ih =>
   intro k u l h0 hv
   have hk9 : v ≠ 0 → k ≤ 9 := fun hne => by
    rcases Nat.lt_or_ge 9 k with h | h
    ·exfalso
     have h1 : (128 : Nat) ^ 10 ≤ 128 ^ k := Nat.pow_le_pow_right (by omega) h
     have h2 : 1 * 128 ^ k ≤ v * 128 ^ k := Nat.mul_le_mul_right _ (by omega)
     have h3 : (18446744073709551616 : Nat) ≤ 128 ^ 10 := by decide
     rw [Nat.one_mul] at h2
     exact absurd (Nat.lt_of_le_of_lt (Nat.le_trans h3 (Nat.le_trans h1 h2)) hv) (Nat.lt_irrefl _)
    ·exact h
   have h9 : k = 9 → v ≤ 1 := fun e => by
    subst e
    rcases Nat.lt_or_ge 1 v with h | h
    ·exfalso
     have h2 : 2 * 128 ^ 9 ≤ v * 128 ^ 9 := Nat.mul_le_mul_right _ h
     have h3 : (18446744073709551616 : Nat) ≤ 2 * 128 ^ 9 := by decide
     exact absurd (Nat.lt_of_le_of_lt (Nat.le_trans h3 h2) hv) (Nat.lt_irrefl _)
    ·exact h
   by_cases hs : v < 128
   ·rw [sevens_small hs, List.singleton_append]
    have hb : (UInt8.ofNat v).toNat = v := byte_ofNat (by omega)
    rw [sv_end (by rw [hb]; rintro (⟨h, h'⟩ | ⟨h, h'⟩); · exact absurd (h9 h) (by omega)
                   ·exact h0 h' h) (by rw [hb]; exact hs), hb, Nat.mod_eq_of_lt hs]
    rfl
   ·rw [sevens_big (by omega), List.cons_append]
    have hb : (UInt8.ofNat (v % 128 + 128)).toNat = v % 128 + 128 := byte_ofNat (by omega)
    have hk8 : k ≠ 9 := fun e => by have := h9 e; omega
    rw [sv_more (by rw [hb]; rintro (⟨h, h'⟩ | ⟨h, h'⟩)
                    ·exact hk8 h
                    ·omega) (by rw [hb]; omega), hb]
    have hmul : v / 128 * 128 ^ (k + 1) ≤ v * 128 ^ k := by
     rw [Nat.pow_succ, ← Nat.mul_assoc, Nat.mul_right_comm]
     exact Nat.mul_le_mul_right _ (Nat.div_mul_le_self v 128)
    rw [ih (v / 128) (by omega) (k + 1) _ l (fun _ => by omega) (Nat.lt_of_le_of_lt hmul hv)]
    have e1 : (v % 128 + 128) % 128 = v % 128 := by omega
    have e2 : v * 128 ^ k = v % 128 * 128 ^ k + v / 128 * 128 ^ (k + 1) := by
     rw [Nat.pow_succ, ← Nat.mul_assoc, Nat.mul_right_comm, ← Nat.add_mul]
     congr 1; omega
    rw [e1, e2, List.length_cons]
    simp only [Prod.mk.injEq, and_true]
    constructor <;> omega
theorem sv_canon : ∀ (l : List UInt8) (k u U n : Nat), sv l k u = (U, n, 0) → ∃ v, U = u + v * 128 ^ k ∧ n = k + (sevens v).length ∧ l.take (sevens v).length = sevens v ∧ (0 < k → v ≠ 0)
 | [], k, u, U, n, h => by simp [sv] at h
 | c :: l, k, u, U, n, h => by
   by_cases hb : (k = 9 ∧ 1 < c.toNat) ∨ (c.toNat = 0 ∧ 0 < k)
   ·rw [sv_bad hb] at h; simp at h
   ·by_cases h2 : c.toNat < 128
    ·rw [sv_end hb h2] at h
     simp only [Prod.mk.injEq, and_true] at h
     obtain ⟨rfl, rfl⟩ := h
     refine ⟨c.toNat, by rw [Nat.mod_eq_of_lt h2], by rw [sevens_small h2]; rfl, ?_, fun hk h0 => hb (.inr ⟨h0, hk⟩)⟩
     rw [sevens_small h2]
     simp
    ·rw [sv_more hb h2] at h
     obtain ⟨v, h3, h4, h5, h6⟩ := sv_canon l (k + 1) _ U n h
     have hc := c.toNat_lt
     have hv0 := h6 (by omega)
     have e1 : (c.toNat % 128 + v * 128) % 128 = c.toNat % 128 := by omega
     have e2 : (c.toNat % 128 + v * 128) / 128 = v := by omega
     have e3 : UInt8.ofNat (c.toNat % 128 + 128) = c := by
      apply UInt8.toNat_inj.1
      rw [byte_ofNat (by omega)]; omega
     have hsev : sevens (c.toNat % 128 + v * 128) = c :: sevens v := by
      rw [sevens_big (by omega), e1, e2, e3]
     refine ⟨c.toNat % 128 + v * 128, ?_, ?_, ?_, fun _ => by omega⟩
     ·rw [h3, Nat.add_mul, Nat.pow_succ, Nat.mul_assoc, Nat.mul_comm 128 (128 ^ k)]; omega
     ·rw [hsev, List.length_cons, h4]; omega
     ·rw [hsev, List.length_cons, List.take_succ_cons, h5]
theorem zag_zig (n : Int) : zag (zig n) = n := by
 unfold zag zig
 by_cases h : 0 ≤ n
 ·rw [if_pos h, if_pos (by omega)]; omega
 ·rw [if_neg h, if_neg (by omega)]; omega
theorem zig_zag (u : Nat) : zig (zag u) = u := by
 unfold zag zig
 by_cases h : u % 2 = 0
 ·rw [if_pos h, if_pos (by omega)]; omega
 ·rw [if_neg h, if_neg (by omega)]; omega
theorem zag_range {u : Nat} (h : u < 18446744073709551616) : -9223372036854775808 ≤ zag u ∧ zag u ≤ 9223372036854775807 := by
 unfold zag; split <;> omega
theorem rsev_canon {bs : List UInt8} {s : RS} (h : (rsev bs s).2.2.wr = 0) : s.wr = 0 ∧ bs.take (s.at_ + (rsev bs s).2.1) = bs.take s.at_ ++ sevens (rsev bs s).1 := by
 unfold rsev at h ⊢
 split at h
 ·rename_i h0; exact absurd h h0
 ·rename_i h0
  have h0' : s.wr = 0 := by simpa using h0
  rw [if_neg h0]
  refine ⟨h0', ?_⟩
  simp only at h ⊢
  obtain ⟨v, h1, h2, h3, _⟩ := sv_canon (bs.drop s.at_) 0 0 _ _ (by rw [← h])
  simp only [Nat.zero_add, Nat.pow_zero, Nat.mul_one] at h1 h2
  rw [h1, h2, List.take_add, h3]
def Goes (bs : List UInt8) (s : RS) (ys : List UInt8) : Prop := s.wr = 0 → ys = bs.take s.at_
theorem goes_num {bs : List UInt8} {s : RS} {ys : List UInt8} (h : Goes bs s ys) : Goes bs (rnum bs s).2 (ys ++ sevens (zig (rnum bs s).1)) := by
 intro hw
 obtain ⟨h0, h1⟩ := rsev_canon (bs := bs) (s := s) hw
 rw [show (rnum bs s).1 = zag (rsev bs s).1 from rfl, zig_zag, h h0]
 exact h1.symm
theorem fail_wr {s : RS} {x : Int} (hx : x ≠ 0) : (s.fail x).wr ≠ 0 := by
 unfold RS.fail; split
 ·exact hx
 ·assumption
theorem goes_count {bs : List UInt8} {s : RS} {ys : List UInt8} (most : Int) (h : Goes bs s ys) : Goes bs (rcount bs most s).2 (ys ++ sevens (rcount bs most s).1) := by
 intro hw
 unfold rcount at hw ⊢
 split at hw
 ·exact absurd hw (fail_wr (by omega))
 ·rename_i h2
  rw [if_neg h2]
  obtain ⟨h0, h1⟩ := rsev_canon (bs := bs) (s := s) hw
  rw [h h0]
  exact h1.symm
theorem goes_text {bs : List UInt8} {s : RS} {ys : List UInt8} (most : Int) (hok : s.ok bs.length) (h : Goes bs s ys) : Goes bs (rtext bs most s).2 (ys ++ sevens (rtext bs most s).1.length ++ (rtext bs most s).1) := by
 intro hw
 unfold rtext at hw ⊢
 split at hw
 ·exact absurd hw (fail_wr (by omega))
 ·rename_i h1
  rw [if_neg h1]
  have hc := goes_count most h hw
  have hat := (rcount_ok (most := most) hok).1.1
  have hl : ((bs.drop (rcount bs most s).2.at_).take (rcount bs most s).1).length = (rcount bs most s).1 := by
   rw [List.length_take, List.length_drop]; omega
  simp only at hw ⊢
  rw [hl, hc, List.take_add]
theorem goes_end {bs : List UInt8} {s : RS} {ys : List UInt8} (hok : s.ok bs.length) (h : Goes bs s ys) (hw : (rend bs s).wr = 0) : ys = bs := by
 unfold rend at hw
 split at hw
 ·exact absurd hw (fail_wr (by omega))
 ·rename_i h1
  rw [h hw, List.take_of_length_le (by omega)]
end Go.Proofs.YtonnbkebjeoflaaGreatDoor.W
namespace Go.Proofs.YtonnbkebjeoflaaGreatDoor.W
open Go.RowKit
def TextPost (xs : List UInt8) (w : World) (e : Ending) (w' : World) : Prop := e = .returned (.string ⟨xs.toArray⟩) ∧ Mod (fun _ => False) w w'
end Go.Proofs.YtonnbkebjeoflaaGreatDoor.W
