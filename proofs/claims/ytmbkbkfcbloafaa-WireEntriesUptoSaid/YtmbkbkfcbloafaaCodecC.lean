/-
  The reader's methods over sevens, Read and Sum.
  Conditions: as in CodecB.
-/
import Derived.Test.YtmbkbkfcbloafaaCodecB
import Derived.Laws.DeepNot64
namespace Go.Proofs.Ytmbkbkfcbloafaa
open Go.RowKit
set_option linter.unusedSectionVars false
set_option linter.unusedSimpArgs false
set_option linter.unusedVariables false
set_option maxRecDepth 100000

theorem bits_xor_comm (k : IntKind) (x y : Int) : bits .xor k x y = bits .xor k y x := by
  show k.wrap ((BitVec.ofInt k.bits x ^^^ BitVec.ofInt k.bits y).toNat : Int) = k.wrap ((BitVec.ofInt k.bits y ^^^ BitVec.ofInt k.bits x).toNat : Int)
  rw [BitVec.xor_comm]

theorem i64_xor_zero (a : Nat) (ha : a < 9223372036854775808) : bits .xor .i64 (a : Int) 0 = a := by
  show IntKind.i64.wrap ((BitVec.ofInt 64 (a : Int) ^^^ BitVec.ofInt 64 0).toNat : Int) = _
  have h1 : BitVec.ofInt 64 0 = 0#64 := by decide
  rw [h1, BitVec.xor_zero, ofInt_u64 a (by omega)]
  simp [IntKind.wrap, IntKind.bits, IntKind.signed]
  omega

theorem zag_eq (u : Nat) (hu : u < 18446744073709551616) : bits .xor .i64 (wrap64 ((u : Int) / 2)) (wrap64 (-wrap64 (bits .and .u64 (u : Int) 1))) = zag u := by
  have e1 : bits .and .u64 (u : Int) 1 = ((u % 2 : Nat) : Int) := by
    rw [show (1 : Int) = ((1 : Nat) : Int) from rfl, u64_and_nat u 1 hu (by omega), Nat.and_one_is_mod]
  have e2 : wrap64 ((u : Int) / 2) = ((u / 2 : Nat) : Int) := by unfold wrap64; omega
  rw [e1, e2]
  have hlt : u / 2 < 9223372036854775808 := by omega
  unfold zag
  by_cases h : u % 2 = 0
  · rw [if_pos h, h, show wrap64 (-wrap64 ((0 : Nat) : Int)) = 0 by unfold wrap64; omega]; exact i64_xor_zero _ hlt
  · have h1 : u % 2 = 1 := by omega
    rw [if_neg h, h1, show wrap64 (-wrap64 ((1 : Nat) : Int)) = -1 by unfold wrap64; omega, bits_xor_comm, i64_not _ hlt]
    omega

theorem RdrTo.at {v : Value} {w w' : World} {pb : Nat} {a : Option Addr} {cap : Nat} {bs : List UInt8} {s : RS} {e : Ending} (h : RdrTo v w pb a cap bs s e w') : e = .returned v ∧ RdrAt w' pb a cap bs s ∧ Mod (fun b => b = pb) w w' ∧ w'.heap.size = w.heap.size := h

theorem rnum_any (pb : Nat) (a : Option Addr) (cap : Nat) (bs : List UInt8) (s : RS) (w : World) (h : RdrAt w pb a cap bs s) :
    Calls Try.prog 99 #[.pointer (some ⟨pb, 0, none⟩)] w (RdrTo (.int .i64 (rnum bs s).1) w pb a cap bs (rnum bs s).2) := by
  have hok := rsev_ok h.2.2.2.1
  have hnok := rnum_ok h.2.2.2.1
  have hbl := h.2.2.2.2.le
  have HP := Lib.hid h
  clear h
  go_enter Try.func99, Try.ntmps99
  go_wp2_with fail
  refine (rsevens_any pb a cap bs s w HP.out).mono ?_
  rintro e w1 ⟨rfl, hr, hm, hz⟩
  obtain ⟨u, hu⟩ : ∃ u, (rsev bs s).1 = u := ⟨_, rfl⟩
  obtain ⟨n, hn⟩ : ∃ n, (rsev bs s).2.1 = n := ⟨_, rfl⟩
  have HN : Hid ((rnum bs s).1 = zag u ∧ (rnum bs s).2 = ⟨s.at_ + n, (rsev bs s).2.2.wr⟩) := by
    show _ ∧ _
    rw [← hu, ← hn]; exact ⟨rfl, rfl⟩
  have c1 := blk_cell hr.1 1 _ rfl
  have f1 := blk_free hr.1 1
  have hzz := heap_lt hr.1
  rw [hok.2.2.2.1] at c1
  rw [hu, hn] at hok ⊢
  have HR := Lib.hid hr
  have hal := hok.2.1
  have hal2 : s.at_ + n ≤ 2 ^ 63 - 1 := Nat.le_trans hal hbl
  have HU := Lib.hid hok.1
  clear hu hn hr hok
  go_wp2
  go_ret
  rw [zag_eq u HU.out, HN.out.1, HN.out.2]
  have hmm : Mod (fun b => b = pb) w (w1.setCell ⟨pb, 1, none⟩ (.int .i64 ((s.at_ : Int) + n))) := hm.setCell _ _ (fun _ => rfl)
  refine ⟨rfl, HR.out.put (HN.out.2 ▸ hnok) ((Mod.refl _ w1).setCell _ _ (fun _ => rfl)) ?_, hmm, by simp [hz]⟩
  have := blk_set (i := 1) (.int .i64 ((s.at_ : Int) + n)) HR.out.1
  rw [this]; rfl

theorem rcount_any (pb : Nat) (a : Option Addr) (cap : Nat) (bs : List UInt8) (s : RS) (w : World) (h : RdrAt w pb a cap bs s) (most : Int) (h0 : -9223372036854775808 ≤ most) (h1 : most ≤ 9223372036854775807) :
    Calls Try.prog 133 #[.pointer (some ⟨pb, 0, none⟩), .int .i64 most] w (RdrTo (.int .i64 (rcount bs most s).1) w pb a cap bs (rcount bs most s).2) := by
  have hok := rsev_ok h.2.2.2.1
  have hcok := (rcount_ok (most := most) h.2.2.2.1).1
  have hbl := h.2.2.2.2.le
  have HP := Lib.hid h
  clear h
  go_enter Try.func133, Try.ntmps133
  go_wp2_with fail
  refine (rsevens_any pb a cap bs s w HP.out).mono ?_
  rintro e w1 ⟨rfl, hr, hm, hz⟩
  obtain ⟨u, hu⟩ : ∃ u, (rsev bs s).1 = u := ⟨_, rfl⟩
  obtain ⟨n, hn⟩ : ∃ n, (rsev bs s).2.1 = n := ⟨_, rfl⟩
  have HN : Hid (rcount bs most s = if most.toNat < u then (0, (rsev bs s).2.2.fail 12) else (u, ⟨s.at_ + n, (rsev bs s).2.2.wr⟩)) := by
    show rcount bs most s = _
    rw [← hu, ← hn]; rfl
  have c1 := blk_cell hr.1 1 _ rfl
  have f1 := blk_free hr.1 1
  have hzz := heap_lt hr.1
  rw [hok.2.2.2.1] at c1
  rw [hu, hn] at hok ⊢
  have HR := Lib.hid hr
  have hal := hok.2.1
  have hal2 : s.at_ + n ≤ 2 ^ 63 - 1 := Nat.le_trans hal hbl
  have HU := Lib.hid hok.1
  clear hu hn hr hok
  by_cases hb : most.toNat < u
  · have HB : Hid (rcount bs most s = (0, (rsev bs s).2.2.fail 12)) := by show _ = _; rw [HN.out, if_pos hb]
    go_wp2_with fail
    all_goals first
      | omega
      | (exfalso; rename_i hq; split at hq <;> omega)
      | (refine (fails_any pb a cap bs (rsev bs s).2.2 w1 HR.out 12 (.inr (.inr rfl))).mono ?_
         rintro e w2 ⟨rfl, hr2, hm2, hz2⟩
         go_wp2
         go_ret
         rw [HB.out]
         exact ⟨rfl, hr2, hm.trans hm2 (fun _ _ h => h) (fun _ _ h => h), hz2.trans hz⟩)
  · have HB : Hid (rcount bs most s = (u, ⟨s.at_ + n, (rsev bs s).2.2.wr⟩)) := by show _ = _; rw [HN.out, if_neg hb]
    go_wp2_with fail
    all_goals first
      | (exfalso; omega)
      | (exfalso; rename_i hq; split at hq <;> omega)
      | (go_ret
         rw [HB.out] at hcok ⊢
         exact ⟨rfl, HR.out.put hcok ((Mod.refl _ w1).setCell _ _ (fun _ => rfl)) (blk_set (i := 1) (.int .i64 ((s.at_ : Int) + n)) HR.out.1), hm.setCell _ _ (fun _ => rfl), by simp [hz]⟩)
end Go.Proofs.Ytmbkbkfcbloafaa
