/-
  The reader's Flag, Fail, End, Text, and Read.
  Conditions: as in CodecB.
-/
import Derived.Test.YtmbkbkfcbloafaaCodecC
namespace Go.Proofs.Ytmbkbkfcbloafaa
open Go.RowKit
set_option linter.unusedSectionVars false
set_option linter.unusedSimpArgs false
set_option linter.unusedVariables false
set_option maxRecDepth 100000

theorem rfail_any (pb : Nat) (a : Option Addr) (cap : Nat) (bs : List UInt8) (s : RS) (w : World) (h : RdrAt w pb a cap bs s) :
    Calls Try.prog 127 #[.pointer (some ⟨pb, 0, none⟩)] w (RdrTo (.tuple #[]) w pb a cap bs (s.fail 11)) := by
  have HP := Lib.hid h
  clear h
  go_enter Try.func127, Try.ntmps127
  go_wp2_with fail
  refine (fails_any pb a cap bs s w HP.out 11 (.inr (.inl rfl))).mono ?_
  rintro e w1 ⟨rfl, hr, hm, hz⟩
  go_wp2
  go_end0
  exact ⟨rfl, hr, hm, hz⟩

theorem rend_any (pb : Nat) (a : Option Addr) (cap : Nat) (bs : List UInt8) (s : RS) (w : World) (h : RdrAt w pb a cap bs s) :
    Calls Try.prog 98 #[.pointer (some ⟨pb, 0, none⟩)] w (RdrTo (.int .i64 (rend bs s).wr) w pb a cap bs (rend bs s)) := by
  have HP := Lib.hid h
  have hz0 := heap_lt h.1
  have hle := h.2.2.2.1.1
  clear h
  go_enter Try.func98, Try.ntmps98
  go_wp2_with fail
  refine (left_any pb a cap bs s w HP.out).mono ?_
  rintro e w1 ⟨d, rfl, rfl⟩
  by_cases hlt : s.at_ < bs.length
  · have HE : Hid (rend bs s = s.fail 11) := by show _ = _; rw [rend, if_pos hlt]
    obtain ⟨m, hm⟩ : ∃ m, bs.length - s.at_ = m := ⟨_, rfl⟩
    rw [hm]
    have hm0 : 0 < m := by omega
    clear hm hlt
    go_wp2_with fail
    refine calls_named fun wA hA => ?_
    have hA1 : RdrAt wA pb a cap bs s := by rw [hA]; exact HP.out
    have hA2 : Mod (fun b => b = pb) w wA := by rw [hA]; exact (Mod.refl _ w).drewN _
    have hA3 : wA.heap.size = w.heap.size := by rw [hA]; simp
    clear hA
    refine (rfail_any pb a cap bs s wA hA1).mono ?_
    rintro e w2 ⟨rfl, hr2, hm2, hz2⟩
    have c2 := blk_cell hr2.1 2 _ rfl
    have hzz := heap_lt hr2.1
    have HR := Lib.hid hr2
    clear hr2
    go_wp2
    go_ret
    rw [HE.out]
    exact ⟨rfl, HR.out, hA2.trans hm2 (fun _ _ h => h) (fun _ _ h => h), hz2.trans hA3⟩
  · have HE : Hid (rend bs s = s) := by show _ = _; rw [rend, if_neg hlt]
    obtain ⟨m, hm⟩ : ∃ m, bs.length - s.at_ = m := ⟨_, rfl⟩
    rw [hm]
    have hm0 : m = 0 := by omega
    subst hm0
    clear hm hlt
    have c2 := blk_cell HP.out.1 2 _ rfl
    go_wp2
    go_ret
    rw [HE.out]
    exact ⟨rfl, HP.out, (Mod.refl _ w).drewN _, by simp⟩

set_option maxRecDepth 100000 in
theorem rflag_any (pb : Nat) (a : Option Addr) (cap : Nat) (bs : List UInt8) (s : RS) (w : World) (h : RdrAt w pb a cap bs s) :
    Calls Try.prog 136 #[.pointer (some ⟨pb, 0, none⟩)] w (RdrTo (.bool (rflag bs s).1) w pb a cap bs (rflag bs s).2) := by
  have c0 := blk_cell h.1 0 _ rfl
  have c1 := blk_cell h.1 1 _ rfl
  have c2 := blk_cell h.1 2 _ rfl
  have hz0 := heap_lt h.1
  have hle := h.2.2.2.1.1
  have hl := h.2.2.2.2.le
  have hfok := rflag_ok h.2.2.2.1
  have HP := Lib.hid h
  clear h
  by_cases h0 : s.wr = 0
  · have hb : (s.wr != 0) = false := by simpa using h0
    have HW := Lib.hid h0
    have HF : Hid (∀ x, s.fail x = ⟨s.at_, x⟩) := by
      show ∀ x, s.fail x = _
      intro x; rw [RS.fail, if_pos HW.out]
    clear h0
    go_enter Try.func136, Try.ntmps136
    go_wp2_with fail
    refine (left_any pb a cap bs s w HP.out).mono ?_
    rintro e w1 ⟨d, rfl, rfl⟩
    by_cases hlt : s.at_ < bs.length
    · have hcg : bs[s.at_]? = some bs[s.at_] := List.getElem?_eq_getElem hlt
      obtain ⟨c, hcc⟩ : ∃ c, bs[s.at_] = c := ⟨_, rfl⟩
      rw [hcc] at hcg
      obtain ⟨b, o, hab, hcell⟩ := HP.out.2.1.byte hcg
      subst hab
      have hcb : c.toNat < 256 := c.toNat_lt
      have hbl := World.block_lt_of_cell? w _ hcell
      have HLT := Lib.hid hlt
      obtain ⟨m, hm⟩ : ∃ m, bs.length - s.at_ = m := ⟨_, rfl⟩
      rw [hm]
      have hm0 : ((m : Int) == 0) = false := by simp; omega
      have HCG := Lib.hid hcg
      have HD : Hid (rflag bs s = if 1 < c.toNat then (false, s.fail 11) else (c.toNat == 1, ⟨s.at_ + 1, s.wr⟩)) := by
        show _ = _
        rw [rflag, if_neg (by simpa using HW.out), HCG.out]
      clear hcc hcg hm
      by_cases hc : 1 < c.toNat
      · have g1 : decide ((1 : Int) < (c.toNat : Int)) = true := by simp; omega
        have HE : Hid (rflag bs s = (false, s.fail 11)) := by show _ = _; rw [HD.out, if_pos hc]
        clear hc
        go_wp2
        go_quiet (fail)
        go_wp2_with fail
        refine calls_named fun wA hA => ?_
        have hA1 : RdrAt wA pb (some ⟨b, o, none⟩) cap bs s := by rw [hA]; exact HP.out
        have hA2 : Mod (fun b => b = pb) w wA := by rw [hA]; exact (Mod.refl _ w).drewN _
        have hA3 : wA.heap.size = w.heap.size := by rw [hA]; simp
        clear hA
        refine (fails_any pb (some ⟨b, o, none⟩) cap bs s wA hA1 11 (.inr (.inl rfl))).mono ?_
        rintro e w2 ⟨rfl, hr2, hm2, hz2⟩
        go_wp2
        go_ret
        rw [HE.out]
        exact ⟨rfl, hr2, hA2.trans hm2 (fun _ _ h => h) (fun _ _ h => h), hz2.trans hA3⟩
      · have g1 : decide ((1 : Int) < (c.toNat : Int)) = false := by simp; omega
        have HE : Hid (rflag bs s = (c.toNat == 1, ⟨s.at_ + 1, s.wr⟩)) := by show _ = _; rw [HD.out, if_neg hc]
        have f1 := blk_free HP.out.1 1
        have hbp : b ≠ pb := fun e => HP.out.2.2.1 (by simp [own, e])
        clear hc
        go_wp2
        go_quiet (fail)
        go_wp2
        go_quiet (fail)
        go_wp2
        go_ret
        rw [HE.out] at hfok ⊢
        have e1 : ((c.toNat : Int) == 1) = (c.toNat == 1) := by rw [Bool.eq_iff_iff]; simp; omega
        rw [e1]
        refine ⟨rfl, HP.out.put hfok ?hm ?_, ?hm, by simp⟩
        case hm =>
          refine Mod.drewN (Mod.setCell (Mod.drewN (Mod.refl (fun b => b = pb) w) _) _ _ (fun _ => rfl)) _
        exact blk_set (w := w.drewN _) (i := 1) (.int .i64 ((s.at_ : Int) + 1)) HP.out.1
    · have HE : Hid (rflag bs s = (false, s.fail 10)) := by
        show _ = _
        rw [rflag, if_neg (by simpa using HW.out), List.getElem?_eq_none (by omega)]
      obtain ⟨m, hm⟩ : ∃ m, bs.length - s.at_ = m := ⟨_, rfl⟩
      rw [hm]
      have hm0 : m = 0 := by omega
      subst hm0
      clear hm hlt
      go_wp2_with fail
      refine calls_named fun wA hA => ?_
      have hA1 : RdrAt wA pb a cap bs s := by rw [hA]; exact HP.out
      have hA2 : Mod (fun b => b = pb) w wA := by rw [hA]; exact (Mod.refl _ w).drewN _
      have hA3 : wA.heap.size = w.heap.size := by rw [hA]; simp
      clear hA
      refine (fails_any pb a cap bs s wA hA1 10 (.inl rfl)).mono ?_
      rintro e w2 ⟨rfl, hr2, hm2, hz2⟩
      go_wp2
      go_ret
      rw [HE.out]
      exact ⟨rfl, hr2, hA2.trans hm2 (fun _ _ h => h) (fun _ _ h => h), hz2.trans hA3⟩
  · have hb : (s.wr != 0) = true := by simpa using h0
    have HE : Hid (rflag bs s = (false, s)) := by show _ = _; rw [rflag, if_pos h0]
    clear h0
    go_enter Try.func136, Try.ntmps136
    go_wp2
    go_ret
    rw [HE.out]
    exact ⟨rfl, HP.out, Mod.refl _ _, rfl⟩

/-- A reader in a fresh block of the world. -/
def RNewPost (bs : List UInt8) (w : World) (e : Ending) (w' : World) : Prop :=
  ∃ pb a cap, e = .returned (.pointer (some ⟨pb, 0, none⟩)) ∧ RdrAt w' pb a cap bs ⟨0, 0⟩ ∧ Mod (fun _ => False) w w' ∧ w.heap.size ≤ pb ∧ pb < w'.heap.size ∧ (∀ b, own a = some b → w.heap.size ≤ b ∧ b < w'.heap.size)

set_option maxRecDepth 100000 in
theorem rread_any (bs : ByteArray) (hf : bfits bs.size) (w : World) : Calls Try.prog 97 #[.string bs] w (RNewPost bs.data.toList w) := by
  go_enter Try.func97, Try.ntmps97
  go_wp2_with ((with_reducible refine at_list ?_); refine wpList_toBytes 5 (by kernel_rfl) (by kernel_rfl) (by kernel_rfl) bs rfl hf.maxLen ?_)
  intro cap w1 hr hm hz
  go_wp2
  go_ret
  have e1 : bs.size = bs.data.toList.length := by rw [Array.length_toList]; rfl
  refine ⟨w.heap.size + 1, some ⟨w.heap.size, 0, none⟩, cap, rfl, ⟨?_, ?_, ?_, ⟨Nat.zero_le _, .inl rfl⟩, e1 ▸ hf⟩, hm.alloc _, by omega, by rw [World.size_alloc, hz]; omega, ?_⟩
  · rw [← e1]
    have := heap_alloc_new w1 (.cells #[.slice (some ⟨w.heap.size, 0, none⟩) bs.size cap, .int .i64 0, .int .i64 0] 165 (0, 0))
    rw [hz] at this
    exact this
  · rw [← e1]
    exact hr.mod ((Mod.refl (fun _ => False) w1).alloc _) (fun _ _ h => h)
  · simp [own]
  · intro b hb
    simp only [own, Option.map_some, Option.some.injEq] at hb
    subst hb
    exact ⟨Nat.le_refl _, by rw [World.size_alloc, hz]; omega⟩

set_option maxRecDepth 100000 in
theorem rtext_any (pb : Nat) (a : Option Addr) (cap : Nat) (bs : List UInt8) (s : RS) (w : World) (h : RdrAt w pb a cap bs s) (most : Int) (h0 : -9223372036854775808 ≤ most) (h1 : most ≤ 9223372036854775807) :
    Calls Try.prog 129 #[.pointer (some ⟨pb, 0, none⟩), .int .i64 most] w (RdrTo (.string ⟨(rtext bs most s).1.toArray⟩) w pb a cap bs (rtext bs most s).2) := by
  have c1 := blk_cell h.1 1 _ rfl
  have hz0 := heap_lt h.1
  have hle := h.2.2.2.1.1
  have hl := h.2.2.2.2.le
  have htok := rtext_ok (most := most) h.2.2.2.1
  have hcok := (rcount_ok (most := most) h.2.2.2.1).1
  have HP := Lib.hid h
  clear h
  go_enter Try.func129, Try.ntmps129
  go_wp2_with fail
  refine (rcount_any pb a cap bs s w HP.out most h0 h1).mono ?_
  rintro e w1 ⟨rfl, hr, hm, hz⟩
  obtain ⟨n, hn⟩ : ∃ n, (rcount bs most s).1 = n := ⟨_, rfl⟩
  obtain ⟨t, ht⟩ : ∃ t, (rcount bs most s).2 = t := ⟨_, rfl⟩
  have HN : Hid (rtext bs most s = if bs.length - t.at_ < n then ([], RS.fail ⟨s.at_, t.wr⟩ 10) else ((bs.drop t.at_).take n, ⟨t.at_ + n, t.wr⟩)) := by
    show _ = _
    rw [← hn, ← ht]; rfl
  rw [ht] at hr hcok
  rw [hn]
  have HR := Lib.hid hr
  have hzz := heap_lt hr.1
  clear hn ht hr
  go_wp2_with fail
  refine (left_any pb a cap bs t w1 HR.out).mono ?_
  rintro e w2 ⟨d, rfl, rfl⟩
  obtain ⟨m, hm2⟩ : ∃ m, bs.length - t.at_ = m := ⟨_, rfl⟩
  rw [hm2] at HN ⊢
  have hcok1 := hcok.1
  have d0 := blk_cell HR.out.1 0 _ rfl
  have d1 := blk_cell HR.out.1 1 _ rfl
  have f1 := blk_free HR.out.1 1
  by_cases hlt : m < n
  · have HE : Hid (rtext bs most s = ([], RS.fail ⟨s.at_, t.wr⟩ 10)) := by show _ = _; rw [HN.out, if_pos hlt]
    have hT : decide (m < n) = true := by simpa using hlt
    clear hlt hm2
    go_wp2_with fail
    refine calls_named fun wA hA => ?_
    have hA1 : RdrAt wA pb a cap bs ⟨s.at_, t.wr⟩ := by
      rw [hA]
      exact HR.out.put ⟨hle, hcok.2⟩ ((Mod.refl _ w1).drewN _ |>.setCell _ _ (fun _ => rfl)) (blk_set (w := w1.drewN d) (i := 1) (.int .i64 s.at_) HR.out.1)
    have hA2 : Mod (fun b => b = pb) w wA := by rw [hA]; exact (hm.drewN _).setCell _ _ (fun _ => rfl)
    have hA3 : wA.heap.size = w.heap.size := by rw [hA]; simp [hz]
    clear hA
    refine (fails_any pb a cap bs ⟨s.at_, t.wr⟩ wA hA1 10 (.inl rfl)).mono ?_
    rintro e w3 ⟨rfl, hr2, hm3, hz2⟩
    go_wp2
    go_ret
    rw [HE.out]
    exact ⟨rfl, hr2, hA2.trans hm3 (fun _ _ h => h) (fun _ _ h => h), hz2.trans hA3⟩
  · have HE : Hid (rtext bs most s = ((bs.drop t.at_).take n, ⟨t.at_ + n, t.wr⟩)) := by show _ = _; rw [HN.out, if_neg hlt]
    have hT : decide (m < n) = false := by simpa using hlt
    have hsum : t.at_ + n ≤ bs.length := by omega
    have hsum2 : t.at_ + n ≤ 2 ^ 63 - 1 := Nat.le_trans hsum hl
    clear hlt hm2
    obtain ⟨p', hp', hrd, hown⟩ : ∃ p', (if cap = t.at_ then a else Option.map (fun x => x.add t.at_) a) = p' ∧ Rd w1 1 p' n (cap - t.at_) (bc ((bs.drop t.at_).take n)) ∧ own p' = own a := by
      have hcap := HR.out.2.1.2.1
      obtain ⟨this, ho⟩ := HR.out.2.1.cut t.at_ (t.at_ + n) cap (by omega) hsum (by omega) (Nat.le_refl _)
      rw [Nat.mul_one, Nat.add_sub_cancel_left, Nat.mul_one] at this
      rw [Nat.mul_one] at ho
      refine ⟨_, rfl, ?_, ho⟩
      rw [show bc ((bs.drop t.at_).take n) = ((bc bs).drop t.at_).take n by simp [bc]]
      exact this
    have hcap := HR.out.2.1.2.1
    have hcm := HR.out.2.1.2.2.1
    go_wp2_with fail
    generalize hW : (w1.drewN d).setCell ⟨pb, 1, none⟩ (.int .i64 ((t.at_ : Int) + n)) = W
    have hmW : Mod (fun b => b = pb) w1 W := by rw [← hW]; exact ((Mod.refl _ w1).drewN _).setCell _ _ (fun _ => rfl)
    have hbW := blk_set (w := w1.drewN d) (i := 1) (.int .i64 ((t.at_ : Int) + n)) HR.out.1
    rw [hW] at hbW
    have hRW : RdrAt W pb a cap bs ⟨t.at_ + n, t.wr⟩ := HR.out.put ⟨hsum, hcok.2⟩ hmW hbW
    have hzW : W.heap.size = w1.heap.size := by rw [← hW]; simp
    have hrdW : Rd W 1 p' n (cap - t.at_) (bc ((bs.drop t.at_).take n)) := hrd.mod hmW (fun b hb e => HR.out.2.2.1 (by rw [← hown, hb, e]))
    clear hW d0 d1 f1
    have d0 := blk_cell hRW.1 0 _ rfl
    have d1 := blk_cell hRW.1 1 _ rfl
    have HRW := Lib.hid hRW
    clear hRW
    obtain ⟨q, hq⟩ : ∃ q, t.at_ + n = q := ⟨_, rfl⟩
    have hle1 : t.at_ ≤ q := by omega
    have hle2 : q ≤ cap := by omega
    have htl : t.at_ ≤ 2 ^ 63 - 1 := by omega
    have hwr : IntKind.i64.wrap (t.at_ : Int) = t.at_ := by rw [IntKind.wrap_i64]; omega
    have hsub : (q : Int) - (n : Int) = (t.at_ : Int) := by omega
    have hql : q - t.at_ = n := by omega
    have d1' : W.cell? ⟨pb, 1, none⟩ = some (.int .i64 q) := by rw [d1]; simp [← hq]
    clear d1 hq hsum hsum2 hrd hcok1 hbW
    go_still_tail 18, (by kernel_rfl)
    change wpList _ _ _ _ _ W.drew
    refine wpList_toString 5 (by kernel_rfl) (by kernel_rfl) (by kernel_rfl) p' n (cap - t.at_) rfl _ hrdW.drew ?_
    go_wp2
    go_ret
    rw [HE.out]
    exact ⟨rfl, HRW.out, (hm.trans hmW (fun _ _ h => h) (fun _ _ h => h)).drew, by show W.heap.size = _; omega⟩
end Go.Proofs.Ytmbkbkfcbloafaa
