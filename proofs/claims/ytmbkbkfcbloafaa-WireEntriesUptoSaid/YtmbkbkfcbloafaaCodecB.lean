/-
  The reader of package codec: what each method takes up, in the words of the plain reader.
  Conditions: the reader lies in a block of its own ('RdrAt').
-/
import Derived.Test.YtmbkbkfcbloafaaCodecA
import Derived.Test.YtmbkbkfcbloafaaCodecP
namespace Go.Proofs.Ytmbkbkfcbloafaa
open Go.RowKit
set_option linter.unusedSectionVars false
set_option linter.unusedSimpArgs false
set_option linter.unusedVariables false
set_option maxRecDepth 100000

/-- A reader at block pb of the bytes bs. -/
def RdrAt (w : World) (pb : Nat) (a : Option Addr) (cap : Nat) (bs : List UInt8) (s : RS) : Prop :=
  w.heap[pb]? = some (.cells #[.slice a bs.length cap, .int .i64 s.at_, .int .i64 s.wr] 165 (0, 0)) ∧ Rd w 1 a bs.length cap (bc bs) ∧ own a ≠ some pb ∧ s.ok bs.length ∧ bfits bs.length

theorem RdrAt.mod {S : Nat → Prop} {w w' : World} {pb : Nat} {a : Option Addr} {cap : Nat} {bs : List UInt8} {s : RS} (h : RdrAt w pb a cap bs s) (hm : Mod S w w') (h1 : ¬ S pb) (h2 : ∀ b, own a = some b → ¬ S b) : RdrAt w' pb a cap bs s :=
  ⟨hm.heap h.1 h1, h.2.1.mod hm h2, h.2.2.1, h.2.2.2.1, h.2.2.2.2⟩

/-- How a call leaves a reader. -/
def RdrTo (v : Value) (w : World) (pb : Nat) (a : Option Addr) (cap : Nat) (bs : List UInt8) (s : RS) (e : Ending) (w' : World) : Prop :=
  e = .returned v ∧ RdrAt w' pb a cap bs s ∧ Mod (fun b => b = pb) w w' ∧ w'.heap.size = w.heap.size

/-- Another state, laid into the block. -/
theorem RdrAt.put {w w' : World} {pb : Nat} {a : Option Addr} {cap : Nat} {bs : List UInt8} {s t : RS} (h : RdrAt w pb a cap bs s) (ht : t.ok bs.length) (hm : Mod (fun b => b = pb) w w')
    (hw : w'.heap[pb]? = some (.cells #[.slice a bs.length cap, .int .i64 t.at_, .int .i64 t.wr] 165 (0, 0))) : RdrAt w' pb a cap bs t :=
  ⟨hw, h.2.1.mod hm (fun b hb e => h.2.2.1 (e ▸ hb)), h.2.2.1, ht, h.2.2.2.2⟩

def LeftPost (n : Int) (w : World) (e : Ending) (w' : World) : Prop := ∃ d, e = .returned (.int .i64 n) ∧ w' = w.drewN d

theorem left_any (pb : Nat) (a : Option Addr) (cap : Nat) (bs : List UInt8) (s : RS) (w : World) (h : RdrAt w pb a cap bs s) :
    Calls Try.prog 126 #[.pointer (some ⟨pb, 0, none⟩)] w (LeftPost ((bs.length - s.at_ : Nat) : Int) w) := by
  have c0 := blk_cell h.1 0 _ rfl
  have c1 := blk_cell h.1 1 _ rfl
  have hle := h.2.2.2.1.1
  have hl := h.2.2.2.2.le
  have hz := heap_lt h.1
  obtain ⟨n, hn⟩ : ∃ n, bs.length = n := ⟨_, rfl⟩
  obtain ⟨k, hk⟩ : ∃ k, s.at_ = k := ⟨_, rfl⟩
  rw [hn] at c0 hle hl ⊢
  rw [hk] at c1 hle ⊢
  clear h hn hk
  go_enter Try.func126, Try.ntmps126
  go_wp2
  go_quiet (fail)
  go_wp2
  go_ret
  refine ⟨_, ?_, rfl⟩
  rw [Int.ofNat_sub hle]; rfl

theorem fails_any (pb : Nat) (a : Option Addr) (cap : Nat) (bs : List UInt8) (s : RS) (w : World) (h : RdrAt w pb a cap bs s) (x : Int) (hx : x = 10 ∨ x = 11 ∨ x = 12) :
    Calls Try.prog 137 #[.pointer (some ⟨pb, 0, none⟩), .int .i64 x] w (RdrTo (.tuple #[]) w pb a cap bs (s.fail x)) := by
  have c2 := blk_cell h.1 2 _ rfl
  have f2 := blk_free h.1 2
  have hz := heap_lt h.1
  have HP := Lib.hid h
  clear h
  by_cases h0 : s.wr = 0
  · have hb : (s.wr == 0) = true := by simpa using h0
    have HE : Hid (s.fail x = ⟨s.at_, x⟩) := by show s.fail x = _; rw [RS.fail, if_pos h0]
    clear h0
    go_enter Try.func137, Try.ntmps137
    go_wp2
    go_end0
    have hm : Mod (fun b => b = pb) w (w.setCell ⟨pb, 2, none⟩ (.int .i64 x)) := (Mod.refl _ w).setCell _ _ (fun _ => rfl)
    rw [HE.out]
    exact ⟨rfl, HP.out.put ⟨HP.out.2.2.2.1.1, .inr hx⟩ hm (blk_set (i := 2) _ HP.out.1), hm, by simp⟩
  · have hb : (s.wr == 0) = false := by simpa using h0
    have HE : Hid (s.fail x = s) := by show s.fail x = _; rw [RS.fail, if_neg h0]
    clear h0
    go_enter Try.func137, Try.ntmps137
    go_wp2
    go_end0
    rw [HE.out]
    exact ⟨rfl, HP.out, Mod.refl _ _, rfl⟩

/-- What the rounds of sevens keep: k bytes are taken up as u; the rest gives what the whole gives. -/
def SvRel (l : List UInt8) (x : Value) (k : Nat) : Prop := ∃ u : Nat, x = .int .u64 u ∧ u < 128 ^ k ∧ k ≤ 9 ∧ sv l 0 0 = sv (l.drop k) k u

set_option maxRecDepth 100000 in
theorem rsevens_any (pb : Nat) (a : Option Addr) (cap : Nat) (bs : List UInt8) (s : RS) (w : World) (h : RdrAt w pb a cap bs s) :
    Calls Try.prog 128 #[.pointer (some ⟨pb, 0, none⟩)] w (RdrTo (.tuple #[.int .u64 (rsev bs s).1, .int .i64 (rsev bs s).2.1]) w pb a cap bs (rsev bs s).2.2) := by
  have c0 := blk_cell h.1 0 _ rfl
  have c1 := blk_cell h.1 1 _ rfl
  have c2 := blk_cell h.1 2 _ rfl
  have hz := heap_lt h.1
  have hle := h.2.2.2.1.1
  have hl := h.2.2.2.2.le
  have HP := Lib.hid h
  clear h
  by_cases h0 : s.wr = 0
  · have hb : (s.wr != 0) = false := by simpa using h0
    have HE : Hid (rsev bs s = ((sv (bs.drop s.at_) 0 0).1, (sv (bs.drop s.at_) 0 0).2.1, ⟨s.at_, (sv (bs.drop s.at_) 0 0).2.2⟩)) := by
      show rsev bs s = _; rw [rsev, if_neg (by simpa using h0)]
    have HW := Lib.hid h0
    clear h0
    go_enter Try.func128, Try.ntmps128
    go_wp2_with fail
    refine (left_any pb a cap bs s w HP.out).mono ?_
    rintro e w1 ⟨d, rfl, rfl⟩
    obtain ⟨m, hm⟩ : ∃ m, bs.length - s.at_ = m := ⟨_, rfl⟩
    rw [hm]
    have HM := Lib.hid hm
    have hml : m ≤ 2 ^ 63 - 1 := by omega
    clear hm
    go_wp2
    go_loopw [4, 16] (fun x i wr => ∃ k : Nat, k ≤ m ∧ i = .int .i64 k ∧ SvRel (bs.drop s.at_) x k ∧ ∃ d, wr = w.drewN d) (fun _ i _ => m - (intOf i).toNat)
    case atStart => exact ⟨0, by omega, rfl, ⟨0, rfl, by omega, by omega, rfl⟩, d, rfl⟩
    case round =>
      obtain ⟨k, hk, rfl, ⟨u, rfl, hu, hk9, hsv⟩, d2, rfl⟩ := hrel
      by_cases hlt : k < m
      · have hix : s.at_ + k < bs.length := by have := HM.out; omega
        have hcg : bs[s.at_ + k]? = some bs[s.at_ + k] := List.getElem?_eq_getElem hix
        obtain ⟨c, hcc⟩ : ∃ c, bs[s.at_ + k] = c := ⟨_, rfl⟩
        rw [hcc] at hcg
        obtain ⟨b, o, hab, hcell⟩ := HP.out.2.1.byte hcg
        subst hab
        have hdr : (bs.drop s.at_).drop k = c :: (bs.drop s.at_).drop (k + 1) := by
          rw [List.drop_drop, List.drop_drop, ← hcc]; exact List.drop_eq_getElem_cons hix
        rw [hdr] at hsv
        have HSV := Lib.hid hsv
        have HU := Lib.hid hu
        have hcb : c.toNat < 256 := c.toNat_lt
        have hbl := World.block_lt_of_cell? w _ hcell
        clear hcc hdr hsv hcg hu
        have hU2 : ∀ h : ¬ ((k = 9 ∧ 1 < c.toNat) ∨ (c.toNat = 0 ∧ 0 < k)), bits .or .u64 (u : Int) (IntKind.u64.wrap (IntKind.u64.wrap (bits .and .u8 (c.toNat : Int) 127) * 2 ^ (7 * k))) = ((u + c.toNat % 128 * 128 ^ k : Nat) : Int) :=
          fun h => seven_step u k c.toNat HU.out hk9 hcb fun h9 => by omega
        have HF : Hid (∀ x, s.fail x = ⟨s.at_, x⟩) := by
          show ∀ x, s.fail x = _
          intro x; rw [RS.fail, if_pos HW.out]
        by_cases hbad : (k = 9 ∧ 1 < c.toNat) ∨ (c.toNat = 0 ∧ 0 < k)
        · have HB := Lib.hid (sv_bad (l := (bs.drop s.at_).drop (k + 1)) (u := u) hbad)
          clear hU2
          by_cases h9 : k = 9
          · by_cases hc1 : 1 < c.toNat
            · have f9 : ((k : Int) == 9) = true := by simp; omega
              have g1 : decide ((1 : Int) < (c.toNat : Int)) = true := by simp; omega
              clear hbad h9 hc1
              go_wp2
              go_quiet (fail)
              go_wp2_with fail
              refine calls_named fun wA hA => ?_
              have hA1 : RdrAt wA pb (some ⟨b, o, none⟩) cap bs s := by rw [hA]; exact HP.out
              have hA2 : Mod (fun b => b = pb) w wA := by rw [hA]; exact (Mod.refl _ w).drewN _
              have hA3 : wA.heap.size = w.heap.size := by rw [hA]; simp
              clear hA
              refine (fails_any pb (some ⟨b, o, none⟩) cap bs s wA hA1 11 (.inr (.inl rfl))).mono ?_
              rintro e w2 ⟨rfl, hr2, hm2, hz2⟩
              go_wp2
              go_ret2
              rw [HF.out 11, HE.out, HSV.out, HB.out] at *
              exact ⟨rfl, hr2, hA2.trans hm2 (fun _ _ h => h) (fun _ _ h => h), hz2.trans hA3⟩
              
            · have h0 : c.toNat = 0 := by omega
              have f9 : ((k : Int) == 9) = true := by simp; omega
              have g1 : decide ((1 : Int) < (c.toNat : Int)) = false := by simp; omega
              have gz : ((c.toNat : Int) == 0) = true := by simp; omega
              have gk : decide (0 < k) = true := by simp; omega
              clear hbad h9 hc1 h0
              go_wp2
              go_quiet (fail)
              go_wp2_with fail
              refine calls_named fun wA hA => ?_
              have hA1 : RdrAt wA pb (some ⟨b, o, none⟩) cap bs s := by rw [hA]; exact HP.out
              have hA2 : Mod (fun b => b = pb) w wA := by rw [hA]; exact (Mod.refl _ w).drewN _
              have hA3 : wA.heap.size = w.heap.size := by rw [hA]; simp
              clear hA
              refine (fails_any pb (some ⟨b, o, none⟩) cap bs s wA hA1 11 (.inr (.inl rfl))).mono ?_
              rintro e w2 ⟨rfl, hr2, hm2, hz2⟩
              go_wp2
              go_ret2
              rw [HF.out 11, HE.out, HSV.out, HB.out] at *
              exact ⟨rfl, hr2, hA2.trans hm2 (fun _ _ h => h) (fun _ _ h => h), hz2.trans hA3⟩
          · have h0 : c.toNat = 0 := by omega
            have h00 : 0 < k := by omega
            have f9 : ((k : Int) == 9) = false := by simp; omega
            have gz : ((c.toNat : Int) == 0) = true := by simp; omega
            have gk : decide (0 < k) = true := by simp; omega
            clear hbad h9 h0 h00
            go_wp2
            go_quiet (fail)
            go_wp2_with fail
            refine calls_named fun wA hA => ?_
            have hA1 : RdrAt wA pb (some ⟨b, o, none⟩) cap bs s := by rw [hA]; exact HP.out
            have hA2 : Mod (fun b => b = pb) w wA := by rw [hA]; exact (Mod.refl _ w).drewN _
            have hA3 : wA.heap.size = w.heap.size := by rw [hA]; simp
            clear hA
            refine (fails_any pb (some ⟨b, o, none⟩) cap bs s wA hA1 11 (.inr (.inl rfl))).mono ?_
            rintro e w2 ⟨rfl, hr2, hm2, hz2⟩
            go_wp2
            go_ret2
            rw [HF.out 11, HE.out, HSV.out, HB.out] at *
            exact ⟨rfl, hr2, hA2.trans hm2 (fun _ _ h => h) (fun _ _ h => h), hz2.trans hA3⟩
        · have HST := Lib.hid (hU2 hbad)
          clear hU2
          by_cases hc128 : c.toNat < 128
          · have HEND := Lib.hid (sv_end (l := (bs.drop s.at_).drop (k + 1)) (u := u) hbad hc128)
            have HOK : Hid (RS.ok ⟨s.at_, 0⟩ bs.length) := Lib.hid ⟨HP.out.2.2.2.1.1, .inl rfl⟩
            by_cases h9 : k = 9
            · have hc1 : ¬ 1 < c.toNat := by omega
              have h0 : c.toNat ≠ 0 := by omega
              have f9 : ((k : Int) == 9) = true := by simp; omega
              have g1 : decide ((1 : Int) < (c.toNat : Int)) = false := by simp; omega
              have gz : ((c.toNat : Int) == 0) = false := by simp; omega
              have gl : decide ((c.toNat : Int) < 128) = true := by simp; omega
              clear hbad h9 hc1 h0 hc128
              go_wp2
              go_quiet (fail)
              go_wp2
              go_ret2
              rw [HST.out, HE.out, HSV.out, HEND.out]
              exact ⟨rfl, HP.out.put HOK.out ((Mod.refl _ w).drewN _) (by have := HP.out.1; rw [HW.out] at this; exact this), (Mod.refl _ w).drewN _, by simp⟩
            · by_cases h0 : c.toNat = 0
              · have h00 : ¬ 0 < k := by omega
                have f9 : ((k : Int) == 9) = false := by simp; omega
                have gz : ((c.toNat : Int) == 0) = true := by simp; omega
                have gk : decide (0 < k) = false := by simp; omega
                have gl : decide ((c.toNat : Int) < 128) = true := by simp; omega
                clear hbad h9 h0 h00 hc128
                go_wp2
                go_quiet (fail)
                go_wp2
                go_ret2
                rw [HST.out, HE.out, HSV.out, HEND.out]
                exact ⟨rfl, HP.out.put HOK.out ((Mod.refl _ w).drewN _) (by have := HP.out.1; rw [HW.out] at this; exact this), (Mod.refl _ w).drewN _, by simp⟩
              · skip
                have f9 : ((k : Int) == 9) = false := by simp; omega
                have gz : ((c.toNat : Int) == 0) = false := by simp; omega
                have gl : decide ((c.toNat : Int) < 128) = true := by simp; omega
                clear hbad h9 h0 hc128
                go_wp2
                go_quiet (fail)
                go_wp2
                go_ret2
                rw [HST.out, HE.out, HSV.out, HEND.out]
                exact ⟨rfl, HP.out.put HOK.out ((Mod.refl _ w).drewN _) (by have := HP.out.1; rw [HW.out] at this; exact this), (Mod.refl _ w).drewN _, by simp⟩
          · have HEND := Lib.hid (sv_more (l := (bs.drop s.at_).drop (k + 1)) (u := u) hbad hc128)
            have h9 : ¬ k = 9 := by omega
            have h0 : ¬ c.toNat = 0 := by omega
            have hk9' : k + 1 ≤ 9 := by omega
            have HU2 : Hid (u + c.toNat % 128 * 128 ^ k < 128 ^ (k + 1)) := by
              show _ < _
              have : c.toNat % 128 * 128 ^ k ≤ 127 * 128 ^ k := Nat.mul_le_mul_right _ (by omega)
              have := HU.out
              rw [Nat.pow_succ]; omega
            have f9 : ((k : Int) == 9) = false := by simp; omega
            have gz : ((c.toNat : Int) == 0) = false := by simp; omega
            have gl : decide ((c.toNat : Int) < 128) = false := by simp; omega
            clear hbad h9 h0 hc128
            go_wp2
            go_quiet (fail)
            go_wp2
            rw [HST.out]
            refine ⟨⟨k + 1, by omega, by simp, ⟨_, rfl, HU2.out, hk9', HSV.out.trans HEND.out⟩, _, rfl⟩, ?_⟩
            simp only [intOf]; omega
      · have HB : Hid (sv (bs.drop s.at_) 0 0 = (0, 0, 10)) := by
          show _ = _
          rw [hsv, List.drop_eq_nil_of_le (by rw [List.length_drop, HM.out]; omega), sv_nil]
        have HF : Hid (∀ x, s.fail x = ⟨s.at_, x⟩) := by
          show ∀ x, s.fail x = _
          intro x; rw [RS.fail, if_pos HW.out]
        clear hsv
        go_wp2_with fail
        refine calls_named fun wA hA => ?_
        have hA1 : RdrAt wA pb a cap bs s := by rw [hA]; exact HP.out
        have hA2 : Mod (fun b => b = pb) w wA := by rw [hA]; exact (Mod.refl _ w).drewN _
        have hA3 : wA.heap.size = w.heap.size := by rw [hA]; simp
        clear hA
        refine (fails_any pb a cap bs s wA hA1 10 (.inl rfl)).mono ?_
        rintro e w2 ⟨rfl, hr2, hm2, hz2⟩
        go_wp2
        go_ret2
        rw [HF.out 10, HE.out, HB.out] at *
        exact ⟨rfl, hr2, hA2.trans hm2 (fun _ _ h => h) (fun _ _ h => h), hz2.trans hA3⟩
  · have hb : (s.wr != 0) = true := by simpa using h0
    have HE : Hid (rsev bs s = (0, 0, s)) := by show rsev bs s = _; rw [rsev, if_pos h0]
    clear h0
    go_enter Try.func128, Try.ntmps128
    go_wp2
    go_ret2
    rw [HE.out]
    exact ⟨rfl, HP.out, Mod.refl _ _, rfl⟩
end Go.Proofs.Ytmbkbkfcbloafaa
