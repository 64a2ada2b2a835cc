/-
  The document's Reader: what each of its methods takes up, as the plain reader of CodecP does.
  Conditions: the reader lies in a block of its own; the text fits.
  The document's Reader: Num, Flag, Count, Text, Fail, End.
  Conditions: as in CodecX.
-/
import Derived.Test.YtmbkbkfcbloafaaGreatJcodec
import Derived.WalkSpells
namespace Go.Proofs.YtmbkbkfcbloafaaGreat
section
open Go.RowKit
set_option linter.unusedSectionVars false
set_option linter.unusedSimpArgs false
set_option linter.unusedVariables false
set_option maxRecDepth 100000

/-- A byte of a text at a place that is reckoned. -/
theorem index_byte {P : Program} {t : TypeId} (h : P.underlying t = some .string) (bs : ByteArray) (i : Int) (k : Nat) (hi : i = k) (c : UInt8) (hlt : k < bs.size) (hc : bs[k] = c) (w : World) :
    (Instr.index t (.string bs) (.int .i64 i)).run P w = .ok (.int .u8 c.toNat) w := by
  subst hi
  rw [run_index_string (P := P) w t bs .i64 k h, dif_pos (by omega)]
  subst hc
  rfl

/-- The cells of a reader of the document's. -/
def drc (bs : ByteArray) (s : RS) : Array Value := #[.string bs, .int .i64 s.at_, .int .i64 s.wr]

/-- A reader of the document's at block pb. -/
def DrAt (w : World) (pb : Nat) (bs : ByteArray) (s : RS) : Prop :=
  w.heap[pb]? = some (.cells (drc bs s) 96 (0, 0)) ∧ s.ok bs.size ∧ bfits bs.size

theorem DrAt.cells {w : World} {pb : Nat} {bs : ByteArray} {s : RS} (h : DrAt w pb bs s) :
    w.cell? ⟨pb, 0, none⟩ = some (.string bs) ∧ w.cell? ⟨pb, 1, none⟩ = some (.int .i64 s.at_) ∧ w.cell? ⟨pb, 2, none⟩ = some (.int .i64 s.wr) ∧ ∀ j, w.frozen? ⟨pb, j, none⟩ = false :=
  ⟨blk_cell h.1 0 _ rfl, blk_cell h.1 1 _ rfl, blk_cell h.1 2 _ rfl, fun j => blk_free h.1 j⟩

def DrTo (v : Value) (w : World) (pb : Nat) (bs : ByteArray) (s : RS) (e : Ending) (w' : World) : Prop :=
  e = .returned v ∧ DrAt w' pb bs s ∧ Mod (fun b => b = pb) w w' ∧ w'.heap.size = w.heap.size

theorem DrAt.move {w : World} {pb : Nat} {bs : ByteArray} {s : RS} (h : DrAt w pb bs s) (n k : Nat) (x : Int) (hx : x = k) (z : Int) (hz : s.wr = z) (hk : RS.ok ⟨k, z⟩ bs.size) : DrAt ((w.drewN n).setCell ⟨pb, 1, none⟩ (.int .i64 x)) pb bs ⟨k, z⟩ := by
  subst hx hz
  exact ⟨blk_set (w := w.drewN n) (i := 1) (.int .i64 (k : Int)) h.1, hk, h.2.2⟩

theorem dwrong_any (pb : Nat) (bs : ByteArray) (s : RS) (w : World) (h : DrAt w pb bs s) (x : Int) (hx : x = 10 ∨ x = 11 ∨ x = 12) :
    Calls Tryz.prog 93 #[.pointer (some ⟨pb, 0, none⟩), .int .i64 x] w (DrTo (.tuple #[]) w pb bs (s.fail x)) := by
  obtain ⟨c0, c1, c2, f⟩ := h.cells
  have f2 := f 2
  clear f
  have hz := heap_lt h.1
  have HP := Lib.hid h
  have HK := Lib.hid (h.2.1.fail x hx)
  clear h
  by_cases h0 : s.wr = 0
  · have hb : (s.wr == 0) = true := by simpa using h0
    have HE : Hid (s.fail x = ⟨s.at_, x⟩) := by show s.fail x = _; rw [RS.fail, if_pos h0]
    clear h0
    go_enter Tryz.func93, Tryz.ntmps93
    go_wp2
    go_end0
    refine ⟨rfl, ⟨?_, HK.out, HP.out.2.2⟩, (Mod.refl _ w).setCell ⟨pb, 2, none⟩ _ (fun _ => rfl), by simp⟩
    rw [HE.out]
    exact blk_set (i := 2) (.int .i64 x) HP.out.1
  · have hb : (s.wr == 0) = false := by simpa using h0
    have HE : Hid (s.fail x = s) := by show s.fail x = _; rw [RS.fail, if_neg h0]
    clear h0
    go_enter Tryz.func93, Tryz.ntmps93
    go_wp2
    go_end0
    rw [HE.out]
    exact ⟨rfl, HP.out, Mod.refl _ _, rfl⟩

theorem dwrong_drew (pb : Nat) (bs : ByteArray) (s : RS) (w : World) (n : Nat) (h : DrAt w pb bs s) (x : Int) (hx : x = 10 ∨ x = 11 ∨ x = 12) :
    Calls Tryz.prog 93 #[.pointer (some ⟨pb, 0, none⟩), .int .i64 x] (w.drewN n) (DrTo (.tuple #[]) w pb bs (s.fail x)) := by
  refine (dwrong_any pb bs s (w.drewN n) h x hx).mono ?_
  rintro e w' ⟨h1, h2, h3, h4⟩
  exact ⟨h1, h2, ((Mod.refl _ w).drewN n).trans h3 (fun _ _ h => h) (fun _ _ h => h), h4.trans (by simp)⟩

/-- What the rounds of the document's sevens keep. -/
def DvRel (l : List UInt8) (n : Nat) (x un i : Value) : Prop :=
  ∃ j u q : Nat, i = .int .i64 ((j : Int) + 1) ∧ un = .int .u64 (q : Int) ∧ x = .int .u64 (u : Int) ∧ q = 128 ^ j ∧ u < q ∧ j ≤ 9 ∧ j ≤ n ∧ sv l 0 0 = sv (l.drop j) j u

theorem u64_wrap_nat (n : Nat) (h : n < 18446744073709551616) : IntKind.u64.wrap (n : Int) = n := by
  simp [IntKind.wrap, IntKind.bits, IntKind.signed]; omega

/-- A round's sum. -/
theorem dsev_sum {u c q : Nat} (h : u + c % 128 * q < 18446744073709551616) : IntKind.u64.wrap ((u : Int) + IntKind.u64.wrap ((c : Int) % 128 * (q : Int))) = ((u + c % 128 * q : Nat) : Int) := by
  have e1 : (c : Int) % 128 * (q : Int) = ((c % 128 * q : Nat) : Int) := by push_cast; rfl
  rw [e1, u64_wrap_nat _ (by omega), ← Int.natCast_add, u64_wrap_nat _ h]

theorem dsev_in {j u q c : Nat} (hq : q = 128 ^ j) (hu : u < q) (hj : j ≤ 9) (hc : c < 256) (h9 : j = 9 → c ≤ 1) : u + c % 128 * q < 18446744073709551616 := by
  have h1 : c % 128 ≤ 127 := by omega
  rcases Nat.lt_or_ge j 9 with h | h
  · have h2 : q ≤ 128 ^ 8 := by rw [hq]; exact Nat.pow_le_pow_right (by omega) (by omega)
    have h3 : c % 128 * q ≤ 127 * q := Nat.mul_le_mul_right _ h1
    have h5 : (128 : Nat) ^ 8 = 72057594037927936 := by decide
    omega
  · obtain rfl : j = 9 := by omega
    have h5 : (128 : Nat) ^ 9 = 9223372036854775808 := by decide
    have h3 : c % 128 * q ≤ 1 * q := Nat.mul_le_mul_right _ (by have := h9 rfl; omega)
    omega

set_option maxRecDepth 100000 in
theorem dsevens_any (pb : Nat) (bs : ByteArray) (s : RS) (w : World) (h : DrAt w pb bs s) :
    Calls Tryz.prog 115 #[.pointer (some ⟨pb, 0, none⟩)] w (DrTo (.int .u64 (rsev bs.data.toList s).1) w pb bs ⟨s.at_ + (rsev bs.data.toList s).2.1, (rsev bs.data.toList s).2.2.wr⟩) := by
  obtain ⟨c0, c1, c2, f⟩ := h.cells
  have f1 := f 1
  clear f
  have hz := heap_lt h.1
  have hle := h.2.1.1
  have hl := h.2.2
  unfold bfits at hl
  have HP := Lib.hid h
  clear h
  by_cases h0 : s.wr = 0
  · have hb : (s.wr != 0) = false := by simpa using h0
    have HE : Hid (rsev bs.data.toList s = ((sv (bs.data.toList.drop s.at_) 0 0).1, (sv (bs.data.toList.drop s.at_) 0 0).2.1, ⟨s.at_, (sv (bs.data.toList.drop s.at_) 0 0).2.2⟩)) := by
      show rsev _ s = _; rw [rsev, if_neg (by simpa using h0)]
    have HW := Lib.hid h0
    clear h0
    obtain ⟨n, hn⟩ : ∃ n, bs.size = n := ⟨_, rfl⟩
    have HN := Lib.hid hn
    rw [hn] at hl hle
    go_enter Tryz.func115, Tryz.ntmps115
    go_wp2
    go_loopw [3, 4, 5] (fun x un i wr => DvRel (bs.data.toList.drop s.at_) (n - s.at_) x un i ∧ ∃ d, wr = w.drewN d) (fun _ _ i _ => 20 - (intOf i).toNat)
    case atStart => exact ⟨⟨0, 0, 1, rfl, rfl, rfl, rfl, by omega, by omega, by omega, rfl⟩, 0, rfl⟩
    case round =>
      obtain ⟨⟨j, u, q, rfl, rfl, rfl, hq, hu, hj, hjn, hsv⟩, d, rfl⟩ := hrel
      have HQ := Lib.hid hq
      clear hq
      have hF : ∀ x, s.fail x = ⟨s.at_, x⟩ := by intro x; rw [RS.fail, if_pos HW.out]
      have HF := Lib.hid hF
      clear hF
      by_cases hlt : s.at_ + j < n
      · have hlt2 : s.at_ + j < bs.size := by omega
        obtain ⟨c, hcc⟩ : ∃ c, bs[s.at_ + j] = c := ⟨_, rfl⟩
        have hdr : (bs.data.toList.drop s.at_).drop j = c :: (bs.data.toList.drop s.at_).drop (j + 1) := by
          rw [List.drop_drop, List.drop_drop, ← hcc]; exact List.drop_eq_getElem_cons (by rw [Array.length_toList]; exact hlt2)
        rw [hdr] at hsv
        have HSV := Lib.hid hsv
        have hcb : c.toNat < 256 := c.toNat_lt
        have e1 : IntKind.i64.wrap ((s.at_ : Int) + (j + 1)) = (s.at_ : Int) + (j + 1) := IntWalk.i64_in _ (by omega)
        have e2 : IntKind.i64.wrap ((s.at_ : Int) + (j + 1) - 1) = ((s.at_ + j : Nat) : Int) := by rw [IntWalk.i64_in _ (by omega)]; omega
        have hix := fun W => index_byte (P := Tryz.prog) Tryz.underlying9 bs ((s.at_ : Int) + j) (s.at_ + j) (by omega) c hlt2 hcc W
        clear hsv hdr hcc hlt2
        go_wp2
        go_quiet (fail)
        go_wp2
        go_quiet (fail)
        by_cases hbad : (j = 9 ∧ 1 < c.toNat) ∨ (c.toNat = 0 ∧ 0 < j)
        · have HB := Lib.hid (sv_bad (l := (bs.data.toList.drop s.at_).drop (j + 1)) (u := u) hbad)
          by_cases h9 : j = 9
          · by_cases hc1 : 1 < c.toNat
            · skip
              have f9 : ((j : Int) + 1 == 10) = true := by simp; omega
              have f9n : ((j : Int) == 9) = true := by simp; omega
              have g1 : decide ((1 : Int) < (c.toNat : Int)) = true := by simp; omega
              clear hbad h9 hc1
              go_wp2_with fail
              refine (dwrong_drew pb bs s w _ HP.out 11 (.inr (.inl rfl))).mono ?_
              rintro e w2 ⟨rfl, hr2, hm2, hz2⟩
              go_wp2
              go_ret
              rw [HE.out, HSV.out, HB.out]
              rw [HF.out 11] at hr2
              exact ⟨rfl, hr2, hm2, hz2⟩
            · have h0 : c.toNat = 0 := by omega
              have f9 : ((j : Int) + 1 == 10) = true := by simp; omega
              have f9n : ((j : Int) == 9) = true := by simp; omega
              have g1 : decide ((1 : Int) < (c.toNat : Int)) = false := by simp; omega
              have gl : decide ((128 : Int) ≤ (c.toNat : Int)) = false := by simp; omega
              have gz : ((c.toNat : Int) == 0) = true := by simp; omega
              have gk : decide ((1 : Int) < (j : Int) + 1) = true := by simp; omega
              clear hbad h9 hc1 h0
              go_wp2_with fail
              refine (dwrong_drew pb bs s w _ HP.out 11 (.inr (.inl rfl))).mono ?_
              rintro e w2 ⟨rfl, hr2, hm2, hz2⟩
              go_wp2
              go_ret
              rw [HE.out, HSV.out, HB.out]
              rw [HF.out 11] at hr2
              exact ⟨rfl, hr2, hm2, hz2⟩
          · have h0 : c.toNat = 0 := by omega
            have h00 : 0 < j := by omega
            first
            | skip
              have f9 : ((j : Int) + 1 == 10) = false := by simp; omega
              have f9n : ((j : Int) == 9) = false := by simp; omega
              have gl : decide ((128 : Int) ≤ (c.toNat : Int)) = false := by simp; omega
              have gz : ((c.toNat : Int) == 0) = true := by simp; omega
              have gk : decide ((1 : Int) < (j : Int) + 1) = true := by simp; omega
              clear hbad h9 h0 h00
              go_wp2_with fail
              refine (dwrong_drew pb bs s w _ HP.out 11 (.inr (.inl rfl))).mono ?_
              rintro e w2 ⟨rfl, hr2, hm2, hz2⟩
              go_wp2
              go_ret
              rw [HE.out, HSV.out, HB.out]
              rw [HF.out 11] at hr2
              exact ⟨rfl, hr2, hm2, hz2⟩
        · have hin : u + c.toNat % 128 * q < 18446744073709551616 := dsev_in HQ.out hu hj hcb (fun h => by omega)
          have HIN := Lib.hid hin
          by_cases hc128 : c.toNat < 128
          · have HEND := Lib.hid (sv_end (l := (bs.data.toList.drop s.at_).drop (j + 1)) (u := u) hbad hc128)
            rw [← HQ.out] at HEND
            have hle2 : s.at_ + (j + 1) ≤ n := by omega
            have HOK : Hid (RS.ok ⟨s.at_ + (j + 1), 0⟩ bs.size) := Lib.hid ⟨by rw [HN.out]; exact hle2, .inl rfl⟩
            by_cases h9 : j = 9
            · have hc1 : ¬ 1 < c.toNat := by omega
              have h0 : c.toNat ≠ 0 := by omega
              have f9 : ((j : Int) + 1 == 10) = true := by simp; omega
              have f9n : ((j : Int) == 9) = true := by simp; omega
              have g1 : decide ((1 : Int) < (c.toNat : Int)) = false := by simp; omega
              have gl : decide ((128 : Int) ≤ (c.toNat : Int)) = false := by simp; omega
              have gz : ((c.toNat : Int) == 0) = false := by simp; omega
              clear hbad h9 hc1 h0 hc128 hin
              go_wp2
              go_ret
              rw [HE.out, HSV.out, HEND.out, dsev_sum HIN.out]
              exact ⟨rfl, HP.out.move _ _ _ (by push_cast; rfl) _ HW.out HOK.out, ((Mod.refl _ w).drewN _).setCell ⟨pb, 1, none⟩ _ (fun _ => rfl), by simp⟩
            · by_cases h0 : c.toNat = 0
              · have h00 : ¬ 0 < j := by omega
                first
                | skip
                have f9 : ((j : Int) + 1 == 10) = false := by simp; omega
                have f9n : ((j : Int) == 9) = false := by simp; omega
                have gl : decide ((128 : Int) ≤ (c.toNat : Int)) = false := by simp; omega
                have gz : ((c.toNat : Int) == 0) = true := by simp; omega
                have gk : decide ((1 : Int) < (j : Int) + 1) = false := by simp; omega
                clear hbad h9 h0 h00 hc128 hin
                go_wp2
                go_ret
                rw [HE.out, HSV.out, HEND.out, dsev_sum HIN.out]
                exact ⟨rfl, HP.out.move _ _ _ (by push_cast; rfl) _ HW.out HOK.out, ((Mod.refl _ w).drewN _).setCell ⟨pb, 1, none⟩ _ (fun _ => rfl), by simp⟩
              · skip
                have f9 : ((j : Int) + 1 == 10) = false := by simp; omega
                have f9n : ((j : Int) == 9) = false := by simp; omega
                have gl : decide ((128 : Int) ≤ (c.toNat : Int)) = false := by simp; omega
                have gz : ((c.toNat : Int) == 0) = false := by simp; omega
                clear hbad h9 h0 hc128 hin
                go_wp2
                go_ret
                rw [HE.out, HSV.out, HEND.out, dsev_sum HIN.out]
                exact ⟨rfl, HP.out.move _ _ _ (by push_cast; rfl) _ HW.out HOK.out, ((Mod.refl _ w).drewN _).setCell ⟨pb, 1, none⟩ _ (fun _ => rfl), by simp⟩
          · have HEND := Lib.hid (sv_more (l := (bs.data.toList.drop s.at_).drop (j + 1)) (u := u) hbad hc128)
            rw [← HQ.out] at HEND
            have h9 : ¬ j = 9 := by omega
            have h0 : ¬ c.toNat = 0 := by omega
            first
            | skip
              have f9 : ((j : Int) + 1 == 10) = false := by simp; omega
              have f9n : ((j : Int) == 9) = false := by simp; omega
              have gl : decide ((128 : Int) ≤ (c.toNat : Int)) = true := by simp; omega
              have hj9 : j + 1 ≤ 9 := by omega
              have HJ := Lib.hid hj9
              have hjn1 : j + 1 ≤ n - s.at_ := by omega
              have HJN := Lib.hid hjn1
              clear hj9 hjn1
              clear hbad h9 h0 hc128 hin
              go_wp2
              have hq8 : q * 128 = 128 ^ (j + 1) := by rw [HQ.out, Nat.pow_succ]
              have hqb : q * 128 < 18446744073709551616 := by
                have h1 : 128 ^ (j + 1) ≤ 128 ^ 9 := Nat.pow_le_pow_right (by omega) HJ.out
                have h2 : (128 : Nat) ^ 9 = 9223372036854775808 := by decide
                omega
              rw [dsev_sum HIN.out, show (q : Int) * 128 = ((q * 128 : Nat) : Int) from by push_cast; rfl, u64_wrap_nat _ hqb]
              refine ⟨⟨⟨j + 1, _, _, by simp, rfl, rfl, hq8, ?_, HJ.out, HJN.out, HSV.out.trans HEND.out⟩, _, rfl⟩, ?_⟩
              · have h3 : c.toNat % 128 * q ≤ 127 * q := Nat.mul_le_mul_right _ (by omega)
                omega
              · simp only [intOf]; omega
      · have HB : Hid (sv (bs.data.toList.drop s.at_) 0 0 = (0, 0, 10)) := by
          show _ = _
          have hl : bs.data.toList.length = n := by rw [Array.length_toList]; exact hn
          rw [hsv, List.drop_eq_nil_of_le (by rw [List.length_drop, hl]; omega), sv_nil]
        have e1 : IntKind.i64.wrap ((s.at_ : Int) + (j + 1)) = (s.at_ : Int) + (j + 1) := IntWalk.i64_in _ (by omega)
        clear hsv
        go_wp2
        go_quiet (fail)
        go_wp2_with fail
        refine (dwrong_drew pb bs s w _ HP.out 10 (.inl rfl)).mono ?_
        rintro e w2 ⟨rfl, hr2, hm2, hz2⟩
        go_wp2
        go_ret
        rw [HE.out, HB.out]
        rw [HF.out 10] at hr2
        exact ⟨rfl, hr2, hm2, hz2⟩
  · have hb : (s.wr != 0) = true := by simpa using h0
    have HE : Hid (rsev bs.data.toList s = (0, 0, s)) := by show rsev _ s = _; rw [rsev, if_pos h0]
    clear h0
    go_enter Tryz.func115, Tryz.ntmps115
    go_wp2
    go_ret
    rw [HE.out]
    exact ⟨rfl, HP.out, Mod.refl _ _, rfl⟩
end

section
open Go.RowKit
set_option linter.unusedSectionVars false
set_option linter.unusedSimpArgs false
set_option linter.unusedVariables false
set_option maxRecDepth 100000

def SameTo (v : Value) (w : World) (e : Ending) (w' : World) : Prop := e = .returned v ∧ w = w'

theorem toList_size (bs : ByteArray) : bs.data.toList.length = bs.size := by rw [Array.length_toList]; rfl

theorem zag_any (u : Nat) (hu : u < 18446744073709551616) (w : World) : Calls Tryz.prog 116 #[.int .u64 u] w (SameTo (.int .i64 (zag u)) w) := by
  by_cases h : u % 2 = 0
  · have hb : ((u : Int) % 2 == 0) = true := by simp; omega
    have HE : Hid (zag u = ((u / 2 : Nat) : Int)) := by show _ = _; rw [zag, if_pos h]
    clear h
    go_enter Tryz.func116, Tryz.ntmps116
    go_wp2
    go_ret
    refine ⟨?_, rfl⟩
    rw [HE.out]
    show Ending.returned (.int .i64 _) = Ending.returned (.int .i64 _)
    congr 2
  · have hb : ((u : Int) % 2 == 0) = false := by simp; omega
    have HE : Hid (zag u = -((u / 2 : Nat) : Int) - 1) := by show _ = _; rw [zag, if_neg h]
    clear h
    go_enter Tryz.func116, Tryz.ntmps116
    go_wp2
    go_ret
    refine ⟨?_, rfl⟩
    rw [HE.out]
    show Ending.returned (.int .i64 _) = Ending.returned (.int .i64 _)
    congr 2

theorem rnum_eq (bs : List UInt8) (s : RS) : rnum bs s = (zag (rsev bs s).1, ⟨s.at_ + (rsev bs s).2.1, (rsev bs s).2.2.wr⟩) := rfl

theorem dnum_any (pb : Nat) (bs : ByteArray) (s : RS) (w : World) (h : DrAt w pb bs s) :
    Calls Tryz.prog 74 #[.pointer (some ⟨pb, 0, none⟩)] w (DrTo (.int .i64 (rnum bs.data.toList s).1) w pb bs (rnum bs.data.toList s).2) := by
  have hu := (rsev_ok (bs := bs.data.toList) (s := s) (by rw [toList_size]; exact h.2.1)).1
  have HP := Lib.hid h
  clear h
  rw [rnum_eq]
  go_enter Tryz.func74, Tryz.ntmps74
  go_wp2_with fail
  refine (dsevens_any pb bs s w HP.out).mono ?_
  rintro e w1 ⟨rfl, hr, hm, hz⟩
  go_wp2_with fail
  refine (zag_any _ hu w1).mono ?_
  rintro e w2 ⟨rfl, rfl⟩
  go_wp2
  go_ret
  exact ⟨rfl, hr, hm, hz⟩

theorem dend_any (pb : Nat) (bs : ByteArray) (s : RS) (w : World) (h : DrAt w pb bs s) :
    Calls Tryz.prog 51 #[.pointer (some ⟨pb, 0, none⟩)] w (DrTo (.int .i64 (rend bs.data.toList s).wr) w pb bs (rend bs.data.toList s)) := by
  obtain ⟨c0, c1, c2, f⟩ := h.cells
  clear f
  have hz := heap_lt h.1
  have hle := h.2.1.1
  obtain ⟨n, hn⟩ : ∃ n, bs.size = n := ⟨_, rfl⟩
  have hN := toList_size bs
  rw [hn] at hle hN
  have hl := h.2.2.le
  rw [hn] at hl
  have HP := Lib.hid h
  clear h
  by_cases hlt : s.at_ < n
  · have HE : Hid (rend bs.data.toList s = s.fail 11) := by show _ = _; rw [rend, if_pos (by rw [hN]; exact hlt)]
    have hb : ((s.at_ : Int) != (n : Int)) = true := by simp; omega
    have hb2 : (s.at_ != n) = true := by simp; omega
    have hb3 : ((s.at_ : Int) == (n : Int)) = false := by simp; omega
    clear hlt hN
    go_enter Tryz.func51, Tryz.ntmps51
    go_wp2
    go_quiet (fail)
    go_wp2_with fail
    refine (dwrong_drew pb bs s w _ HP.out 11 (.inr (.inl rfl))).mono ?_
    rintro e w1 ⟨rfl, hr, hm, hz1⟩
    obtain ⟨d0, d1, d2, f⟩ := hr.cells
    have hzz := heap_lt hr.1
    clear f
    have HR := Lib.hid hr
    clear hr
    go_wp2
    go_ret
    rw [HE.out]
    exact ⟨rfl, HR.out, hm, hz1⟩
  · have HE : Hid (rend bs.data.toList s = s) := by show _ = _; rw [rend, if_neg (by rw [hN]; exact hlt)]
    have hq : n = s.at_ := by omega
    have hb : ((s.at_ : Int) != (n : Int)) = false := by simp; omega
    have hb3 : ((s.at_ : Int) == (n : Int)) = true := by simp; omega
    clear hlt hN hq
    go_enter Tryz.func51, Tryz.ntmps51
    go_wp2
    go_quiet (fail)
    go_wp2
    go_ret
    rw [HE.out]
    exact ⟨rfl, HP.out, (Mod.refl _ w).drewN _, by simp⟩

set_option maxRecDepth 100000 in
theorem dflag_any (pb : Nat) (bs : ByteArray) (s : RS) (w : World) (h : DrAt w pb bs s) :
    Calls Tryz.prog 133 #[.pointer (some ⟨pb, 0, none⟩)] w (DrTo (.bool (rflag bs.data.toList s).1) w pb bs (rflag bs.data.toList s).2) := by
  obtain ⟨c0, c1, c2, f⟩ := h.cells
  have f1 := f 1
  clear f
  have hz := heap_lt h.1
  have hle := h.2.1.1
  have hfok := rflag_ok (bs := bs.data.toList) (s := s) (by rw [toList_size]; exact h.2.1)
  obtain ⟨n, hn⟩ : ∃ n, bs.size = n := ⟨_, rfl⟩
  have hN := toList_size bs
  rw [hN] at hfok
  rw [hn] at hle hN
  have hl := h.2.2
  unfold bfits at hl
  rw [hn] at hl
  have HP := Lib.hid h
  have HOK := Lib.hid hfok
  clear h hfok
  by_cases h0 : s.wr = 0
  · have hb : (s.wr != 0) = false := by simpa using h0
    have HW := Lib.hid h0
    clear h0
    by_cases hlt : s.at_ < n
    · have hlt2 : s.at_ < bs.size := by omega
      obtain ⟨c, hcc⟩ : ∃ c, bs[s.at_] = c := ⟨_, rfl⟩
      have hcg : bs.data.toList[s.at_]? = some c := by
        rw [← hcc, List.getElem?_eq_getElem (by rw [hN]; exact hlt)]; rfl
      have HD : Hid (rflag bs.data.toList s = if 1 < c.toNat then (false, s.fail 11) else (c.toNat == 1, ⟨s.at_ + 1, s.wr⟩)) := by
        show _ = _
        rw [rflag, if_neg (by simpa using HW.out), hcg]
      have hix := fun W => index_byte (P := Tryz.prog) Tryz.underlying9 bs (s.at_ : Int) s.at_ (by omega) c hlt2 hcc W
      have hcb : c.toNat < 256 := c.toNat_lt
      have hq1 : ((s.at_ : Int) == (n : Int)) = false := by simp; omega
      have hq2 : (s.at_ == n) = false := by simp; omega
      clear hcg hN hlt2 hcc hlt
      by_cases hc : 1 < c.toNat
      · have g1 : decide ((1 : Int) < (c.toNat : Int)) = true := by simp; omega
        have HE : Hid (rflag bs.data.toList s = (false, s.fail 11)) := by show _ = _; rw [HD.out, if_pos hc]
        clear hc
        go_enter Tryz.func133, Tryz.ntmps133
        go_wp2
        go_quiet (fail)
        go_wp2
        go_quiet (fail)
        go_wp2_with fail
        refine (dwrong_drew pb bs s w _ HP.out 11 (.inr (.inl rfl))).mono ?_
        rintro e w1 ⟨rfl, hr, hm, hz1⟩
        go_wp2
        go_ret
        rw [HE.out]
        exact ⟨rfl, hr, hm, hz1⟩
      · have g1 : decide ((1 : Int) < (c.toNat : Int)) = false := by simp; omega
        have HE : Hid (rflag bs.data.toList s = (c.toNat == 1, ⟨s.at_ + 1, s.wr⟩)) := by show _ = _; rw [HD.out, if_neg hc]
        have HOK2 : Hid (RS.ok ⟨s.at_ + 1, s.wr⟩ bs.size) := by have := HOK.out; rw [HE.out] at this; exact Lib.hid this
        clear hc
        go_enter Tryz.func133, Tryz.ntmps133
        go_wp2
        go_quiet (fail)
        go_wp2
        go_quiet (fail)
        go_wp2
        go_ret
        rw [HE.out]
        have e1 : ((c.toNat : Int) == 1) = (c.toNat == 1) := by rw [Bool.eq_iff_iff]; simp; omega
        rw [e1]
        exact ⟨rfl, HP.out.move _ _ _ (by push_cast; rfl) _ rfl HOK2.out, ((Mod.refl _ w).drewN _).setCell ⟨pb, 1, none⟩ _ (fun _ => rfl), by simp⟩
    · have HE : Hid (rflag bs.data.toList s = (false, s.fail 10)) := by
        show _ = _
        rw [rflag, if_neg (by simpa using HW.out), List.getElem?_eq_none (by omega)]
      have hq1 : ((s.at_ : Int) == (n : Int)) = true := by simp; omega
      have hq2 : (s.at_ == n) = true := by simp; omega
      clear hlt hN
      go_enter Tryz.func133, Tryz.ntmps133
      go_wp2
      go_quiet (fail)
      go_wp2_with fail
      refine (dwrong_drew pb bs s w _ HP.out 10 (.inl rfl)).mono ?_
      rintro e w1 ⟨rfl, hr, hm, hz1⟩
      go_wp2
      go_ret
      rw [HE.out]
      exact ⟨rfl, hr, hm, hz1⟩
  · have hb : (s.wr != 0) = true := by simpa using h0
    have HE : Hid (rflag bs.data.toList s = (false, s)) := by show _ = _; rw [rflag, if_pos h0]
    clear h0 hN
    go_enter Tryz.func133, Tryz.ntmps133
    go_wp2
    go_ret
    rw [HE.out]
    exact ⟨rfl, HP.out, Mod.refl _ _, rfl⟩

theorem dcount_any (pb : Nat) (bs : ByteArray) (s : RS) (w : World) (h : DrAt w pb bs s) (most : Int) (h0 : -9223372036854775808 ≤ most) (h1 : most ≤ 9223372036854775807) :
    Calls Tryz.prog 107 #[.pointer (some ⟨pb, 0, none⟩), .int .i64 most] w (DrTo (.int .i64 (rcount bs.data.toList most s).1) w pb bs (rcount bs.data.toList most s).2) := by
  obtain ⟨c0, c1, c2, f⟩ := h.cells
  clear f
  have hz := heap_lt h.1
  have hok := rsev_ok (bs := bs.data.toList) (s := s) (by rw [toList_size]; exact h.2.1)
  have hsk := h.2.1
  have HP := Lib.hid h
  clear h
  go_enter Tryz.func107, Tryz.ntmps107
  go_wp2_with fail
  refine (dsevens_any pb bs s w HP.out).mono ?_
  rintro e w1 ⟨rfl, hr, hm, hz1⟩
  obtain ⟨u, hu⟩ : ∃ u, (rsev bs.data.toList s).1 = u := ⟨_, rfl⟩
  obtain ⟨n, hn⟩ : ∃ n, (rsev bs.data.toList s).2.1 = n := ⟨_, rfl⟩
  obtain ⟨t, ht⟩ : ∃ t, (rsev bs.data.toList s).2.2 = t := ⟨_, rfl⟩
  have HN : Hid (rcount bs.data.toList most s = if most.toNat < u then (0, t.fail 12) else (u, ⟨s.at_ + n, t.wr⟩)) := by
    show _ = _
    rw [← hu, ← hn, ← ht]; rfl
  rw [hu, hn, ht] at hok
  rw [hn, ht] at hr
  rw [hu]
  have hta := hok.2.2.2.1
  have htw := hok.2.2.2.2
  have hul := hok.1
  obtain ⟨d0, d1, d2, f⟩ := hr.cells
  have f1 := f 1
  have hzz := heap_lt hr.1
  have HR := Lib.hid hr
  have HSK := Lib.hid hsk
  clear hu hn ht hr f hok c0 c1 c2 hsk
  by_cases hb : most.toNat < u
  · have HB : Hid (rcount bs.data.toList most s = (0, t.fail 12)) := by show _ = _; rw [HN.out, if_pos hb]
    have ht0 : t.wr = 0 := by
      by_cases h : t.wr = 0
      · exact h
      · have := (htw h).1; omega
    have htt : t.fail 12 = ⟨s.at_, 12⟩ := by
      rw [RS.fail, if_pos ht0, hta]
    have g0 : (t.wr == 0) = true := by simpa using ht0
    have HT := Lib.hid htt
    have HT0 := Lib.hid ht0
    clear htt ht0 htw hta
    go_wp2_with fail
    all_goals first
      | omega
      | (exfalso; rename_i hq; split at hq <;> omega)
      | (refine calls_named fun wA hA => ?_
         have hA1 : DrAt wA pb bs ⟨s.at_, 0⟩ := by
           rw [hA]
           exact HR.out.move 0 _ _ rfl _ HT0.out ⟨HSK.out.1, .inl rfl⟩
         have hA2 : Mod (fun b => b = pb) w wA := by rw [hA]; exact hm.setCell _ _ (fun _ => rfl)
         have hA3 : wA.heap.size = w.heap.size := by rw [hA]; simp [hz1]
         clear hA
         refine (dwrong_any pb bs ⟨s.at_, 0⟩ wA hA1 12 (.inr (.inr rfl))).mono ?_
         rintro e w2 ⟨rfl, hr2, hm2, hz2⟩
         go_wp2
         go_ret
         rw [HB.out, HT.out]
         exact ⟨rfl, hr2, hA2.trans hm2 (fun _ _ h => h) (fun _ _ h => h), hz2.trans hA3⟩)
  · have HB : Hid (rcount bs.data.toList most s = (u, ⟨s.at_ + n, t.wr⟩)) := by show _ = _; rw [HN.out, if_neg hb]
    have hu63 : u ≤ 9223372036854775807 := by omega
    by_cases ht0 : t.wr = 0
    · have g0 : (t.wr == 0) = true := by simpa using ht0
      clear ht0 htw hta
      go_wp2_with fail
      all_goals first
        | (exfalso; omega)
        | (exfalso; rename_i hq; split at hq <;> omega)
        | (go_ret
           rw [HB.out]
           exact ⟨rfl, HR.out, hm, hz1⟩)
    · have g0 : (t.wr == 0) = false := by simpa using ht0
      clear ht0 htw hta
      go_wp2_with fail
      go_ret
      rw [HB.out]
      exact ⟨rfl, HR.out, hm, hz1⟩

/-- Nothing is counted where something was wrong. -/
theorem rcount_wrong {bs : List UInt8} {most : Int} {s : RS} (h : s.ok bs.length) (hw : (rcount bs most s).2.wr ≠ 0) : (rcount bs most s).1 = 0 := by
  have hok := rsev_ok h
  unfold rcount at hw ⊢
  split
  · rfl
  · rename_i hb
    rw [if_neg hb] at hw
    exact (hok.2.2.2.2 hw).1

theorem str_cut {bs : ByteArray} {i j : Nat} : bs.extract i j = ⟨((bs.data.toList.drop i).take (j - i)).toArray⟩ := by
  apply ByteArray.ext
  rw [ByteArray.data_extract]
  apply Array.ext'
  simp [List.drop_take]

set_option maxRecDepth 100000 in
theorem dtext_any (pb : Nat) (bs : ByteArray) (s : RS) (w : World) (h : DrAt w pb bs s) (most : Int) (h0 : -9223372036854775808 ≤ most) (h1 : most ≤ 9223372036854775807) :
    Calls Tryz.prog 66 #[.pointer (some ⟨pb, 0, none⟩), .int .i64 most] w (DrTo (.string ⟨(rtext bs.data.toList most s).1.toArray⟩) w pb bs (rtext bs.data.toList most s).2) := by
  obtain ⟨c0, c1, c2, f⟩ := h.cells
  clear f
  have hz := heap_lt h.1
  have hsk := h.2.1
  have hcw := rcount_wrong (bs := bs.data.toList) (most := most) (s := s) (by rw [toList_size]; exact h.2.1)
  have htk := rtext_ok (bs := bs.data.toList) (most := most) (s := s) (by rw [toList_size]; exact h.2.1)
  have hck := (rcount_ok (bs := bs.data.toList) (most := most) (s := s) (by rw [toList_size]; exact h.2.1)).1
  have hN := toList_size bs
  have HP := Lib.hid h
  clear h
  go_enter Tryz.func66, Tryz.ntmps66
  go_wp2_with fail
  refine (dcount_any pb bs s w HP.out most h0 h1).mono ?_
  rintro e w1 ⟨rfl, hr, hm, hz1⟩
  obtain ⟨n, hn⟩ : ∃ n, (rcount bs.data.toList most s).1 = n := ⟨_, rfl⟩
  obtain ⟨t, ht⟩ : ∃ t, (rcount bs.data.toList most s).2 = t := ⟨_, rfl⟩
  obtain ⟨z, hzs⟩ : ∃ z, bs.size = z := ⟨_, rfl⟩
  have HNt : Hid (rtext bs.data.toList most s = if z - t.at_ < n then ([], RS.fail ⟨s.at_, t.wr⟩ 10) else ((bs.data.toList.drop t.at_).take n, ⟨t.at_ + n, t.wr⟩)) := by
    show _ = _
    rw [← hn, ← ht, ← hzs, ← hN]; rfl
  rw [hn, ht] at hcw
  rw [ht] at hr hck
  rw [hn]
  obtain ⟨d0, d1, d2, f⟩ := hr.cells
  have f1 := f 1
  have hzz := heap_lt hr.1
  have hta := hr.2.1.1
  have hl := hr.2.2
  unfold bfits at hl
  rw [hzs] at hl hta
  rw [hN, hzs] at htk
  have HR := Lib.hid hr
  have HSK := Lib.hid hsk
  have HCK := Lib.hid hck
  have HTK := Lib.hid htk
  have HZ := Lib.hid hzs
  clear hn ht hr f c0 c1 c2 hsk hN hck htk
  by_cases ht0 : t.wr = 0
  · have g0 : (t.wr != 0) = false := by simpa using ht0
    have HW := Lib.hid ht0
    clear ht0 hcw
    by_cases hlt : z - t.at_ < n
    · have HE : Hid (rtext bs.data.toList most s = ([], RS.fail ⟨s.at_, t.wr⟩ 10)) := by show _ = _; rw [HNt.out, if_pos hlt]
      have e1 : IntKind.i64.wrap ((z : Int) - t.at_) = (z : Int) - t.at_ := IntWalk.i64_in _ (by omega)
      have g1 : decide ((z : Int) - t.at_ < n) = true := by simp; omega
      clear hlt
      go_wp2
      go_quiet (fail)
      go_wp2_with fail
      refine calls_named fun wA hA => ?_
      have hA1 : DrAt wA pb bs ⟨s.at_, t.wr⟩ := by
        rw [hA]
        exact HR.out.move _ _ _ rfl _ rfl ⟨HSK.out.1, by rw [HW.out]; exact .inl rfl⟩
      have hA2 : Mod (fun b => b = pb) w wA := by rw [hA]; exact (hm.drewN _).setCell _ _ (fun _ => rfl)
      have hA3 : wA.heap.size = w.heap.size := by rw [hA]; simp [hz1]
      clear hA
      refine (dwrong_any pb bs ⟨s.at_, t.wr⟩ wA hA1 10 (.inl rfl)).mono ?_
      rintro e w2 ⟨rfl, hr2, hm2, hz2⟩
      go_wp2
      go_ret
      rw [HE.out]
      exact ⟨rfl, hr2, hA2.trans hm2 (fun _ _ h => h) (fun _ _ h => h), hz2.trans hA3⟩
    · have HE : Hid (rtext bs.data.toList most s = ((bs.data.toList.drop t.at_).take n, ⟨t.at_ + n, t.wr⟩)) := by show _ = _; rw [HNt.out, if_neg hlt]
      have e1 : IntKind.i64.wrap ((z : Int) - t.at_) = (z : Int) - t.at_ := IntWalk.i64_in _ (by omega)
      have g1 : decide ((z : Int) - t.at_ < n) = false := by simp; omega
      have e2 : IntKind.i64.wrap ((t.at_ : Int) + n) = (t.at_ : Int) + n := IntWalk.i64_in _ (by omega)
      have hin : t.at_ + n ≤ z := by omega
      clear hlt
      go_wp2
      go_quiet (fail)
      go_wp2
      go_quiet (fail)
      go_wp2
      go_ret
      rw [HE.out]
      refine ⟨?_, HR.out.move _ _ _ (by push_cast; rfl) _ rfl ⟨by rw [HZ.out]; exact hin, HR.out.2.1.2⟩, (hm.drewN _).setCell _ _ (fun _ => rfl), by simp [hz1]⟩
      show Ending.returned (.string (bs.extract t.at_ (t.at_ + n))) = _
      rw [str_cut, Nat.add_sub_cancel_left]
  · have g0 : (t.wr != 0) = true := by simpa using ht0
    have hn0 := hcw ht0
    subst hn0
    have HE : Hid (rtext bs.data.toList most s = ([], t)) := by show _ = _; rw [HNt.out, if_neg (by omega)]; rfl
    clear ht0 hcw
    go_wp2
    go_ret
    rw [HE.out]
    exact ⟨rfl, HR.out, hm, hz1⟩
end
end Go.Proofs.YtmbkbkfcbloafaaGreat
