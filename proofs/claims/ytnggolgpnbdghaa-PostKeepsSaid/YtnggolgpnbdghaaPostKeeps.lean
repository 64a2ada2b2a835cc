/-
  The walk of PostKeeps: for any packets and any takes the law returns true and leaves memory that was there as it was.
  Conditions: the two slices are read; the packets fit append's room.
-/
import Derived.Test.YtnggolgpnbdghaaPostD
namespace Go.Proofs.Ytnggolgpnbdghaa
open Go.RowKit
set_option linter.unusedSectionVars false
set_option linter.unusedSimpArgs false
set_option linter.unusedVariables false

theorem same_n (a b : Option Addr) (ca cb n : Nat) (xs : List Pk) (hn : xs.length = n) (w : World) (ha : Rd w 8 a n ca (flat xs)) (hb : Rd w 8 b n cb (flat xs)) :
    Calls Try.prog 8 #[.slice a n ca, .slice b n cb] w (DrawPost (.bool true) w) := by
  subst hn; exact same_yes a b ca cb xs w ha hb

theorem Send_n (pb : Nat) (a : Option Addr) (cap : Nat) (xs : List Pk) (w : World) (h : PostAt 47 w pb a cap xs) (s : Option Addr) (sc : Nat) (ys : List Pk) (n : Nat) (hn : ys.length = n) (hs : Rd w 8 s ys.length sc (flat ys)) (hfit : fits (xs.length + ys.length)) :
    Calls Try.prog 7 #[.pointer (some ⟨pb, 0, none⟩), .slice s n sc] w (ToPost 47 (.tuple #[]) w pb a (last400 (xs ++ ys))) := by
  subst hn; exact Send_any pb a cap xs w h s sc ys hs hfit

theorem at1 {w : World} {a : Option Addr} {n cap : Nat} {ts : List Int} (h : Rd w 1 a n cap (ts.map (.int .i64))) {k : Nat} {t : Int} (ht : ts[k]? = some t) :
    ∃ b o, a = some ⟨b, o, none⟩ ∧ w.cell? ⟨b, o + k, none⟩ = some (.int .i64 t) := by
  obtain ⟨hl, hn, hm, ⟨rfl, h0⟩ | ⟨x, rfl, hc⟩⟩ := h
  · have hlt : k < ts.length := (List.getElem?_eq_some_iff.1 ht).1
    simp at hl; omega
  · have key := hc k (.int .i64 t) (by simp [ht])
    obtain ⟨b, o, sp⟩ := x
    have hs : sp = none := by
      have h0 : k < ts.length := (List.getElem?_eq_some_iff.1 ht).1
      have := hc 0 (.int .i64 (ts[0]'(by omega))) (by simp)
      simp [Addr.add, World.cell?] at this
      split at this
      · cases sp <;> simp at this ⊢
      · cases this
    subst hs
    rw [add_none] at key
    exact ⟨b, o, rfl, key⟩

/-- What the loop keeps: the post has the list that is left, and so has the law's own slice; all of it lies in new blocks. -/
def Left (w : World) (pb : Nat) (v : Value) (wr : World) : Prop :=
  ∃ (zs : List Pk) (aP : Option Addr) (capP : Nat) (a8 : Option Addr) (cap8 : Nat), v = .slice a8 zs.length cap8 ∧ PostAt 47 wr pb aP capP zs ∧ Sl wr 32 8 a8 zs.length cap8 (flat zs) ∧
    Mod (fun _ => False) w wr ∧ (∀ b, own aP = some b → w.heap.size ≤ b) ∧ ∀ b, own a8 = some b → w.heap.size ≤ b ∧ b ≠ pb ∧ own aP ≠ some b

set_option maxRecDepth 100000 in
set_option maxHeartbeats 2000000 in
theorem keeps_walk (a0 : Option Addr) (c0 : Nat) (xs : List Pk) (aT : Option Addr) (cT : Nat) (ts : List Int) (w : World) (hl : Rd w 8 a0 xs.length c0 (flat xs)) (ht : Rd w 1 aT ts.length cT (ts.map (.int .i64)))
    (hts : ∀ t ∈ ts, -9223372036854775808 ≤ t ∧ t ≤ 9223372036854775807) (hf : fits xs.length) :
    Calls Try.prog 3 #[.slice a0 xs.length c0, .slice aT ts.length cT] w (AwakePost w) := by
  have HL := Lib.hid hl
  have HT := Lib.hid ht
  have HTS := Lib.hid hts
  have HF := Lib.hid hf
  have hnc := hl.2.1
  have hle := hf.le
  have htm : ts.length ≤ 2 ^ 63 - 1 := by
    have h1 := ht.2.1
    have h2 := ht.2.2.1
    unfold maxLen at h2
    omega
  clear hl ht hts hf
  obtain ⟨n, hn⟩ : ∃ n, xs.length = n := ⟨_, rfl⟩
  obtain ⟨nt, hnt⟩ : ∃ nt, ts.length = nt := ⟨_, rfl⟩
  rw [hn] at hnc hle ⊢
  rw [hnt] at htm ⊢
  have HN := Lib.hid hn
  have HNT := Lib.hid hnt
  clear hn hnt
  obtain ⟨ip, hip1, hip2, hip3⟩ := info_parts infoP
  have HI := Lib.hid (And.intro hip1 (And.intro hip2 hip3))
  clear hip1 hip2 hip3
  by_cases hbig : 400 < n
  · go_enter Try.func3, Try.ntmps3
    go_wp2_with fail
    refine (awake_any w).mono ?_
    rintro e w1 ⟨rfl, hM1⟩
    go_wp2_with fail
    refine (New_any w1).mono ?_
    rintro e w2 ⟨pb, rfl, hP2, hM2, hb1, hb2⟩
    have HP2 := Lib.hid hP2
    clear hP2
    have hT2 : Mod (fun _ => False) w w2 := hM1.then hM2 (fun _ _ h => h)
    have hw1 := hM1.size
    go_wp2_with fail
    refine (Send_n pb none 0 [] w2 HP2.out a0 c0 xs n HN.out (HL.out.mod hT2 (fun _ _ => id)) (by rw [List.length_nil, Nat.zero_add]; exact HF.out)).mono ?_
    rintro e w3 ⟨rfl, aP, capP, hP3, hM3, hF3⟩
    rw [List.nil_append] at hP3
    have hT3 : Mod (fun _ => False) w w3 := hT2.then hM3 (fun x hx h => by
      rcases h with h | h
      · omega
      · simp [own] at h)
    have hfP : ∀ b, own aP = some b → w.heap.size ≤ b := fun b hb => by
      rcases hF3 b hb with h | h
      · simp [own] at h
      · have := hT2.size; omega
    have hpb : w.heap.size ≤ pb := by omega
    have hm : (last400 xs).length = 400 := by simp only [last400, List.length_drop]; have := HN.out; omega
    have HM := Lib.hid hm
    have HP3 := Lib.hid hP3
    clear hm hP3
    have hbd := bounds_l (P := Try.prog) w3 n c0 ((n : Int) - 400) (by omega) (by omega)
    rw [show ((n : Int) - 400).toNat = n - 400 from by omega] at hbd
    have HBD := Lib.hid hbd
    have hR0 : Rd w3 8 a0 n c0 (flat xs) := by have := HL.out.mod hT3 (fun _ _ => id); rw [HN.out] at this; exact this
    have hlast : (flat xs).drop ((n - 400) * 8) = flat (last400 xs) := by rw [flat_drop, last400, HN.out]
    have hcut : ((flat xs).drop ((n - 400) * 8)).take (400 * 8) = flat (last400 xs) := by
      rw [hlast, List.take_of_length_le]; rw [flat_length, HM.out]; exact Nat.le_refl _
    have HCUT := Lib.hid hcut
    have H400 : Hid (n - (n - 400) = 400) := by show n - (n - 400) = 400; omega
    clear hbd hlast hcut
    go_wp2_with ((with_reducible refine at_list ?_); refine wpList_cutR 32 8 (by kernel_rfl) cellsP isP a0 n c0 (flat xs) rfl hR0 _ _ _ rfl rfl rfl (n - 400) n c0 HBD.out (by omega) (Nat.le_refl _) hnc (Nat.le_refl _) ?_; rw [H400.out, HCUT.out]; intro p7 hR7 hO7)
    obtain ⟨s7, hs7⟩ : ∃ s7, c0 - (n - 400) = s7 := ⟨_, rfl⟩
    rw [hs7] at hR7 ⊢
    clear hs7 hR0 hO7
    refine (All_any pb aP capP (last400 xs) w3 HP3.out).mono ?_
    rintro e w4 ⟨a4, cap4, rfl, hS4, hM4, hF4⟩
    rw [HM.out] at hS4 ⊢
    go_wp2_with fail
    refine (same_n a4 p7 cap4 s7 400 (last400 xs) HM.out w4 hS4.rd (hR7.mod hM4 (fun _ _ => id))).mono ?_
    rintro e w5 ⟨d, rfl, rfl⟩
    have hR4 : Rd (w4.drewN d) 8 p7 400 s7 (flat (last400 xs)) := hR7.mod (hM4.drewN d) (fun _ _ => id)
    have hfm : fits 400 := HF.out.mono (by have := HN.out; omega)
    have HFM := Lib.hid hfm
    clear hfm
    go_wp2_with (at_builtin; refine wpList_append 32 ip _ 8 72 (by kernel_rfl) HI.out.1 HI.out.2.1 HI.out.2.2.1 HI.out.2.2.2 rfl none 0 0 [] rfl (Sl.nil _ _ _) p7 400 s7 _ rfl hR4 (flat_one _) (by rw [Nat.zero_add]; exact HFM.out.maxLen) (by rw [Nat.zero_add]; exact HFM.out.room) ?_; rw [Nat.zero_add, List.nil_append]; intro a6 cap6 w6 hS6 hM6 hF6 hN6 hR6; clear hN6 hR6)
    have hT4 : Mod (fun _ => False) w (w4.drewN d) := (hT3.then hM4 (fun _ _ h => h)).drewN d
    have hT46 : Mod (fun _ => False) w3 w6 := (hM4.drewN d).then hM6 (fun x hx h => by simp [own] at h)
    have hT6 : Mod (fun _ => False) w w6 := hT3.then hT46 (fun _ _ h => h)
    have hlt3 := HP3.out.lt
    have h46 := (hM4.drewN d).size
    have ho6 : ∀ b, own a6 = some b → w3.heap.size ≤ b := fun b hb => by
      rcases hF6 b hb with h | h
      · simp [own] at h
      · omega
    have hw3 := hT3.size
    go_loopw [8, 9] (fun v i wr => ∃ k : Nat, k ≤ nt ∧ i = .int .i64 k ∧ Left w pb v wr) (fun _ i _ => nt - (intOf i).toNat)
    case atStart =>
      refine ⟨0, by omega, rfl, last400 xs, aP, capP, a6, cap6, by rw [HM.out], HP3.out.mod hT46 id (fun _ _ => id), by rw [HM.out]; exact hS6, hT6, hfP, fun b hb => ?_⟩
      have h6 := ho6 b hb
      refine ⟨by omega, by omega, fun h => ?_⟩
      have := hlt3.2 b h
      omega
    case round =>
      clear hR7 hR4 hS6 hM6 hF6 hT46 hT6 hT4 hlt3 ho6 hfP hF3 hF4 hS4 hM4 hM3 hT3 HP3
      obtain ⟨k, hk, rfl, zs, aQ, capQ, a8, cap8, rfl, hP, hS, hM, hoP, ho8⟩ := hrel
      have HP := Lib.hid hP
      have hlz := hP.2.2.2.le
      have HFZ := Lib.hid hP.2.2.2
      have hltP := hP.lt
      clear hP
      obtain ⟨z, hz⟩ : ∃ z, zs.length = z := ⟨_, rfl⟩
      rw [hz] at hS hlz ⊢
      have HZ := Lib.hid hz
      clear hz
      have hw := hM.size
      by_cases hgo : k < nt ∧ 0 < z
      · obtain ⟨hlt, hz0⟩ := hgo
        have hkt : ts[k]? = some (ts[k]'(by rw [HNT.out]; exact hlt)) := List.getElem?_eq_getElem _
        have hrange := HTS.out (ts[k]'(by rw [HNT.out]; exact hlt)) (List.getElem_mem _)
        generalize ts[k]'(by rw [HNT.out]; exact hlt) = t at hkt hrange
        obtain ⟨bT, oT, hAT, hcT⟩ := at1 (HT.out.mod hM (fun _ _ => id)) hkt
        subst hAT
        clear hkt
        go_wp2_with fail
        refine (pick_any t z wr hrange.1 hrange.2 (by omega) (by omega)).mono ?_
        rintro e wq ⟨k1, hk1, rfl, rfl⟩
        have hk1' : k1 < z := by omega
        have hp : zs[k1]? = some (zs[k1]'(by rw [HZ.out]; exact hk1')) := List.getElem?_eq_getElem _
        generalize zs[k1]'(by rw [HZ.out]; exact hk1') = p at hp
        have HX := Lib.hid hp
        clear hp
        go_wp2_with fail
        refine (Take_yes pb aQ capQ zs wr HP.out k1 p HX.out).mono ?_
        rintro e w7 ⟨rfl, a7, cap7, hP7, hM7, hF7⟩
        have HP7 := Lib.hid hP7
        have hS7 := hS.mod hM7 (fun b hb h => by
          have h8 := ho8 b hb
          rcases h with h | h
          · exact h8.2.1 h
          · exact h8.2.2 h)
        have h7 := hM7.size
        have hltP7 := hP7.lt
        have hlt8 := hS7.lt
        have hT7 : Mod (fun _ => False) w w7 := hM.then hM7 (fun x hx h => by
          rcases h with h | h
          · omega
          · have := hoP x h; omega)
        obtain ⟨b8, o8, ha8, c0', c1', c2', c3', c4', c5', c6', c7'⟩ := (show Rd w7 8 a8 z cap8 (flat zs) from hS7.rd).at8 HX.out
        subst ha8
        have hb8 := hlt8 b8 rfl
        have HS7 := Lib.hid hS7
        have hz8 := hS7.2.1
        clear hP7 hS hM7 hcT hS7
        have hk1c : k1 ≤ cap8 := by omega
        have hfz : fits z := by have := HFZ.out; rw [HZ.out] at this; exact this
        have HFz := Lib.hid hfz
        clear hfz
        go_wp2
        go_quiet (fail)
        go_wp2_with (first
          | (at_builtin; refine wpList_append 32 ip _ 8 72 (by kernel_rfl) HI.out.1 HI.out.2.1 HI.out.2.2.1 HI.out.2.2.2 rfl none 0 0 [] rfl (Sl.nil _ _ _) (some ⟨b8, o8, none⟩) k1 cap8 _ rfl ((HS7.out.rd.upto k1 (by omega)).mod (S := fun _ => False) (((Mod.refl _ w7).alloc _).drewN _) (fun _ _ => id)) (fun u hu => flat_one zs u (List.mem_of_mem_take hu)) (by rw [Nat.zero_add]; exact (HFz.out.mono (by omega)).maxLen) (by rw [Nat.zero_add]; exact (HFz.out.mono (by omega)).room) ?_; rw [Nat.zero_add, List.nil_append]; intro a9 cap9 w9 hS9 hM9 hF9 hN9 hG9; clear hN9 hG9; have hT79 : Mod (fun _ => False) w7 w9 := (((Mod.refl _ w7).alloc _).drewN _).then hM9 (fun x hx h => by simp [own] at h))
          | ((with_reducible refine at_list ?_); refine wpList_cutR 32 8 (by kernel_rfl) cellsP isP (some ⟨b8, o8, none⟩) z cap8 (flat zs) rfl (HS7.out.rd.mod hT79 (fun _ _ => id)) _ _ _ rfl rfl rfl (k1 + 1) z cap8 (bounds_l _ _ _ _ (by omega) (by omega)) (by omega) (Nat.le_refl _) hz8 (Nat.le_refl _) ?_; intro p10 hR10 hO10)
          | (at_builtin; refine wpList_append 32 ip _ 8 72 (by kernel_rfl) HI.out.1 HI.out.2.1 HI.out.2.2.1 HI.out.2.2.2 rfl a9 k1 cap9 _ rfl hS9 p10 (z - (k1 + 1)) (cap8 - (k1 + 1)) _ rfl hR10 (fun u hu => flat_one zs u (List.mem_of_mem_drop (List.mem_of_mem_take hu))) ((HFz.out.mono (by omega)).maxLen) ((HFz.out.mono (by omega)).room) ?_; rw [show k1 + (z - (k1 + 1)) = z - 1 from by omega]; intro a11 cap11 w11 hS11 hM11 hF11 hN11 hG11; clear hN11 hG11))
        have hlz' : (zs.eraseIdx k1).length = z - 1 := by rw [List.length_eraseIdx_of_lt (by rw [HZ.out]; exact hk1'), HZ.out]
        have hflat : flat (zs.eraseIdx k1) = (flat zs).take (k1 * 8) ++ ((flat zs).drop ((k1 + 1) * 8)).take ((z - (k1 + 1)) * 8) := by
          rw [List.take_of_length_le (l := (flat zs).drop ((k1 + 1) * 8)) (by rw [List.length_drop, flat_length, HZ.out]; omega), flat_take, flat_drop, ← flat_append, List.eraseIdx_eq_take_drop_succ]
        have h79 := hT79.size
        have ho9 : ∀ b, own a9 = some b → w7.heap.size ≤ b ∧ b < w9.heap.size := fun b hb => by
          rcases hF9 b hb with h | h
          · simp [own] at h
          · simp [World.drewN] at h; omega
        have hT711 : Mod (fun _ => False) w7 w11 := hT79.then hM11 (fun x hx h => by have := ho9 x h; omega)
        go_roundw
        case rel =>
          refine ⟨k + 1, by omega, by go_num, zs.eraseIdx k1, a7, cap7, a11, cap11, by rw [hlz'], HP7.out.mod hT711 id (fun _ _ => id), by rw [hlz', hflat]; exact hS11, hT7.then hT711 (fun _ _ h => h), fun b hb => ?_, fun b hb => ?_⟩
          · rcases hF7 b hb with h | h
            · exact hoP b h
            · omega
          · have hlp := HP7.out.lt
            have h11 : w7.heap.size ≤ b := by
              rcases hF11 b hb with h | h
              · exact (ho9 b h).1
              · omega
            exact ⟨by omega, by omega, fun h => by have := hlp.2 b h; omega⟩
        case measure => simp [intOf]; omega
      · by_cases hlt : k < nt
        · obtain rfl : z = 0 := by omega
          go_wp2_with fail
          refine (All_any pb aQ capQ zs wr HP.out).mono ?_
          rintro e w11 ⟨a11, cap11, rfl, hS11, hM11, hF11⟩
          rw [HZ.out] at hS11 ⊢
          go_wp2_with fail
          refine (same_n a11 a8 cap11 cap8 0 zs HZ.out w11 hS11.rd (hS.rd.mod hM11 (fun _ _ => id))).mono ?_
          rintro e w12 ⟨d2, rfl, rfl⟩
          go_wp2_with fail
          refine (Len_any pb aQ capQ zs _ (HP.out.mod (hM11.drewN d2) id (fun _ _ => id))).mono ?_
          rintro e w13 ⟨rfl, rfl⟩
          rw [HZ.out]
          go_wp2
          go_ret
          exact ⟨rfl, (hM.then hM11 (fun _ _ h => h)).drewN d2⟩
        · have hge : nt ≤ k := by omega
          go_wp2_with fail
          refine (All_any pb aQ capQ zs wr HP.out).mono ?_
          rintro e w11 ⟨a11, cap11, rfl, hS11, hM11, hF11⟩
          rw [HZ.out] at hS11 ⊢
          go_wp2_with fail
          refine (same_n a11 a8 cap11 cap8 z zs HZ.out w11 hS11.rd (hS.rd.mod hM11 (fun _ _ => id))).mono ?_
          rintro e w12 ⟨d2, rfl, rfl⟩
          go_wp2_with fail
          refine (Len_any pb aQ capQ zs _ (HP.out.mod (hM11.drewN d2) id (fun _ _ => id))).mono ?_
          rintro e w13 ⟨rfl, rfl⟩
          rw [HZ.out]
          go_wp2
          go_ret
          exact ⟨rfl, (hM.then hM11 (fun _ _ h => h)).drewN d2⟩
  · go_enter Try.func3, Try.ntmps3
    go_wp2_with fail
    refine (awake_any w).mono ?_
    rintro e w1 ⟨rfl, hM1⟩
    go_wp2_with fail
    refine (New_any w1).mono ?_
    rintro e w2 ⟨pb, rfl, hP2, hM2, hb1, hb2⟩
    have HP2 := Lib.hid hP2
    clear hP2
    have hT2 : Mod (fun _ => False) w w2 := hM1.then hM2 (fun _ _ h => h)
    have hw1 := hM1.size
    go_wp2_with fail
    refine (Send_n pb none 0 [] w2 HP2.out a0 c0 xs n HN.out (HL.out.mod hT2 (fun _ _ => id)) (by rw [List.length_nil, Nat.zero_add]; exact HF.out)).mono ?_
    rintro e w3 ⟨rfl, aP, capP, hP3, hM3, hF3⟩
    rw [List.nil_append] at hP3
    have hT3 : Mod (fun _ => False) w w3 := hT2.then hM3 (fun x hx h => by
      rcases h with h | h
      · omega
      · simp [own] at h)
    have hfP : ∀ b, own aP = some b → w.heap.size ≤ b := fun b hb => by
      rcases hF3 b hb with h | h
      · simp [own] at h
      · have := hT2.size; omega
    have hpb : w.heap.size ≤ pb := by omega
    have hm : (last400 xs).length = n := by simp only [last400, List.length_drop]; have := HN.out; omega
    have HM := Lib.hid hm
    have HP3 := Lib.hid hP3
    clear hm hP3
    have hR7 : Rd w3 8 a0 n c0 (flat (last400 xs)) := by
      have h1 := HL.out.mod hT3 (fun _ _ => id)
      have h2 : last400 xs = xs := by rw [last400, HN.out, show n - 400 = 0 from by omega, List.drop_zero]
      rw [HN.out] at h1; rw [h2]; exact h1
    go_wp2_with fail
    refine (All_any pb aP capP (last400 xs) w3 HP3.out).mono ?_
    rintro e w4 ⟨a4, cap4, rfl, hS4, hM4, hF4⟩
    rw [HM.out] at hS4 ⊢
    go_wp2_with fail
    refine (same_n a4 a0 cap4 c0 n (last400 xs) HM.out w4 hS4.rd (hR7.mod hM4 (fun _ _ => id))).mono ?_
    rintro e w5 ⟨d, rfl, rfl⟩
    have hR4 : Rd (w4.drewN d) 8 a0 n c0 (flat (last400 xs)) := hR7.mod (hM4.drewN d) (fun _ _ => id)
    have hfm : fits n := HF.out.mono (by have := HN.out; omega)
    have HFM := Lib.hid hfm
    clear hfm
    go_wp2_with (at_builtin; refine wpList_append 32 ip _ 8 72 (by kernel_rfl) HI.out.1 HI.out.2.1 HI.out.2.2.1 HI.out.2.2.2 rfl none 0 0 [] rfl (Sl.nil _ _ _) a0 n c0 _ rfl hR4 (flat_one _) (by rw [Nat.zero_add]; exact HFM.out.maxLen) (by rw [Nat.zero_add]; exact HFM.out.room) ?_; rw [Nat.zero_add, List.nil_append]; intro a6 cap6 w6 hS6 hM6 hF6 hN6 hR6; clear hN6 hR6)
    have hT4 : Mod (fun _ => False) w (w4.drewN d) := (hT3.then hM4 (fun _ _ h => h)).drewN d
    have hT46 : Mod (fun _ => False) w3 w6 := (hM4.drewN d).then hM6 (fun x hx h => by simp [own] at h)
    have hT6 : Mod (fun _ => False) w w6 := hT3.then hT46 (fun _ _ h => h)
    have hlt3 := HP3.out.lt
    have h46 := (hM4.drewN d).size
    have ho6 : ∀ b, own a6 = some b → w3.heap.size ≤ b := fun b hb => by
      rcases hF6 b hb with h | h
      · simp [own] at h
      · omega
    have hw3 := hT3.size
    go_loopw [8, 9] (fun v i wr => ∃ k : Nat, k ≤ nt ∧ i = .int .i64 k ∧ Left w pb v wr) (fun _ i _ => nt - (intOf i).toNat)
    case atStart =>
      refine ⟨0, by omega, rfl, last400 xs, aP, capP, a6, cap6, by rw [HM.out], HP3.out.mod hT46 id (fun _ _ => id), by rw [HM.out]; exact hS6, hT6, hfP, fun b hb => ?_⟩
      have h6 := ho6 b hb
      refine ⟨by omega, by omega, fun h => ?_⟩
      have := hlt3.2 b h
      omega
    case round =>
      clear hR7 hR4 hS6 hM6 hF6 hT46 hT6 hT4 hlt3 ho6 hfP hF3 hF4 hS4 hM4 hM3 hT3 HP3
      obtain ⟨k, hk, rfl, zs, aQ, capQ, a8, cap8, rfl, hP, hS, hM, hoP, ho8⟩ := hrel
      have HP := Lib.hid hP
      have hlz := hP.2.2.2.le
      have HFZ := Lib.hid hP.2.2.2
      have hltP := hP.lt
      clear hP
      obtain ⟨z, hz⟩ : ∃ z, zs.length = z := ⟨_, rfl⟩
      rw [hz] at hS hlz ⊢
      have HZ := Lib.hid hz
      clear hz
      have hw := hM.size
      by_cases hgo : k < nt ∧ 0 < z
      · obtain ⟨hlt, hz0⟩ := hgo
        have hkt : ts[k]? = some (ts[k]'(by rw [HNT.out]; exact hlt)) := List.getElem?_eq_getElem _
        have hrange := HTS.out (ts[k]'(by rw [HNT.out]; exact hlt)) (List.getElem_mem _)
        generalize ts[k]'(by rw [HNT.out]; exact hlt) = t at hkt hrange
        obtain ⟨bT, oT, hAT, hcT⟩ := at1 (HT.out.mod hM (fun _ _ => id)) hkt
        subst hAT
        clear hkt
        go_wp2_with fail
        refine (pick_any t z wr hrange.1 hrange.2 (by omega) (by omega)).mono ?_
        rintro e wq ⟨k1, hk1, rfl, rfl⟩
        have hk1' : k1 < z := by omega
        have hp : zs[k1]? = some (zs[k1]'(by rw [HZ.out]; exact hk1')) := List.getElem?_eq_getElem _
        generalize zs[k1]'(by rw [HZ.out]; exact hk1') = p at hp
        have HX := Lib.hid hp
        clear hp
        go_wp2_with fail
        refine (Take_yes pb aQ capQ zs wr HP.out k1 p HX.out).mono ?_
        rintro e w7 ⟨rfl, a7, cap7, hP7, hM7, hF7⟩
        have HP7 := Lib.hid hP7
        have hS7 := hS.mod hM7 (fun b hb h => by
          have h8 := ho8 b hb
          rcases h with h | h
          · exact h8.2.1 h
          · exact h8.2.2 h)
        have h7 := hM7.size
        have hltP7 := hP7.lt
        have hlt8 := hS7.lt
        have hT7 : Mod (fun _ => False) w w7 := hM.then hM7 (fun x hx h => by
          rcases h with h | h
          · omega
          · have := hoP x h; omega)
        obtain ⟨b8, o8, ha8, c0', c1', c2', c3', c4', c5', c6', c7'⟩ := (show Rd w7 8 a8 z cap8 (flat zs) from hS7.rd).at8 HX.out
        subst ha8
        have hb8 := hlt8 b8 rfl
        have HS7 := Lib.hid hS7
        have hz8 := hS7.2.1
        clear hP7 hS hM7 hcT hS7
        have hk1c : k1 ≤ cap8 := by omega
        have hfz : fits z := by have := HFZ.out; rw [HZ.out] at this; exact this
        have HFz := Lib.hid hfz
        clear hfz
        go_wp2
        go_quiet (fail)
        go_wp2_with (first
          | (at_builtin; refine wpList_append 32 ip _ 8 72 (by kernel_rfl) HI.out.1 HI.out.2.1 HI.out.2.2.1 HI.out.2.2.2 rfl none 0 0 [] rfl (Sl.nil _ _ _) (some ⟨b8, o8, none⟩) k1 cap8 _ rfl ((HS7.out.rd.upto k1 (by omega)).mod (S := fun _ => False) (((Mod.refl _ w7).alloc _).drewN _) (fun _ _ => id)) (fun u hu => flat_one zs u (List.mem_of_mem_take hu)) (by rw [Nat.zero_add]; exact (HFz.out.mono (by omega)).maxLen) (by rw [Nat.zero_add]; exact (HFz.out.mono (by omega)).room) ?_; rw [Nat.zero_add, List.nil_append]; intro a9 cap9 w9 hS9 hM9 hF9 hN9 hG9; clear hN9 hG9; have hT79 : Mod (fun _ => False) w7 w9 := (((Mod.refl _ w7).alloc _).drewN _).then hM9 (fun x hx h => by simp [own] at h))
          | ((with_reducible refine at_list ?_); refine wpList_cutR 32 8 (by kernel_rfl) cellsP isP (some ⟨b8, o8, none⟩) z cap8 (flat zs) rfl (HS7.out.rd.mod hT79 (fun _ _ => id)) _ _ _ rfl rfl rfl (k1 + 1) z cap8 (bounds_l _ _ _ _ (by omega) (by omega)) (by omega) (Nat.le_refl _) hz8 (Nat.le_refl _) ?_; intro p10 hR10 hO10)
          | (at_builtin; refine wpList_append 32 ip _ 8 72 (by kernel_rfl) HI.out.1 HI.out.2.1 HI.out.2.2.1 HI.out.2.2.2 rfl a9 k1 cap9 _ rfl hS9 p10 (z - (k1 + 1)) (cap8 - (k1 + 1)) _ rfl hR10 (fun u hu => flat_one zs u (List.mem_of_mem_drop (List.mem_of_mem_take hu))) ((HFz.out.mono (by omega)).maxLen) ((HFz.out.mono (by omega)).room) ?_; rw [show k1 + (z - (k1 + 1)) = z - 1 from by omega]; intro a11 cap11 w11 hS11 hM11 hF11 hN11 hG11; clear hN11 hG11))
        have hlz' : (zs.eraseIdx k1).length = z - 1 := by rw [List.length_eraseIdx_of_lt (by rw [HZ.out]; exact hk1'), HZ.out]
        have hflat : flat (zs.eraseIdx k1) = (flat zs).take (k1 * 8) ++ ((flat zs).drop ((k1 + 1) * 8)).take ((z - (k1 + 1)) * 8) := by
          rw [List.take_of_length_le (l := (flat zs).drop ((k1 + 1) * 8)) (by rw [List.length_drop, flat_length, HZ.out]; omega), flat_take, flat_drop, ← flat_append, List.eraseIdx_eq_take_drop_succ]
        have h79 := hT79.size
        have ho9 : ∀ b, own a9 = some b → w7.heap.size ≤ b ∧ b < w9.heap.size := fun b hb => by
          rcases hF9 b hb with h | h
          · simp [own] at h
          · simp [World.drewN] at h; omega
        have hT711 : Mod (fun _ => False) w7 w11 := hT79.then hM11 (fun x hx h => by have := ho9 x h; omega)
        go_roundw
        case rel =>
          refine ⟨k + 1, by omega, by go_num, zs.eraseIdx k1, a7, cap7, a11, cap11, by rw [hlz'], HP7.out.mod hT711 id (fun _ _ => id), by rw [hlz', hflat]; exact hS11, hT7.then hT711 (fun _ _ h => h), fun b hb => ?_, fun b hb => ?_⟩
          · rcases hF7 b hb with h | h
            · exact hoP b h
            · omega
          · have hlp := HP7.out.lt
            have h11 : w7.heap.size ≤ b := by
              rcases hF11 b hb with h | h
              · exact (ho9 b h).1
              · omega
            exact ⟨by omega, by omega, fun h => by have := hlp.2 b h; omega⟩
        case measure => simp [intOf]; omega
      · by_cases hlt : k < nt
        · obtain rfl : z = 0 := by omega
          go_wp2_with fail
          refine (All_any pb aQ capQ zs wr HP.out).mono ?_
          rintro e w11 ⟨a11, cap11, rfl, hS11, hM11, hF11⟩
          rw [HZ.out] at hS11 ⊢
          go_wp2_with fail
          refine (same_n a11 a8 cap11 cap8 0 zs HZ.out w11 hS11.rd (hS.rd.mod hM11 (fun _ _ => id))).mono ?_
          rintro e w12 ⟨d2, rfl, rfl⟩
          go_wp2_with fail
          refine (Len_any pb aQ capQ zs _ (HP.out.mod (hM11.drewN d2) id (fun _ _ => id))).mono ?_
          rintro e w13 ⟨rfl, rfl⟩
          rw [HZ.out]
          go_wp2
          go_ret
          exact ⟨rfl, (hM.then hM11 (fun _ _ h => h)).drewN d2⟩
        · have hge : nt ≤ k := by omega
          go_wp2_with fail
          refine (All_any pb aQ capQ zs wr HP.out).mono ?_
          rintro e w11 ⟨a11, cap11, rfl, hS11, hM11, hF11⟩
          rw [HZ.out] at hS11 ⊢
          go_wp2_with fail
          refine (same_n a11 a8 cap11 cap8 z zs HZ.out w11 hS11.rd (hS.rd.mod hM11 (fun _ _ => id))).mono ?_
          rintro e w12 ⟨d2, rfl, rfl⟩
          go_wp2_with fail
          refine (Len_any pb aQ capQ zs _ (HP.out.mod (hM11.drewN d2) id (fun _ _ => id))).mono ?_
          rintro e w13 ⟨rfl, rfl⟩
          rw [HZ.out]
          go_wp2
          go_ret
          exact ⟨rfl, (hM.then hM11 (fun _ _ h => h)).drewN d2⟩
end Go.Proofs.Ytnggolgpnbdghaa
