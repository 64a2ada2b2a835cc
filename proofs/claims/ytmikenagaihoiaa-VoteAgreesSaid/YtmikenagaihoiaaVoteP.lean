/-
  VoteAgrees: the first loop, in which all look; the law whole.
  No condition.
-/
import Derived.Test.YtmikenagaihoiaaVoteO
namespace Go.Proofs.Ytmikenagaihoiaa
open Go.RowKit
set_option linter.unusedSectionVars false
set_option linter.unusedSimpArgs false
set_option linter.unusedVariables false

theorem infoP : (Try.prog.info? 29).map (fun i => (i.zero, i.size, i.bytes)) = some (some (.pointer none), 1, 8) := by kernel_rfl

/-- A list's element, or none's. -/
def nth (ns : List No) (j : Int) : No := (ns[(j - 1).toNat]?).getD No.zero
def epOf (ns : List No) (j : Int) : Int := (nth ns j).ep
def zxOf (ns : List No) (j : Int) : Int := (nth ns j).zx
theorem nth_at (ns : List No) {k : Nat} {x : No} (h : ns[k]? = some x) : nth ns ((k : Int) + 1) = x := by
  unfold nth
  rw [show ((k : Int) + 1 - 1).toNat = k by omega, h]
  rfl
/-- A note that bears a vote alone. -/
def noteOf (x : Vt) : No := ⟨0, 0, 0, x.l, x.e, x.z⟩
theorem best_first (ns : List No) {x0 : No} (h : nth ns (((0 : Nat) : Int) + 1) = x0) : noteOf (bestOf (ownOf (epOf ns) (zxOf ns)) 0) = ⟨0, 0, 0, 1, x0.ep, x0.zx⟩ := by
  rw [← h]
  rfl
theorem noteOf_of (x : Vt) : (noteOf x).of = x := rfl

def put3 (f : Nat → Nat) (i x : Nat) : Nat → Nat := fun j => if j = i then x else f j
theorem vs_put3 (f : Nat → Nat) (V : Int → Vr) (k x : Nat) : vs (put3 f k x) V (k + 1) = vs f V k ++ [vr x (V ((k : Int) + 1))] := by
  unfold vs
  rw [List.range_succ, List.map_append]
  congr 1
  · refine List.map_congr_left fun j hj => ?_
    have := List.mem_range.1 hj
    rw [show put3 f k x j = f j from if_neg (by omega)]
  · show [vr (put3 f k x k) _] = _
    rw [show put3 f k x k = x from if_pos rfl]
theorem ptrs_put3 (f : Nat → Nat) (k x : Nat) : ptrs (put3 f k x) (k + 1) = ptrs f k ++ [.pointer (some ⟨x, 0, none⟩)] := by
  unfold ptrs
  rw [List.range_succ, List.map_append]
  congr 1
  · refine List.map_congr_left fun j hj => ?_
    have := List.mem_range.1 hj
    rw [show put3 f k x j = f j from if_neg (by omega)]
  · show [Value.pointer (some ⟨put3 f k x k, 0, none⟩)] = _
    rw [show put3 f k x k = x from if_pos rfl]
theorem ptrs_one (f : Nat → Nat) (k : Nat) : ∀ u ∈ ptrs f k, u.oneCell' = true := by
  intro u hu
  obtain ⟨j, _, rfl⟩ := List.mem_map.1 hu
  rfl

/-- What the first loop holds. -/
structure Fst (W : World) (N : Nat) (ns : List No) (k : Nat) (bb : Nat) (f : Nat → Nat) (va : Option Addr) (vcap : Nat) (ua : Option Addr) (m ucap : Nat) (w : World) : Prop where
  len : (firstU N (epOf ns) (zxOf ns) k).length = m
  st : St W w (sl 29 1 va k vcap (ptrs f k) :: sl 41 7 ua m ucap ((firstU N (epOf ns) (zxOf ns) k).flatMap Cs.cells) :: bx bb (noteOf (bestOf (ownOf (epOf ns) (zxOf ns)) k)).cells.toArray 23 :: vs f (fun i => (LV N (epOf ns) (zxOf ns) i).counted) k)

set_option maxRecDepth 100000 in
set_option maxHeartbeats 4000000 in
theorem agrees_walk (la ra : Option Addr) (ln lcap rn rcap : Nat) (ns : List No) (raw : List Int) (hln : ns.length = ln) (hrn : raw.length = rn) (hl1 : ln ≤ 2 ^ 63 - 1) (hr1 : rn ≤ 2 ^ 63 - 1) (hwf : ∀ x ∈ raw, wf64 x)
    (W : World) (hl : Rd W 6 la ln lcap (ns.flatMap No.cells)) (hr : Rd W 1 ra rn rcap (raw.map (Value.int .i64))) :
    Calls Try.prog 5 #[.slice la ln lcap, .slice ra rn rcap] W (CopyPost (.bool true) W) := by
  have HL := Lib.hid hl
  have HR := Lib.hid hr
  have HLN := Lib.hid hln
  have HRN := Lib.hid hrn
  have HW := Lib.hid hwf
  clear hl hr hln hrn hwf
  go_enter Try.func5, Try.ntmps5
  go_wp2_with fail
  refine (awake_any W).mono ?_
  rintro e w1 ⟨rfl, hm⟩
  have HS := Lib.hid (St.begin hm)
  clear hm
  obtain ⟨N, hN7, hN0, hNl, hNm⟩ : ∃ N : Nat, N ≤ 7 ∧ (N = 0 → ln = 0) ∧ N ≤ ln ∧ N = min ln 7 := ⟨min ln 7, by omega, by omega, by omega, rfl⟩
  have HNM := Lib.hid hNm
  clear hNm
  go_upto_region 3 with (fail)
  have hmin : (if (7 : Int) < (ln : Int) then 7 else (ln : Int)) = (N : Int) := by
    have := HNM.out
    split <;> omega
  rw [hmin]
  clear hmin
  by_cases hz : N = 0
  · subst hz
    have HMM := Lib.hid HS.out.1
    go_wp2
    go_ret
    exact ⟨rfl, HMM.out⟩
  have hgz : ((N : Int) == 0) = false := by simp; omega
  obtain ⟨x0, hx0⟩ : ∃ x, ns[0]? = some x := ⟨ns[0]'(by rw [HLN.out]; omega), List.getElem?_eq_getElem _⟩
  obtain ⟨lb, lo, rfl, hlb0, hc0⟩ := (HS.out.old HL.out).elem No.cells nolen (by omega) hx0
  rw [Nat.zero_mul, Nat.add_zero] at hc0
  have c4 : w1.cell? ⟨lb, lo + 4, none⟩ = some (.int .i64 x0.ep) := hc0 4 _ rfl
  have c5 : w1.cell? ⟨lb, lo + 5, none⟩ = some (.int .i64 x0.zx) := hc0 5 _ rfl
  have hlbW : lb < W.heap.size := by
    obtain ⟨b', o', e, h1, _⟩ := HL.out.elem No.cells nolen (by omega) hx0
    cases e
    exact h1
  have HX0 := Lib.hid (nth_at ns hx0)
  have hln1 : 1 ≤ ln := by omega
  clear hc0 hx0
  go_upto_region 7 with (fail)
  go_cut [9] (fun v wx => ∃ bb, v = .pointer (some ⟨bb, 0, none⟩) ∧ St W wx [bx bb (noteOf (bestOf (ownOf (epOf ns) (zxOf ns)) 0)).cells.toArray 23])
  case first =>
    go_region
    all_goals
      (try go_wp2_with fail)
      go_meet
      refine ⟨w1.heap.size, rfl, ?_⟩
      rw [best_first ns HX0.out]
      exact (HS.out.box1 _ _).drew
  case rest =>
    clear HS c4 c5
    obtain ⟨bb, rfl, hS⟩ := hcut
    have hF0 : Fst W N ns 0 bb (fun _ => 0) none 0 none 0 0 _ := ⟨rfl, (hS.nilSlice 41 7).nilSlice 29 1⟩
    have HF0 := Lib.hid hF0
    clear hS hF0
    obtain ⟨ip, hip1, hip2, hip3⟩ := info_parts infoP
    have HI := Lib.hid (And.intro hip1 (And.intro hip2 hip3))
    obtain ⟨iq, hiq1, hiq2, hiq3⟩ := info_parts infoC
    have HQ := Lib.hid (And.intro hiq1 (And.intro hiq2 hiq3))
    clear hip1 hip2 hip3 hiq1 hiq2 hiq3
    go_upto_block 0 with fail
    go_cut [7, 8] (fun v7 v8 wx => ∃ f va vcap ua m ucap, v7 = .slice va N vcap ∧ v8 = .slice ua m ucap ∧ Fst W N ns N bb f va vcap ua m ucap wx)
    case first =>
      go_wp2_with fail
      go_loopg [7, 8, 10] N (fun g x7 x8 y wr => ∃ (k : Nat) (f : Nat → Nat) (va : Option Addr) (vcap : Nat) (ua : Option Addr) (m ucap : Nat), k + g = N ∧ x7 = .slice va k vcap ∧ x8 = .slice ua m ucap ∧ y = .int .i64 k ∧ Fst W N ns k bb f va vcap ua m ucap wr)
      case atStart => exact ⟨0, _, _, _, _, _, _, by omega, rfl, rfl, rfl, HF0.out⟩
      case round =>
        clear HF0
        obtain ⟨k, f, va, vcap, ua, m, ucap, hkg, rfl, rfl, rfl, hm, hS⟩ := hrel
        by_cases hkN : k < N
        · obtain ⟨x, hx⟩ : ∃ x, ns[k]? = some x := ⟨ns[k]'(by rw [HLN.out]; omega), List.getElem?_eq_getElem _⟩
          have HX := Lib.hid (nth_at ns hx)
          have hk0 : (0 : Int) ≤ (k : Int) := by omega
          have hkl : (k : Int) < (ln : Int) := by omega
          have hkl2 : k < ln := by omega
          have HSX := Lib.hid hx
          have HS := Lib.hid hS
          have hmb : m ≤ 49 := by have h1 := firstU_len N (epOf ns) (zxOf ns) k (by omega); have h2 := Nat.mul_le_mul (show k ≤ 7 by omega) hN7; omega
          clear hx hS
          go_wp2_with fail
          refine (vnew_st HS.out ((k : Int) + 1) N).mono ?_
          rintro e w2 ⟨pb', rfl, hS2⟩
          have hS3 := hS2.box1 #[.pointer (some ⟨pb', 0, none⟩)] 29
          have HSL := Lib.hid (hS3.slice 2 rfl)
          have HSR := Lib.hid (Sl.new (E := 29) (k := 1) (n := 1) (c := #[.pointer (some ⟨pb', 0, none⟩)]) (hS3.box 0 rfl) rfl (by unfold maxLen; omega)).rd
          have HS3 := Lib.hid hS3
          clear hS2 hS3 HS
          go_upto_region 15 with (at_builtin; refine wpList_append 29 ip _ 1 8 (by kernel_rfl) HI.out.1 HI.out.2.1 HI.out.2.2.1 HI.out.2.2.2 rfl va k vcap _ rfl HSL.out (some ⟨w2.heap.size, 0, none⟩) 1 1 [.pointer (some ⟨pb', 0, none⟩)] rfl HSR.out (by intro u hu; simp only [List.mem_cons, List.not_mem_nil, or_false] at hu; subst hu; rfl) (by unfold maxLen; omega) (by omega) ?_; intro v' vcap' w4 hS4 hM4 hF4 hN4 hR4; clear hN4 hR4)
          have HS4 := Lib.hid (HS3.out.regrow 2 rfl hS4 hM4 hF4).tail
          clear HS3 HSL HSR hS4 hM4 hF4
          obtain ⟨lb', lo', ee, _, hc⟩ := HL.out.elem No.cells nolen (by omega) HSX.out
          cases ee
          have HE4 : Hid (W.cell? ⟨lb, lo + k * 6 + 4, none⟩ = some (.int .i64 x.ep)) := Lib.hid (hc 4 _ rfl)
          have HE5 : Hid (W.cell? ⟨lb, lo + k * 6 + 5, none⟩ = some (.int .i64 x.zx)) := Lib.hid (hc 5 _ rfl)
          obtain ⟨C, hC⟩ : ∃ C, (Vr.look ((k : Int) + 1) N 1 x.ep x.zx).casts = C := ⟨_, rfl⟩
          obtain ⟨mc, hmc⟩ : ∃ mc, C.length = mc := ⟨_, rfl⟩
          have hLV : LV N (epOf ns) (zxOf ns) ((k : Int) + 1) = Vr.look ((k : Int) + 1) N 1 x.ep x.zx := by
            unfold LV epOf zxOf
            rw [HX.out]
          have hmc7 : mc ≤ 7 := by
            have := upto_len (Vr.look ((k : Int) + 1) N 1 x.ep x.zx) (N : Int).toNat
            rw [← hmc, ← hC]
            refine Nat.le_trans this ?_
            omega
          have HC := Lib.hid hC
          have HMC := Lib.hid hmc
          have HLV := Lib.hid hLV
          clear hc hC hmc hLV
          go_cut [8] (fun v wx => ∃ u' ucap', v = .slice u' (m + mc) ucap' ∧ St W wx (sl 29 1 v' (k + 1) vcap' (ptrs f k ++ [.pointer (some ⟨pb', 0, none⟩)]) :: sl 41 7 u' (m + mc) ucap' ((firstU N (epOf ns) (zxOf ns) k).flatMap Cs.cells ++ C.flatMap Cs.cells) :: bx bb (noteOf (bestOf (ownOf (epOf ns) (zxOf ns)) k)).cells.toArray 23 :: (vs f (fun i => (LV N (epOf ns) (zxOf ns) i).counted) k ++ [vr pb' (LV N (epOf ns) (zxOf ns) ((k : Int) + 1)).counted])))
          case first =>
            have e4 := HS4.out.1.cell HE4.out id
            have e5 := HS4.out.1.cell HE5.out id
            have e6 : lb < _ := Nat.lt_of_lt_of_le hlbW HS4.out.1.size
            go_region_held3 (fun w' => w'.cell? ⟨lb, lo + k * 6 + 4, none⟩ = some (.int .i64 x.ep) ∧ w'.cell? ⟨lb, lo + k * 6 + 5, none⟩ = some (.int .i64 x.zx))
              (first | exact ⟨e4, e5⟩ | exact ⟨f4, f5⟩ | exact ⟨g4, g5⟩ | go_keep)
              ((first
                | (go_at_call 10; refine (look_st ((k : Int) + 1) N (HS4.out.mod ((Mod.refl _ _).drewN _)) x.ep x.zx (by unfold wf64; omega) (by omega) (by omega) (by omega)).mono ?_; rw [HC.out]; rintro e w5 ⟨a5, cap5, rfl, hS5⟩; rw [HMC.out] at hS5 ⊢; have f4 := hS5.1.cell HE4.out id; have f5 := hS5.1.cell HE5.out id; have f6 : lb < _ := Nat.lt_of_lt_of_le hlbW hS5.1.size; have HS5 := Lib.hid hS5; clear hS5)
                | (refine step_append rfl rfl 41 iq _ 7 56 (by kernel_rfl) HQ.out.1 HQ.out.2.1 HQ.out.2.2.1 HQ.out.2.2.2 rfl ua m ucap ((firstU N (epOf ns) (zxOf ns) k).flatMap Cs.cells) (by rfl) (HS5.out.slice 3 rfl) a5 mc cap5 (C.flatMap Cs.cells) (by rfl) (HS5.out.slice 0 rfl).rd (cs_one C) (by unfold maxLen; omega) (by omega) ?_; intro u' ucap' w6 hS6 hM6 hF6 hN6 hR6; have hSA := (HS5.out.regrow 3 rfl hS6 hM6 hF6).tail; have g4 := hSA.1.cell HE4.out id; have g5 := hSA.1.cell HE5.out id; have g6 : lb < _ := Nat.lt_of_lt_of_le hlbW hSA.1.size; have HSA := Lib.hid hSA; clear hN6 hR6 hSA hS6)))
            all_goals
              (try go_wp2_with fail)
              go_meet
              refine ⟨u', ucap', rfl, ?_⟩
              rw [HLV.out]
              exact HSA.out.perm (List.perm_append_comm (l₁ := [_]) (l₂ := _ :: _ :: _ :: _))
          case rest =>
          obtain ⟨u', ucap', rfl, hS5⟩ := hcut
          obtain ⟨ow, how⟩ : ∃ ow, ownOf (epOf ns) (zxOf ns) = ow := ⟨_, rfl⟩
          have howk : ow ((k : Int) + 1) = ⟨x.ep, x.zx, (k : Int) + 1⟩ := by
            rw [← how]
            unfold ownOf epOf zxOf
            rw [HX.out]
          rw [how] at hS5
          rw [← HC.out, ← HLV.out] at hS5
          have HOW := Lib.hid how
          have HOWK := Lib.hid howk
          have HS5 := Lib.hid hS5
          clear hS5 how howk HS4
          go_upto_region 16 with (fail)
          go_cut [12] (fun v wx => ∃ ob, v = .pointer (some ⟨ob, 0, none⟩) ∧ St W wx (bx ob (noteOf (ow ((k : Int) + 1))).cells.toArray 23 :: sl 29 1 v' (k + 1) vcap' (ptrs f k ++ [.pointer (some ⟨pb', 0, none⟩)]) :: sl 41 7 u' (m + mc) ucap' ((firstU N (epOf ns) (zxOf ns) k).flatMap Cs.cells ++ (LV N (epOf ns) (zxOf ns) ((k : Int) + 1)).casts.flatMap Cs.cells) :: bx bb (noteOf (bestOf ow k)).cells.toArray 23 :: (vs f (fun i => (LV N (epOf ns) (zxOf ns) i).counted) k ++ [vr pb' (LV N (epOf ns) (zxOf ns) ((k : Int) + 1)).counted])))
          case first =>
            have e4 := HS5.out.1.cell HE4.out id
            have e5 := HS5.out.1.cell HE5.out id
            have e6 : lb < _ := Nat.lt_of_lt_of_le hlbW HS5.out.1.size
            go_region
            all_goals
              (try go_wp2_with fail)
              go_meet
              refine ⟨_, rfl, ?_⟩
              rw [HOWK.out]
              exact (HS5.out.box1 _ _).drew
          case rest =>
          obtain ⟨ob, rfl, hS6⟩ := hcut
          have HS6 := Lib.hid hS6
          have hzo := heap_lt (hS6.box 0 rfl)
          have hzb := heap_lt (hS6.box 3 rfl)
          clear hS6 HS5
          cases hbt : (ow ((k : Int) + 1)).better (bestOf ow k)
          · have hbest : bestOf ow (k + 1) = bestOf ow k := by rw [bestOf, hbt]; rfl
            have HBT := Lib.hid hbt
            have HBE := Lib.hid hbest
            clear hbt hbest
            go_wp2_with (first | ((with_reducible refine at_list ?_); refine wpList_load_chunk 6 _ Try.underlying23 rfl sizeN ⟨ob, 0, none⟩ rfl (noteOf (ow ((k : Int) + 1))).cells rfl (box_chunk (HS6.out.box 0 rfl)) ?_) | ((with_reducible refine at_list ?_); refine wpList_load_chunk 6 _ Try.underlying23 rfl sizeN ⟨bb, 0, none⟩ rfl (noteOf (bestOf ow k)).cells rfl (box_chunk (HS6.out.box 3 rfl)) ?_))
            refine (Better_any (noteOf (ow ((k : Int) + 1))) (noteOf (bestOf ow k)) _).mono ?_
            rw [show (noteOf (ow ((k : Int) + 1))).of.better (noteOf (bestOf ow k)).of = false from HBT.out]
            rintro e w7 ⟨rfl, hM7⟩
            have HS7 := Lib.hid (HS6.out.mod hM7)
            clear hM7
            have HS8 := Lib.hid HS7.out.tail
            go_wp2
            go_roundg (gk - 1)
            case measure => omega
            case rel =>
              refine ⟨k + 1, put3 f k pb', v', vcap', u', m + mc, ucap', by omega, rfl, rfl, by simp, by rw [firstU, List.length_append, hm, HLV.out, HC.out, HMC.out], ?_⟩
              rw [HOW.out, ptrs_put3, vs_put3, firstU, List.flatMap_append, HBE.out]
              exact HS8.out
          · have hbest : bestOf ow (k + 1) = ow ((k : Int) + 1) := by rw [bestOf, hbt]; rfl
            have HBT := Lib.hid hbt
            have HBE := Lib.hid hbest
            clear hbt hbest
            go_wp2_with (first | ((with_reducible refine at_list ?_); refine wpList_load_chunk 6 _ Try.underlying23 rfl sizeN ⟨ob, 0, none⟩ rfl (noteOf (ow ((k : Int) + 1))).cells rfl (box_chunk (HS6.out.box 0 rfl)) ?_) | ((with_reducible refine at_list ?_); refine wpList_load_chunk 6 _ Try.underlying23 rfl sizeN ⟨bb, 0, none⟩ rfl (noteOf (bestOf ow k)).cells rfl (box_chunk (HS6.out.box 3 rfl)) ?_))
            refine (Better_any (noteOf (ow ((k : Int) + 1))) (noteOf (bestOf ow k)) _).mono ?_
            rw [show (noteOf (ow ((k : Int) + 1))).of.better (noteOf (bestOf ow k)).of = true from HBT.out]
            rintro e w7 ⟨rfl, hM7⟩
            have HS7 := Lib.hid (HS6.out.mod hM7)
            clear hM7
            go_wp2_with (first | ((with_reducible refine at_list ?_); refine wpList_load_chunk 6 _ Try.underlying23 rfl sizeN ⟨ob, 0, none⟩ rfl (noteOf (ow ((k : Int) + 1))).cells rfl (box_chunk (HS7.out.box 0 rfl)) ?_) | (refine wpList_store_whole 6 sizeN bb rfl _ _ (HS7.out.box 3 rfl) rfl (noteOf (ow ((k : Int) + 1))).cells rfl rfl (by kernel_rfl) ?_; intro w8 hb8 hm8 hz8; have HS8 := Lib.hid (HS7.out.rebox 3 rfl hb8 hm8).tail; clear hb8 hm8 hz8))
            go_roundg (gk - 1)
            case measure => omega
            case rel =>
              refine ⟨k + 1, put3 f k pb', v', vcap', u', m + mc, ucap', by omega, rfl, rfl, by simp, by rw [firstU, List.length_append, hm, HLV.out, HC.out, HMC.out], ?_⟩
              rw [HOW.out, ptrs_put3, vs_put3, firstU, List.flatMap_append, HBE.out]
              exact HS8.out
        · obtain rfl : k = N := by omega
          have HS := Lib.hid hS
          clear hS
          go_wp2_with fail
          go_meet
          exact ⟨f, va, vcap, ua, m, ucap, rfl, rfl, hm, HS.out⟩
    case rest =>
      obtain ⟨f, va, vcap, ua, m, ucap, rfl, rfl, hm, hS⟩ := hcut
      obtain ⟨vb, vo, vc, rfl, _, _⟩ := (hS.slice 0 rfl).block (by omega)
      clear HF0
      apply_assumption
      exact agr_mid _ _ _ _ _ _ _ _ _ _ _ _ _ _ _ _ _ _ _ _ _ _ _ _ _ _ _ _ _ _ _ _ _ _ _ _ _ _ _ _ _ _ _ _ _ _ _ _ _ _ _ _ _ _ _ _ _ _ _ _ _ _ _ _ _ _ _ _ _ _ _ _ _ _ _ _ _ _ _ _ _ _ _ _ _ _ _ _ _ _ _ _ _ _ _ _ _ _ _ _ _ _ _ _ _ _ _ _ _ _ _ _ _ _ _ _ _ _ _ _ _ _ _ _ _ _ _ _ _ _ _ _ _ _ _ _ _ _ _ _ _ _ _ _ _ _ _ _ _ _ _ _ _ _ _ _ _ _ _ _ _ _ _ _ _ _ _ _ _ _ _ _ _ _ _ _ _ _ _ _ hN7 (by omega) ⟨Nt.first (epOf ns) (zxOf ns) (by omega), hm, hS⟩ (pot_first (epOf ns) (zxOf ns) hN7) HR.out HRN.out HW.out hr1 (fun _ => rfl) rfl
end Go.Proofs.Ytmikenagaihoiaa
