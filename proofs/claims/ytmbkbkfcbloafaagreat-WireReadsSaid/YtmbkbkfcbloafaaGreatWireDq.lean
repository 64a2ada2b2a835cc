/-
  Requests taken up by the document.
  No condition: every law states its own.
-/
import Derived.Test.YtmbkbkfcbloafaaGreatWireRq
import Derived.Test.YtmbkbkfcbloafaaGreatJbase
import Derived.Deep.RegionHeld3
import Derived.Deep.Cut
namespace Go.Proofs.YtmbkbkfcbloafaaGreat
open Go.RowKit
set_option linter.unusedSectionVars false
set_option linter.unusedSimpArgs false
set_option linter.unusedVariables false
set_option maxRecDepth 100000

theorem St.addgrp {w0 w : World} {a : Thing} (ps ts l : List Thing) (t : Thing) (ht : ∀ {l' : List Thing}, St w0 w l' → St w0 w (t :: l')) (h : St w0 w (a :: (ps ++ grp ts :: l))) : St w0 w (a :: (ps ++ grp (ts ++ [t]) :: l)) := by
  have h1 : St w0 w (t :: a :: (ps ++ grp ts :: l)) := ht h
  have h2 : St w0 w (no :: t :: a :: (ps ++ grp ts :: l)) := h1.cons (Mod.refl _ _) (t := no) (F := fun _ => False) (fun _ h => h) (fun _ h => h.elim)
  have h3 : St w0 w (a :: no :: t :: (ps ++ grp ts :: l)) := h2.perm (List.perm_append_comm_assoc [no, t] [a] _)
  exact St.absorbN ps ts l h3

set_option maxHeartbeats 16000000 in
theorem rTakeRequest_st {w0 w : World} {l : List Thing} {pb : Nat} {B : ByteArray} {s : RS} (h : St w0 w (drt pb B s :: l)) :
    Calls Tryz.prog 55 #[.pointer (some ⟨pb, 0, none⟩)] w (DkG (fun x => Value.agg (Req.cells x).toArray) Req.fine Req.things (qReq B.data.toList) Req.bytes w0 pb B s l) := by
  obtain ⟨ip, iz, hi1, hi2, hi3, hi4, hi5⟩ := info_row infoOp
  have HI := Lib.hid (And.intro hi1 (And.intro hi2 (And.intro hi3 (And.intro hi4 hi5))))
  obtain ⟨jp, jz, hj1, hj2, hj3, hj4, hj5⟩ := info_row infoArm
  have HJ := Lib.hid (And.intro hj1 (And.intro hj2 (And.intro hj3 (And.intro hj4 hj5))))
  have hS := h.box2 #[.int .i64 0, .int .i64 0, .string ⟨#[]⟩, .string ⟨#[]⟩, .slice none 0 0, .int .i64 0, .int .i64 0, .bool false, .slice none 0 0, .slice none 0 0] 30
  clear h hi1 hi2 hi3 hi4 hi5 hj1 hj2 hj3 hj4 hj5
  go_enter Tryz.func55, Tryz.ntmps55
  go_wp2_with fail
  generalize w.alloc (.cells #[.int .i64 0, .int .i64 0, .string ⟨#[]⟩, .string ⟨#[]⟩, .slice none 0 0, .int .i64 0, .int .i64 0, .bool false, .slice none 0 0, .slice none 0 0] 30) = W at *
  generalize w.heap.size = rb at *
  refine (rtakeOp_st hS).mono ?_
  clear hS
  rintro e w1 ⟨X, s1, rfl, HX, hS⟩
  have hS : St w0 w1 (drt pb B s1 :: bx rb #[.int .i64 0, .int .i64 0, .string ⟨#[]⟩, .string ⟨#[]⟩, .slice none 0 0, .int .i64 0, .int .i64 0, .bool false, .slice none 0 0, .slice none 0 0] 30 :: grp (Op.things X) :: l) := hS.perm (.cons _ (.swap _ _ _))
  have hS := hS.box2 #[.int .i64 0, .int .i64 0, .string ⟨#[]⟩, .string ⟨#[]⟩, .slice none 0 0, .int .i64 0, .int .i64 0, .bool false, .slice none 0 0, .slice none 0 0] 30
  have HS := Lib.hid hS
  have hXs : Value.slice X.subsA X.subsN X.subsC = .slice none 0 0 := by rw [HX.out.1.2.1.1, HX.out.1.2.1.2.1, HX.out.1.2.1.2.2]
  have hXt : Value.slice X.armedA X.armedN X.armedC = .slice none 0 0 := by rw [HX.out.1.2.2.1, HX.out.1.2.2.2.1, HX.out.1.2.2.2.2]
  simp only [Op.cells, hXs, hXt]
  clear hS hXs hXt
  go_wp2_with ((with_reducible refine at_list ?_); refine wpList_store_whole 10 sizeOp w1.heap.size rfl _ _ (HS.out.box 1 rfl) rfl [.int .i64 X.kind, .int .i64 X.xid, .string X.path, .string X.data, .slice X.aclA X.acl.length X.aclC, .int .i64 X.flags, .int .i64 X.version, .bool X.watch, .slice none 0 0, .slice none 0 0] rfl rfl (by kernel_rfl) ?_; intro w2 hg2 hM2 hz2)
  have hS := HS.out.rebox 1 rfl hg2 hM2
  simp only [List.set_cons_succ, List.set_cons_zero] at hS
  clear HS hg2 hM2 hz2
  generalize w1.heap.size = tb at *
  refine (rcount2_st hS).mono ?_
  rintro e w3 ⟨rfl, hS3⟩
  have hle : (rcount B.data.toList 256 s1).1 ≤ 256 := (rcount_ok (most := 256) (hS.dok 0 rfl)).2
  obtain ⟨n, hn⟩ : ∃ n, (rcount B.data.toList 256 s1).1 = n := ⟨_, rfl⟩
  obtain ⟨s2, hs2⟩ : ∃ s2, (rcount B.data.toList 256 s1).2 = s2 := ⟨_, rfl⟩
  rw [hn] at hle ⊢
  rw [hs2] at hS3
  have hS4 : St w0 w3 (drt pb B s2 :: bx tb #[.int .i64 X.kind, .int .i64 X.xid, .string X.path, .string X.data, .slice X.aclA X.acl.length X.aclC, .int .i64 X.flags, .int .i64 X.version, .bool X.watch, .slice none 0 0, .slice none 0 0] 30 :: bx rb #[.int .i64 0, .int .i64 0, .string ⟨#[]⟩, .string ⟨#[]⟩, .slice none 0 0, .int .i64 0, .int .i64 0, .bool false, .slice none 0 0, .slice none 0 0] 30 :: sl 30 10 none 0 0 [] :: grp [] :: grp (Op.things X) :: l) := St.rowStartN [_, _] _ hS3 30 10
  have HN := Lib.hid hn
  have HT := Lib.hid hs2
  have HS := Lib.hid hS4
  clear hn hs2 hS hS3 hS4
  go_wp2
  go_loopg [5, 6] n (fun g y kp wr => ∃ (k : Nat) (L : List Op) (a : Option Addr) (cap : Nat) (s' : RS), k + g = n ∧ y = .int .i64 k ∧ Hid (L.length = k ∧ (∀ x ∈ L, Op.fine x) ∧ s' = iter (qOp B.data.toList) s2 k ∧ Rel B.data.toList s2 s' (L.flatMap Op.bytes)) ∧ St w0 wr (drt pb B s' :: bx tb #[.int .i64 X.kind, .int .i64 X.xid, .string X.path, .string X.data, .slice X.aclA X.acl.length X.aclC, .int .i64 X.flags, .int .i64 X.version, .bool X.watch, .slice a k cap, .slice none 0 0] 30 :: bx rb #[.int .i64 0, .int .i64 0, .string ⟨#[]⟩, .string ⟨#[]⟩, .slice none 0 0, .int .i64 0, .int .i64 0, .bool false, .slice none 0 0, .slice none 0 0] 30 :: sl 30 10 a k cap (L.flatMap Op.cells) :: grp (L.map fun x => grp (Op.things x)) :: grp (Op.things X) :: l))
  case atStart => exact ⟨0, [], none, 0, s2, by omega, rfl, Lib.hid ⟨rfl, fun _ h => absurd h List.not_mem_nil, rfl, Rel.refl⟩, HS.out⟩
  case round =>
    obtain ⟨k, L, a, cap, s', hkg, rfl, HL, hS⟩ := hrel
    clear HS
    have ce := hS.dwr 0 rfl
    have ze := hS.dlt 0 rfl
    by_cases hlt : k < n
    · by_cases hw : s'.wr = 0
      · rw [hw] at ce
        have HS0 := Lib.hid hS
        clear hS
        go_wp2_with fail
        refine (rtakeOp_st HS0.out).mono ?_
        clear HS0 ce ze
        rintro e w4 ⟨t, s3, rfl, HQ, hS⟩
        have HS4 := Lib.hid (hS.box2 #[.int .i64 0, .int .i64 0, .string ⟨#[]⟩, .string ⟨#[]⟩, .slice none 0 0, .int .i64 0, .int .i64 0, .bool false, .slice none 0 0, .slice none 0 0] 30)
        simp only [Op.cells]
        clear hS
        go_wp2_with (first
          | ((with_reducible refine at_list ?_); refine wpList_store_whole 10 sizeOp w4.heap.size rfl _ _ (HS4.out.box 1 rfl) rfl [.int .i64 t.kind, .int .i64 t.xid, .string t.path, .string t.data, .slice t.aclA t.acl.length t.aclC, .int .i64 t.flags, .int .i64 t.version, .bool t.watch, .slice t.subsA t.subsN t.subsC, .slice t.armedA t.armedN t.armedC] rfl rfl (by kernel_rfl) ?_; intro w5 hg5 hM5 hz5; have hS5 := HS4.out.rebox 1 rfl hg5 hM5; simp only [List.set_cons_succ, List.set_cons_zero] at hS5; have c7 := blk_cell (hS5.box 3 rfl) 8 _ rfl; have z7 := heap_lt (hS5.box 3 rfl); have HS5 := Lib.hid hS5; have HS6 := Lib.hid (hS5.slice1 #[.int .i64 t.kind, .int .i64 t.xid, .string t.path, .string t.data, .slice t.aclA t.acl.length t.aclC, .int .i64 t.flags, .int .i64 t.version, .bool t.watch, .slice t.subsA t.subsN t.subsC, .slice t.armedA t.armedN t.armedC] 30 10 1 rfl (by unfold maxLen; omega)); clear hg5 hM5 hz5 hS5 HS4)
          | ((with_reducible refine at_list ?_); refine wpList_load_chunk 10 _ Tryz.underlying30 rfl sizeOp ⟨w4.heap.size, 0, none⟩ rfl [.int .i64 t.kind, .int .i64 t.xid, .string t.path, .string t.data, .slice t.aclA t.acl.length t.aclC, .int .i64 t.flags, .int .i64 t.version, .bool t.watch, .slice t.subsA t.subsN t.subsC, .slice t.armedA t.armedN t.armedC] rfl (box_chunk (cs := [.int .i64 t.kind, .int .i64 t.xid, .string t.path, .string t.data, .slice t.aclA t.acl.length t.aclC, .int .i64 t.flags, .int .i64 t.version, .bool t.watch, .slice t.subsA t.subsN t.subsC, .slice t.armedA t.armedN t.armedC]) (HS5.out.box 1 rfl)) ?_)
          | (at_builtin; refine wpList_append 30 ip iz 10 144 (by kernel_rfl) HI.out.1 HI.out.2.1 HI.out.2.2.1 HI.out.2.2.2.1 HI.out.2.2.2.2 a k cap (L.flatMap Op.cells) rfl (HS6.out.slice 6 rfl) (some ⟨w5.heap.size, 0, none⟩) 1 1 t.cells rfl (HS6.out.slice 0 rfl).rd (Op.one t) (by unfold maxLen; omega) (by omega) ?_; intro a6 cap6 w6 hS6 hM6 hF6 hN6 hR6; have hSA := (HS6.out.regrow 6 rfl hS6 hM6 hF6).tail; have c0 := blk_cell (hSA.box 3 rfl) 8 _ rfl; have f0 := blk_free (hSA.box 3 rfl) 8; have z0 := heap_lt (hSA.box 3 rfl); have HSA := Lib.hid hSA; clear hN6 hR6 hSA hS6 hM6 hF6 c7 z7 HS6 HS5))
        go_roundg (gk - 1)
        case measure => omega
        case rel =>
          refine ⟨k + 1, L ++ [t], a6, cap6, s3, by omega, by simp, Lib.hid ⟨by simp [HL.out.1], list_snoc_all HL.out.2.1 HQ.out.1.1, HQ.out.2.1.trans (congrArg _ HL.out.2.2.1), by rw [flat_snoc]; exact HL.out.2.2.2.trans HQ.out.2.2⟩, ?_⟩
          rw [flat_snoc, List.map_append]
          have hS := HSA.out.set 3 rfl 8 (.slice a6 (k + 1) cap6)
          exact St.absorbN [_, _, _] _ _ hS
      · obtain ⟨z, hz⟩ : ∃ z, s'.wr = z := ⟨_, rfl⟩
        rw [hz] at ce
        have hzb : (z == 0) = false := by rw [← hz]; simpa using hw
        have HQ2 := row_end (sticky_qOp _) HL HN HT (by omega) hle (.inr hw)
        clear hw hz hkg
        have HLL : Hid (L.length = k) := Lib.hid HL.out.1
        clear HL HN HT
        go_wp2_with fail
        refine (rcount2_st hS).mono ?_
        clear ce ze
        have hle2 : (rcount B.data.toList 256 s').1 ≤ 256 := (rcount_ok (most := 256) (hS.dok 0 rfl)).2
        clear hS
        rintro e w5 ⟨rfl, hS⟩
        obtain ⟨n2, hn2⟩ : ∃ n2, (rcount B.data.toList 256 s').1 = n2 := ⟨_, rfl⟩
        obtain ⟨s5, hs5⟩ : ∃ s5, (rcount B.data.toList 256 s').2 = s5 := ⟨_, rfl⟩
        rw [hn2] at hle2 ⊢
        rw [hs5] at hS
        have HS5 := Lib.hid (St.rowStartN [_, _] _ hS 63 5)
        have HN2 := Lib.hid hn2
        have HT2 := Lib.hid hs5
        clear hn2 hs5 hS
        go_wp2
        go_loopg [7, 8, 9, 10] n2 (fun g y z8 z9 z10 wr => ∃ (j : Nat) (R : List Arm) (c : Option Addr) (dap : Nat) (s6 : RS), j + g = n2 ∧ y = .int .i64 j ∧ Hid (R.length = j ∧ (∀ x ∈ R, Arm.fine x) ∧ s6 = iter (qArm B.data.toList) s5 j ∧ Rel B.data.toList s5 s6 (R.flatMap Arm.bytes)) ∧ St w0 wr (drt pb B s6 :: bx tb #[.int .i64 X.kind, .int .i64 X.xid, .string X.path, .string X.data, .slice X.aclA X.acl.length X.aclC, .int .i64 X.flags, .int .i64 X.version, .bool X.watch, .slice a k cap, .slice c j dap] 30 :: bx rb #[.int .i64 0, .int .i64 0, .string ⟨#[]⟩, .string ⟨#[]⟩, .slice none 0 0, .int .i64 0, .int .i64 0, .bool false, .slice none 0 0, .slice none 0 0] 30 :: sl 63 5 c j dap (R.flatMap Arm.cells) :: grp (R.map fun x => grp (Arm.things x)) :: sl 30 10 a k cap (L.flatMap Op.cells) :: grp (L.map fun x => grp (Op.things x)) :: grp (Op.things X) :: l))
        case atStart => exact ⟨0, [], none, 0, s5, by omega, rfl, Lib.hid ⟨rfl, fun _ h => absurd h List.not_mem_nil, rfl, Rel.refl⟩, HS5.out⟩
        case round =>
          obtain ⟨j, R, c, dap, s6, hjg, rfl, HR, hS⟩ := hrel
          clear HS5
          have ce := hS.dwr 0 rfl
          have ze := hS.dlt 0 rfl
          by_cases hltj : j < n2
          · by_cases hw : s6.wr = 0
            · rw [hw] at ce
              have HS0 := Lib.hid hS
              clear hS
              go_wp2_with fail
              refine (dtnum_st HS0.out).mono ?_
              clear HS0 ce ze
              rintro e w6 ⟨v1, s7, rfl, G1, hS⟩
              go_wp2_with fail
              refine (dttext_st hS).mono ?_
              clear hS
              rintro e w7 ⟨v2, s8, rfl, G2, hS⟩
              go_wp2_with fail
              refine (rtake_st hS 0 rfl 3 3 rfl (by omega)).mono ?_
              have hok := hS.dok 0 rfl
              have KH : (i64 (rv B.data.toList s8 0) ∧ i64 (rv B.data.toList s8 1) ∧ i64 (rv B.data.toList s8 2)) ∧ rs B.data.toList s8 3 = rs B.data.toList s8 3 ∧ Rel B.data.toList s8 (rs B.data.toList s8 3) (numsB [rv B.data.toList s8 0, rv B.data.toList s8 1, rv B.data.toList s8 2]) := ⟨⟨rv_i64 hok 0, rv_i64 hok 1, rv_i64 hok 2⟩, rfl, rel_nums 3⟩
              clear hS hok
              rintro e w8 ⟨sb, rfl, hS⟩
              simp only [List.set_cons_zero] at hS
              obtain ⟨cs, hcs⟩ : ∃ x, x = ic (numsR B.data.toList s8 3) := ⟨_, rfl⟩
              rw [← hcs] at hS
              have g0 : cs[0]? = some (.int .i64 (rv B.data.toList s8 0)) := by rw [hcs]; simp [ic, numsR]
              have g1 : cs[1]? = some (.int .i64 (rv B.data.toList s8 1)) := by rw [hcs]; simp [ic, numsR]
              have g2 : cs[2]? = some (.int .i64 (rv B.data.toList s8 2)) := by rw [hcs]; simp [ic, numsR]
              clear hcs
              generalize rv B.data.toList s8 0 = x0 at g0 KH
              generalize rv B.data.toList s8 1 = x1 at g1 KH
              generalize rv B.data.toList s8 2 = x2 at g2 KH
              obtain ⟨s9, hs9⟩ : ∃ x, x = rs B.data.toList s8 3 := ⟨_, rfl⟩
              rw [← hs9] at hS
              have G3 : Hid ((i64 x0 ∧ i64 x1 ∧ i64 x2) ∧ s9 = rs B.data.toList s8 3 ∧ Rel B.data.toList s8 s9 (numsB [x0, x1, x2])) := by rw [← hs9] at KH; exact Lib.hid ⟨KH.1, hs9, KH.2.2⟩
              clear hs9 KH
              have HQ : Hid (Arm.fine (⟨v1, v2, x0, x1, x2⟩ : Arm) ∧ s9 = qArm B.data.toList s6 ∧ Rel B.data.toList s6 s9 (Arm.bytes (⟨v1, v2, x0, x1, x2⟩ : Arm))) := Lib.hid ⟨⟨G1.out.1, G3.out.1⟩, by rw [G3.out.2.1, G2.out.2.1, G1.out.2.1]; rfl, (G1.out.2.2.trans G2.out.2.2).trans G3.out.2.2⟩
              clear G1 G2 G3
              have hS : St w0 w8 (sl 3 1 (some ⟨sb, 0, none⟩) 3 3 cs :: drt pb B s9 :: bx tb #[.int .i64 X.kind, .int .i64 X.xid, .string X.path, .string X.data, .slice X.aclA X.acl.length X.aclC, .int .i64 X.flags, .int .i64 X.version, .bool X.watch, .slice a k cap, .slice c j dap] 30 :: bx rb #[.int .i64 0, .int .i64 0, .string ⟨#[]⟩, .string ⟨#[]⟩, .slice none 0 0, .int .i64 0, .int .i64 0, .bool false, .slice none 0 0, .slice none 0 0] 30 :: sl 63 5 c j dap (R.flatMap Arm.cells) :: grp (R.map fun x => grp (Arm.things x)) :: sl 30 10 a k cap (L.flatMap Op.cells) :: grp (L.map fun x => grp (Op.things x)) :: grp (Op.things X) :: l) := hS
              have e0 : w8.cell? ⟨sb, 0, none⟩ = some (.int .i64 x0) := (hS.slice 0 rfl).rd.valAt 0 g0
              have e1 : w8.cell? ⟨sb, 1, none⟩ = some (.int .i64 x1) := (hS.slice 0 rfl).rd.valAt 1 g1
              have e2 : w8.cell? ⟨sb, 2, none⟩ = some (.int .i64 x2) := (hS.slice 0 rfl).rd.valAt 2 g2
              have c9 := blk_cell (hS.box 2 rfl) 9 _ rfl
              have z9 := heap_lt (hS.box 2 rfl)
              have HS := Lib.hid hS
              have G0 := Lib.hid g0
              have G1 := Lib.hid g1
              have G2 := Lib.hid g2
              clear g0 g1 g2 hS
              go_upto_region 15 with (fail)
              refine wp_region_held_drew (S := (fun w' => w'.cell? ⟨sb, 0, none⟩ = some (.int .i64 x0) ∧ w'.cell? ⟨sb, 1, none⟩ = some (.int .i64 x1) ∧ w'.cell? ⟨sb, 2, none⟩ = some (.int .i64 x2))) (by kernel_rfl) ⟨e0, e1, e2⟩ (fun hHeld => ?_)
              refine wpAnyH_take (i := 0) (oi := _) (v := ?_) rfl (by kernel_rfl) (by kernel_rfl) (by kernel_rfl) (fun _ _ _ h => h) (Or.inl ⟨by rfl, ?_⟩) hHeld ?_
              rotate_left
              · intro wq hSw; (try dsimp only at hSw); obtain ⟨hs0, hs1, hs2⟩ := hSw; go_simp; try with_reducible rfl
              try simp only [Act.put, List.setIfInBounds_toArray, List.set_cons_zero, List.set_cons_succ]
              refine wpAnyH_take (i := 2) (oi := _) (v := ?_) rfl (by kernel_rfl) (by kernel_rfl) (by kernel_rfl) (fun _ _ _ h => h) (Or.inl ⟨by rfl, ?_⟩) hHeld ?_
              rotate_left
              · intro wq hSw; (try dsimp only at hSw); obtain ⟨hs0, hs1, hs2⟩ := hSw; go_simp; try with_reducible rfl
              try simp only [Act.put, List.setIfInBounds_toArray, List.set_cons_zero, List.set_cons_succ]
              refine wpAnyH_take (i := 3) (oi := _) (v := ?_) rfl (by kernel_rfl) (by kernel_rfl) (by kernel_rfl) (fun _ _ _ h => h) (Or.inl ⟨by rfl, ?_⟩) hHeld ?_
              rotate_left
              · intro wq hSw; (try dsimp only at hSw); obtain ⟨hs0, hs1, hs2⟩ := hSw; go_simp; try with_reducible rfl
              try simp only [Act.put, List.setIfInBounds_toArray, List.set_cons_zero, List.set_cons_succ]
              refine wpAnyH_take (i := 4) (oi := _) (v := ?_) rfl (by kernel_rfl) (by kernel_rfl) (by kernel_rfl) (fun _ _ _ h => h) (Or.inl ⟨by rfl, ?_⟩) hHeld ?_
              rotate_left
              · intro wq hSw; (try dsimp only at hSw); obtain ⟨hs0, hs1, hs2⟩ := hSw; go_simp; try with_reducible rfl
              try simp only [Act.put, List.setIfInBounds_toArray, List.set_cons_zero, List.set_cons_succ]
              refine wpAnyH_take (i := 5) (oi := _) (v := ?_) rfl (by kernel_rfl) (by kernel_rfl) (by kernel_rfl) (fun _ _ _ h => h) (Or.inl ⟨by rfl, ?_⟩) hHeld ?_
              rotate_left
              · intro wq hSw; (try dsimp only at hSw); obtain ⟨hs0, hs1, hs2⟩ := hSw; go_simp; try with_reducible rfl
              try simp only [Act.put, List.setIfInBounds_toArray, List.set_cons_zero, List.set_cons_succ]
              refine wpAnyH_take (i := 6) (oi := _) (v := ?_) rfl (by kernel_rfl) (by kernel_rfl) (by kernel_rfl) (fun _ _ _ h => h) (Or.inl ⟨by rfl, ?_⟩) hHeld ?_
              rotate_left
              · intro wq hSw; (try dsimp only at hSw); obtain ⟨hs0, hs1, hs2⟩ := hSw; go_simp; try with_reducible rfl
              try simp only [Act.put, List.setIfInBounds_toArray, List.set_cons_zero, List.set_cons_succ]
              refine wpAnyH_take (i := 7) (oi := _) (v := ?_) rfl (by kernel_rfl) (by kernel_rfl) (by kernel_rfl) (fun _ _ _ h => h) (Or.inl ⟨by rfl, ?_⟩) hHeld ?_
              rotate_left
              · intro wq hSw; (try dsimp only at hSw); obtain ⟨hs0, hs1, hs2⟩ := hSw; go_simp; try with_reducible rfl
              try simp only [Act.put, List.setIfInBounds_toArray, List.set_cons_zero, List.set_cons_succ]
              refine wpAnyH_take (i := 8) (oi := _) (v := ?_) rfl (by kernel_rfl) (by kernel_rfl) (by kernel_rfl) (fun _ _ _ h => h) (Or.inl ⟨by rfl, ?_⟩) hHeld ?_
              rotate_left
              · intro wq hSw; (try dsimp only at hSw); obtain ⟨hs0, hs1, hs2⟩ := hSw; go_simp; try with_reducible rfl
              try simp only [Act.put, List.setIfInBounds_toArray, List.set_cons_zero, List.set_cons_succ]
              refine wpAnyH_take (i := 9) (oi := _) (v := ?_) rfl (by kernel_rfl) (by kernel_rfl) (by kernel_rfl) (fun _ _ _ h => h) (Or.inl ⟨by rfl, ?_⟩) hHeld ?_
              rotate_left
              · intro wq hSw; (try dsimp only at hSw); obtain ⟨hs0, hs1, hs2⟩ := hSw; go_simp; try with_reducible rfl
              try simp only [Act.put, List.setIfInBounds_toArray, List.set_cons_zero, List.set_cons_succ]
              refine wpAnyH_take (i := 10) (oi := _) (v := ?_) rfl (by kernel_rfl) (by kernel_rfl) (by kernel_rfl) (fun _ _ _ h => h) (Or.inl ⟨by rfl, ?_⟩) hHeld ?_
              rotate_left
              · intro wq hSw; (try dsimp only at hSw); obtain ⟨hs0, hs1, hs2⟩ := hSw; go_simp; try with_reducible rfl
              try simp only [Act.put, List.setIfInBounds_toArray, List.set_cons_zero, List.set_cons_succ]
              refine wpAnyH_take (i := 11) (oi := _) (v := ?_) rfl (by kernel_rfl) (by kernel_rfl) (by kernel_rfl) (fun _ _ _ h => h) (Or.inl ⟨by rfl, ?_⟩) hHeld ?_
              rotate_left
              · intro wq hSw; (try dsimp only at hSw); obtain ⟨hs0, hs1, hs2⟩ := hSw; go_simp; try with_reducible rfl
              try simp only [Act.put, List.setIfInBounds_toArray, List.set_cons_zero, List.set_cons_succ]
              refine wpAnyH_take (i := 12) (oi := _) (v := ?_) rfl (by kernel_rfl) (by kernel_rfl) (by kernel_rfl) (fun _ _ _ h => h) (Or.inl ⟨by rfl, ?_⟩) hHeld ?_
              rotate_left
              · intro wq hSw; (try dsimp only at hSw); obtain ⟨hs0, hs1, hs2⟩ := hSw; go_simp; try with_reducible rfl
              try simp only [Act.put, List.setIfInBounds_toArray, List.set_cons_zero, List.set_cons_succ]
              refine wpAnyH_take (i := 13) (oi := _) (v := ?_) rfl (by kernel_rfl) (by kernel_rfl) (by kernel_rfl) (fun _ _ _ h => h) (Or.inl ⟨by rfl, ?_⟩) hHeld ?_
              rotate_left
              · intro wq hSw; (try dsimp only at hSw); obtain ⟨hs0, hs1, hs2⟩ := hSw; go_simp; try with_reducible rfl
              try simp only [Act.put, List.setIfInBounds_toArray, List.set_cons_zero, List.set_cons_succ]
              refine wpAnyH_ready (rs := [1, 14]) (by kernel_rfl) (by simp) ?_
              refine AllReadyH.cons (o := _) rfl (fun K hK => ?_) (AllReadyH.cons (o := _) rfl (fun K hK => ?_) AllReadyH.nil)
              · go_simp
                refine hK.out _ _ hHeld (fun hHeld => ?_)
                clear hK K
                try simp only [Act.put, List.setIfInBounds_toArray, List.set_cons_zero, List.set_cons_succ]
                refine wpAnyH_ready (rs := [14]) (by kernel_rfl) (by simp) ?_
                refine AllReadyH.cons (o := _) rfl (fun K hK => ?_) AllReadyH.nil
                go_simp
                refine hK.out _ _ (by first | exact ⟨((Mod.refl (fun _ => False) _).alloc _).cell hHeld.1 id, ((Mod.refl (fun _ => False) _).alloc _).cell hHeld.2.1 id, ((Mod.refl (fun _ => False) _).alloc _).cell hHeld.2.2 id⟩ | exact ⟨(((Mod.refl (fun _ => False) w8).alloc _).drew).cell e0 id, (((Mod.refl (fun _ => False) w8).alloc _).drew).cell e1 id, (((Mod.refl (fun _ => False) w8).alloc _).drew).cell e2 id⟩) (fun hHeld => ?_)
                clear hK K
                try simp only [Act.put, List.setIfInBounds_toArray, List.set_cons_zero, List.set_cons_succ]
                refine wpAnyH_ready (rs := [15]) (by kernel_rfl) (by simp) ?_
                refine AllReadyH.cons (o := _) rfl (fun K hK => ?_) AllReadyH.nil
                refine step_append rfl rfl 63 jp _ 5 48 (by kernel_rfl) HJ.out.1 HJ.out.2.1 HJ.out.2.2.1 HJ.out.2.2.2.1 HJ.out.2.2.2.2 c j dap (R.flatMap Arm.cells) (by rfl) ?hv (some ⟨w8.heap.size, 0, none⟩) 1 1 [.int .i64 v1, .string v2, .int .i64 x0, .int .i64 x1, .int .i64 x2] (by rfl) ?hs ?h1 ?h63 ?hb ?_
                case hv => exact (HS.out.slice 4 rfl).mod (S := fun _ => False) (by first | exact ((Mod.refl _ _).alloc _).drew | exact ((Mod.refl _ _).drew).alloc _) (fun _ _ => id)
                case hs => exact (Sl.new (c := ([.int .i64 v1, .string v2, .int .i64 x0, .int .i64 x1, .int .i64 x2] : List Value).toArray) (by first | exact heap_alloc_new w8 _ | exact heap_alloc_new w8.drew _) rfl (by unfold maxLen; omega)).rd
                case h1 => intro u hu; simp only [List.mem_cons, List.not_mem_nil, or_false] at hu; rcases hu with rfl | rfl | rfl | rfl | rfl <;> rfl
                case h63 => unfold maxLen; omega
                case hb => omega
                intro a2 cap2 w2 hS2 hM2 hF2 hN2 hR2
                have hSA := HS.out.mod (by first | exact ((Mod.refl _ _).alloc (.cells ([.int .i64 v1, .string v2, .int .i64 x0, .int .i64 x1, .int .i64 x2] : List Value).toArray 63)).drew | exact ((Mod.refl _ _).drew).alloc (.cells ([.int .i64 v1, .string v2, .int .i64 x0, .int .i64 x1, .int .i64 x2] : List Value).toArray 63))
                have HQQ := hSA.regrow 4 rfl hS2 hM2 hF2
                have hb2 := HQQ.box 2 rfl
                have hc2 := blk_cell hb2 9 _ rfl
                have hf2 := blk_free hb2 9
                have hpb2 := heap_lt hb2
                have HSB := Lib.hid HQQ
                refine hK.out _ _ ⟨(HQQ.slice 0 rfl).rd.valAt 0 G0.out, (HQQ.slice 0 rfl).rd.valAt 1 G1.out, (HQQ.slice 0 rfl).rd.valAt 2 G2.out⟩ (fun hHeld => ?_)
                clear hK K hN2 hR2 hb2 hSA HQQ hS2 hM2 hF2
                try simp only [Act.put, List.setIfInBounds_toArray, List.set_cons_zero, List.set_cons_succ]
                refine wpAnyH_take (i := 16) (oi := _) (v := ?_) rfl (by kernel_rfl) (by kernel_rfl) (by kernel_rfl) (fun _ _ _ h => h) (Or.inl ⟨by rfl, ?_⟩) hHeld ?_
                rotate_left
                · intro wq hSw; (try dsimp only at hSw); obtain ⟨hs0, hs1, hs2⟩ := hSw; go_simp; try with_reducible rfl
                try simp only [Act.put, List.setIfInBounds_toArray, List.set_cons_zero, List.set_cons_succ]
                refine wpAnyH_ready (rs := [17]) (by kernel_rfl) (by simp) ?_
                refine AllReadyH.cons (o := _) rfl (fun K hK => ?_) AllReadyH.nil
                go_simp
                have HQR := HSB.out.set 2 rfl 9 (.slice a2 (j + 1) cap2)
                refine hK.out _ _ ⟨(HQR.slice 0 rfl).rd.valAt 0 G0.out, (HQR.slice 0 rfl).rd.valAt 1 G1.out, (HQR.slice 0 rfl).rd.valAt 2 G2.out⟩ (fun hHeld => ?_)
                clear hK K HQR hc2 hf2 hpb2
                try simp only [Act.put, List.setIfInBounds_toArray, List.set_cons_zero, List.set_cons_succ]
                refine wpAnyH_done (by kernel_rfl) ?_ _
                go_wp2
                go_roundg (n2 - (j + 1))
                case measure => omega
                case rel =>
                  refine ⟨j + 1, R ++ [(⟨v1, v2, x0, x1, x2⟩ : Arm)], a2, cap2, s9, by omega, by simp, Lib.hid ⟨by simp [HR.out.1], list_snoc_all HR.out.2.1 HQ.out.1, HQ.out.2.1.trans (congrArg _ HR.out.2.2.1), by rw [flat_snoc]; exact HR.out.2.2.2.trans HQ.out.2.2⟩, ?_⟩
                  rw [flat_snoc, List.map_append]
                  have hS := (HSB.out.set 2 rfl 9 (.slice a2 (j + 1) cap2)).tail
                  exact St.addgrp [_, _, _] _ _ (grp (Arm.things (⟨v1, v2, x0, x1, x2⟩ : Arm))) (by exact fun h => h.grp0) hS
              · go_simp
                refine hK.out _ _ (by first | exact ⟨((Mod.refl (fun _ => False) _).alloc _).cell hHeld.1 id, ((Mod.refl (fun _ => False) _).alloc _).cell hHeld.2.1 id, ((Mod.refl (fun _ => False) _).alloc _).cell hHeld.2.2 id⟩ | exact ⟨(((Mod.refl (fun _ => False) w8).alloc _).drew).cell e0 id, (((Mod.refl (fun _ => False) w8).alloc _).drew).cell e1 id, (((Mod.refl (fun _ => False) w8).alloc _).drew).cell e2 id⟩) (fun hHeld => ?_)
                clear hK K
                try simp only [Act.put, List.setIfInBounds_toArray, List.set_cons_zero, List.set_cons_succ]
                have c9 := ((Mod.refl (fun _ => False) w8).alloc (.cells ([.int .i64 v1, .string v2, .int .i64 x0, .int .i64 x1, .int .i64 x2] : List Value).toArray 63)).cell c9 id
                refine wpAnyH_ready (rs := [1]) (by kernel_rfl) (by simp) ?_
                refine AllReadyH.cons (o := _) rfl (fun K hK => ?_) AllReadyH.nil
                go_simp
                refine hK.out _ _ hHeld (fun hHeld => ?_)
                clear hK K
                try simp only [Act.put, List.setIfInBounds_toArray, List.set_cons_zero, List.set_cons_succ]
                refine wpAnyH_ready (rs := [15]) (by kernel_rfl) (by simp) ?_
                refine AllReadyH.cons (o := _) rfl (fun K hK => ?_) AllReadyH.nil
                refine step_append rfl rfl 63 jp _ 5 48 (by kernel_rfl) HJ.out.1 HJ.out.2.1 HJ.out.2.2.1 HJ.out.2.2.2.1 HJ.out.2.2.2.2 c j dap (R.flatMap Arm.cells) (by rfl) ?hv (some ⟨w8.heap.size, 0, none⟩) 1 1 [.int .i64 v1, .string v2, .int .i64 x0, .int .i64 x1, .int .i64 x2] (by rfl) ?hs ?h1 ?h63 ?hb ?_
                case hv => exact (HS.out.slice 4 rfl).mod (S := fun _ => False) (by first | exact ((Mod.refl _ _).alloc _).drew | exact ((Mod.refl _ _).drew).alloc _) (fun _ _ => id)
                case hs => exact (Sl.new (c := ([.int .i64 v1, .string v2, .int .i64 x0, .int .i64 x1, .int .i64 x2] : List Value).toArray) (by first | exact heap_alloc_new w8 _ | exact heap_alloc_new w8.drew _) rfl (by unfold maxLen; omega)).rd
                case h1 => intro u hu; simp only [List.mem_cons, List.not_mem_nil, or_false] at hu; rcases hu with rfl | rfl | rfl | rfl | rfl <;> rfl
                case h63 => unfold maxLen; omega
                case hb => omega
                intro a2 cap2 w2 hS2 hM2 hF2 hN2 hR2
                have hSA := HS.out.mod (by first | exact ((Mod.refl _ _).alloc (.cells ([.int .i64 v1, .string v2, .int .i64 x0, .int .i64 x1, .int .i64 x2] : List Value).toArray 63)).drew | exact ((Mod.refl _ _).drew).alloc (.cells ([.int .i64 v1, .string v2, .int .i64 x0, .int .i64 x1, .int .i64 x2] : List Value).toArray 63))
                have HQQ := hSA.regrow 4 rfl hS2 hM2 hF2
                have hb2 := HQQ.box 2 rfl
                have hc2 := blk_cell hb2 9 _ rfl
                have hf2 := blk_free hb2 9
                have hpb2 := heap_lt hb2
                have HSB := Lib.hid HQQ
                refine hK.out _ _ ⟨(HQQ.slice 0 rfl).rd.valAt 0 G0.out, (HQQ.slice 0 rfl).rd.valAt 1 G1.out, (HQQ.slice 0 rfl).rd.valAt 2 G2.out⟩ (fun hHeld => ?_)
                clear hK K hN2 hR2 hb2 hSA HQQ hS2 hM2 hF2
                try simp only [Act.put, List.setIfInBounds_toArray, List.set_cons_zero, List.set_cons_succ]
                refine wpAnyH_take (i := 16) (oi := _) (v := ?_) rfl (by kernel_rfl) (by kernel_rfl) (by kernel_rfl) (fun _ _ _ h => h) (Or.inl ⟨by rfl, ?_⟩) hHeld ?_
                rotate_left
                · intro wq hSw; (try dsimp only at hSw); obtain ⟨hs0, hs1, hs2⟩ := hSw; go_simp; try with_reducible rfl
                try simp only [Act.put, List.setIfInBounds_toArray, List.set_cons_zero, List.set_cons_succ]
                refine wpAnyH_ready (rs := [17]) (by kernel_rfl) (by simp) ?_
                refine AllReadyH.cons (o := _) rfl (fun K hK => ?_) AllReadyH.nil
                go_simp
                have HQR := HSB.out.set 2 rfl 9 (.slice a2 (j + 1) cap2)
                refine hK.out _ _ ⟨(HQR.slice 0 rfl).rd.valAt 0 G0.out, (HQR.slice 0 rfl).rd.valAt 1 G1.out, (HQR.slice 0 rfl).rd.valAt 2 G2.out⟩ (fun hHeld => ?_)
                clear hK K HQR hc2 hf2 hpb2
                try simp only [Act.put, List.setIfInBounds_toArray, List.set_cons_zero, List.set_cons_succ]
                refine wpAnyH_done (by kernel_rfl) ?_ _
                go_wp2
                go_roundg (n2 - (j + 1))
                case measure => omega
                case rel =>
                  refine ⟨j + 1, R ++ [(⟨v1, v2, x0, x1, x2⟩ : Arm)], a2, cap2, s9, by omega, by simp, Lib.hid ⟨by simp [HR.out.1], list_snoc_all HR.out.2.1 HQ.out.1, HQ.out.2.1.trans (congrArg _ HR.out.2.2.1), by rw [flat_snoc]; exact HR.out.2.2.2.trans HQ.out.2.2⟩, ?_⟩
                  rw [flat_snoc, List.map_append]
                  have hS := (HSB.out.set 2 rfl 9 (.slice a2 (j + 1) cap2)).tail
                  exact St.addgrp [_, _, _] _ _ (grp (Arm.things (⟨v1, v2, x0, x1, x2⟩ : Arm))) (by exact fun h => h.grp0) hS
            · obtain ⟨z, hz⟩ : ∃ z, s6.wr = z := ⟨_, rfl⟩
              rw [hz] at ce
              have hzb : (z == 0) = false := by rw [← hz]; simpa using hw
              have HW := Lib.hid hw
              clear hw hz
              have HS0 := Lib.hid hS
              clear hS
              go_wp2_with (first
                | ((with_reducible refine at_list ?_); refine wpList_load_chunk 10 _ Tryz.underlying30 rfl sizeOp ⟨tb, 0, none⟩ rfl [.int .i64 X.kind, .int .i64 X.xid, .string X.path, .string X.data, .slice X.aclA X.acl.length X.aclC, .int .i64 X.flags, .int .i64 X.version, .bool X.watch, .slice a k cap, .slice c j dap] rfl (box_chunk (cs := [.int .i64 X.kind, .int .i64 X.xid, .string X.path, .string X.data, .slice X.aclA X.acl.length X.aclC, .int .i64 X.flags, .int .i64 X.version, .bool X.watch, .slice a k cap, .slice c j dap]) (HS0.out.box 1 rfl)) ?_)
                | ((with_reducible refine at_list ?_); refine wpList_store_whole 10 sizeOp rb rfl _ _ (HS0.out.box 2 rfl) rfl [.int .i64 X.kind, .int .i64 X.xid, .string X.path, .string X.data, .slice X.aclA X.acl.length X.aclC, .int .i64 X.flags, .int .i64 X.version, .bool X.watch, .slice a k cap, .slice c j dap] rfl rfl (by kernel_rfl) ?_; intro w30 hg4 hM4 hz4))
              refine bodyPost_ret (results_cell rfl _ w30 rb _ _ _ _ rfl hg4 Tryz.underlying30 rfl sizeOp) rfl ?_
              have hS := (HS0.out.rebox 2 rfl hg4 hM4).tail2.tail2
              have HE := row_end (sticky_qArm _) HR HN2 HT2 (by omega) hle2 (.inr HW.out)
              exact ⟨⟨{ X with subsA := a, subsN := k, subsC := cap, armedA := c, armedN := j, armedC := dap }, L, R⟩, s6, rfl, Lib.hid ⟨⟨HX.out.1.1, ⟨HLL.out.symm, HQ2.out.1⟩, ⟨HR.out.1.symm, HE.out.1⟩⟩, by rw [HE.out.2.1, HQ2.out.2.1, HX.out.2.1]; rfl, (HX.out.2.2.trans HQ2.out.2.2).trans HE.out.2.2⟩, St.pack2 _ _ hS⟩
          · have hj : j = n2 := by omega
            have HK := Lib.hid hj
            clear hjg hj
            have HS0 := Lib.hid hS
            clear hS
            go_wp2_with (first
              | ((with_reducible refine at_list ?_); refine wpList_load_chunk 10 _ Tryz.underlying30 rfl sizeOp ⟨tb, 0, none⟩ rfl [.int .i64 X.kind, .int .i64 X.xid, .string X.path, .string X.data, .slice X.aclA X.acl.length X.aclC, .int .i64 X.flags, .int .i64 X.version, .bool X.watch, .slice a k cap, .slice c j dap] rfl (box_chunk (cs := [.int .i64 X.kind, .int .i64 X.xid, .string X.path, .string X.data, .slice X.aclA X.acl.length X.aclC, .int .i64 X.flags, .int .i64 X.version, .bool X.watch, .slice a k cap, .slice c j dap]) (HS0.out.box 1 rfl)) ?_)
              | ((with_reducible refine at_list ?_); refine wpList_store_whole 10 sizeOp rb rfl _ _ (HS0.out.box 2 rfl) rfl [.int .i64 X.kind, .int .i64 X.xid, .string X.path, .string X.data, .slice X.aclA X.acl.length X.aclC, .int .i64 X.flags, .int .i64 X.version, .bool X.watch, .slice a k cap, .slice c j dap] rfl rfl (by kernel_rfl) ?_; intro w30 hg4 hM4 hz4))
            refine bodyPost_ret (results_cell rfl _ w30 rb _ _ _ _ rfl hg4 Tryz.underlying30 rfl sizeOp) rfl ?_
            have hS := (HS0.out.rebox 2 rfl hg4 hM4).tail2.tail2
            have HE := row_end (sticky_qArm _) HR HN2 HT2 (by rw [HK.out]; exact Nat.le_refl _) hle2 (.inl HK.out)
            exact ⟨⟨{ X with subsA := a, subsN := k, subsC := cap, armedA := c, armedN := j, armedC := dap }, L, R⟩, s6, rfl, Lib.hid ⟨⟨HX.out.1.1, ⟨HLL.out.symm, HQ2.out.1⟩, ⟨HR.out.1.symm, HE.out.1⟩⟩, by rw [HE.out.2.1, HQ2.out.2.1, HX.out.2.1]; rfl, (HX.out.2.2.trans HQ2.out.2.2).trans HE.out.2.2⟩, St.pack2 _ _ hS⟩
    · have HQ2 := row_end (sticky_qOp _) HL HN HT (by omega) hle (.inl (by omega))
      clear hkg
      have HLL : Hid (L.length = k) := Lib.hid HL.out.1
      clear HL HN HT
      go_wp2_with fail
      refine (rcount2_st hS).mono ?_
      clear ce ze
      have hle2 : (rcount B.data.toList 256 s').1 ≤ 256 := (rcount_ok (most := 256) (hS.dok 0 rfl)).2
      clear hS
      rintro e w5 ⟨rfl, hS⟩
      obtain ⟨n2, hn2⟩ : ∃ n2, (rcount B.data.toList 256 s').1 = n2 := ⟨_, rfl⟩
      obtain ⟨s5, hs5⟩ : ∃ s5, (rcount B.data.toList 256 s').2 = s5 := ⟨_, rfl⟩
      rw [hn2] at hle2 ⊢
      rw [hs5] at hS
      have HS5 := Lib.hid (St.rowStartN [_, _] _ hS 63 5)
      have HN2 := Lib.hid hn2
      have HT2 := Lib.hid hs5
      clear hn2 hs5 hS
      go_wp2
      go_loopg [7, 8, 9, 10] n2 (fun g y z8 z9 z10 wr => ∃ (j : Nat) (R : List Arm) (c : Option Addr) (dap : Nat) (s6 : RS), j + g = n2 ∧ y = .int .i64 j ∧ Hid (R.length = j ∧ (∀ x ∈ R, Arm.fine x) ∧ s6 = iter (qArm B.data.toList) s5 j ∧ Rel B.data.toList s5 s6 (R.flatMap Arm.bytes)) ∧ St w0 wr (drt pb B s6 :: bx tb #[.int .i64 X.kind, .int .i64 X.xid, .string X.path, .string X.data, .slice X.aclA X.acl.length X.aclC, .int .i64 X.flags, .int .i64 X.version, .bool X.watch, .slice a k cap, .slice c j dap] 30 :: bx rb #[.int .i64 0, .int .i64 0, .string ⟨#[]⟩, .string ⟨#[]⟩, .slice none 0 0, .int .i64 0, .int .i64 0, .bool false, .slice none 0 0, .slice none 0 0] 30 :: sl 63 5 c j dap (R.flatMap Arm.cells) :: grp (R.map fun x => grp (Arm.things x)) :: sl 30 10 a k cap (L.flatMap Op.cells) :: grp (L.map fun x => grp (Op.things x)) :: grp (Op.things X) :: l))
      case atStart => exact ⟨0, [], none, 0, s5, by omega, rfl, Lib.hid ⟨rfl, fun _ h => absurd h List.not_mem_nil, rfl, Rel.refl⟩, HS5.out⟩
      case round =>
        obtain ⟨j, R, c, dap, s6, hjg, rfl, HR, hS⟩ := hrel
        clear HS5
        have ce := hS.dwr 0 rfl
        have ze := hS.dlt 0 rfl
        by_cases hltj : j < n2
        · by_cases hw : s6.wr = 0
          · rw [hw] at ce
            have HS0 := Lib.hid hS
            clear hS
            go_wp2_with fail
            refine (dtnum_st HS0.out).mono ?_
            clear HS0 ce ze
            rintro e w6 ⟨v1, s7, rfl, G1, hS⟩
            go_wp2_with fail
            refine (dttext_st hS).mono ?_
            clear hS
            rintro e w7 ⟨v2, s8, rfl, G2, hS⟩
            go_wp2_with fail
            refine (rtake_st hS 0 rfl 3 3 rfl (by omega)).mono ?_
            have hok := hS.dok 0 rfl
            have KH : (i64 (rv B.data.toList s8 0) ∧ i64 (rv B.data.toList s8 1) ∧ i64 (rv B.data.toList s8 2)) ∧ rs B.data.toList s8 3 = rs B.data.toList s8 3 ∧ Rel B.data.toList s8 (rs B.data.toList s8 3) (numsB [rv B.data.toList s8 0, rv B.data.toList s8 1, rv B.data.toList s8 2]) := ⟨⟨rv_i64 hok 0, rv_i64 hok 1, rv_i64 hok 2⟩, rfl, rel_nums 3⟩
            clear hS hok
            rintro e w8 ⟨sb, rfl, hS⟩
            simp only [List.set_cons_zero] at hS
            obtain ⟨cs, hcs⟩ : ∃ x, x = ic (numsR B.data.toList s8 3) := ⟨_, rfl⟩
            rw [← hcs] at hS
            have g0 : cs[0]? = some (.int .i64 (rv B.data.toList s8 0)) := by rw [hcs]; simp [ic, numsR]
            have g1 : cs[1]? = some (.int .i64 (rv B.data.toList s8 1)) := by rw [hcs]; simp [ic, numsR]
            have g2 : cs[2]? = some (.int .i64 (rv B.data.toList s8 2)) := by rw [hcs]; simp [ic, numsR]
            clear hcs
            generalize rv B.data.toList s8 0 = x0 at g0 KH
            generalize rv B.data.toList s8 1 = x1 at g1 KH
            generalize rv B.data.toList s8 2 = x2 at g2 KH
            obtain ⟨s9, hs9⟩ : ∃ x, x = rs B.data.toList s8 3 := ⟨_, rfl⟩
            rw [← hs9] at hS
            have G3 : Hid ((i64 x0 ∧ i64 x1 ∧ i64 x2) ∧ s9 = rs B.data.toList s8 3 ∧ Rel B.data.toList s8 s9 (numsB [x0, x1, x2])) := by rw [← hs9] at KH; exact Lib.hid ⟨KH.1, hs9, KH.2.2⟩
            clear hs9 KH
            have HQ : Hid (Arm.fine (⟨v1, v2, x0, x1, x2⟩ : Arm) ∧ s9 = qArm B.data.toList s6 ∧ Rel B.data.toList s6 s9 (Arm.bytes (⟨v1, v2, x0, x1, x2⟩ : Arm))) := Lib.hid ⟨⟨G1.out.1, G3.out.1⟩, by rw [G3.out.2.1, G2.out.2.1, G1.out.2.1]; rfl, (G1.out.2.2.trans G2.out.2.2).trans G3.out.2.2⟩
            clear G1 G2 G3
            have hS : St w0 w8 (sl 3 1 (some ⟨sb, 0, none⟩) 3 3 cs :: drt pb B s9 :: bx tb #[.int .i64 X.kind, .int .i64 X.xid, .string X.path, .string X.data, .slice X.aclA X.acl.length X.aclC, .int .i64 X.flags, .int .i64 X.version, .bool X.watch, .slice a k cap, .slice c j dap] 30 :: bx rb #[.int .i64 0, .int .i64 0, .string ⟨#[]⟩, .string ⟨#[]⟩, .slice none 0 0, .int .i64 0, .int .i64 0, .bool false, .slice none 0 0, .slice none 0 0] 30 :: sl 63 5 c j dap (R.flatMap Arm.cells) :: grp (R.map fun x => grp (Arm.things x)) :: sl 30 10 a k cap (L.flatMap Op.cells) :: grp (L.map fun x => grp (Op.things x)) :: grp (Op.things X) :: l) := hS
            have e0 : w8.cell? ⟨sb, 0, none⟩ = some (.int .i64 x0) := (hS.slice 0 rfl).rd.valAt 0 g0
            have e1 : w8.cell? ⟨sb, 1, none⟩ = some (.int .i64 x1) := (hS.slice 0 rfl).rd.valAt 1 g1
            have e2 : w8.cell? ⟨sb, 2, none⟩ = some (.int .i64 x2) := (hS.slice 0 rfl).rd.valAt 2 g2
            have c9 := blk_cell (hS.box 2 rfl) 9 _ rfl
            have z9 := heap_lt (hS.box 2 rfl)
            have HS := Lib.hid hS
            have G0 := Lib.hid g0
            have G1 := Lib.hid g1
            have G2 := Lib.hid g2
            clear g0 g1 g2 hS
            go_upto_region 15 with (fail)
            refine wp_region_held_drew (S := (fun w' => w'.cell? ⟨sb, 0, none⟩ = some (.int .i64 x0) ∧ w'.cell? ⟨sb, 1, none⟩ = some (.int .i64 x1) ∧ w'.cell? ⟨sb, 2, none⟩ = some (.int .i64 x2))) (by kernel_rfl) ⟨e0, e1, e2⟩ (fun hHeld => ?_)
            refine wpAnyH_take (i := 0) (oi := _) (v := ?_) rfl (by kernel_rfl) (by kernel_rfl) (by kernel_rfl) (fun _ _ _ h => h) (Or.inl ⟨by rfl, ?_⟩) hHeld ?_
            rotate_left
            · intro wq hSw; (try dsimp only at hSw); obtain ⟨hs0, hs1, hs2⟩ := hSw; go_simp; try with_reducible rfl
            try simp only [Act.put, List.setIfInBounds_toArray, List.set_cons_zero, List.set_cons_succ]
            refine wpAnyH_take (i := 2) (oi := _) (v := ?_) rfl (by kernel_rfl) (by kernel_rfl) (by kernel_rfl) (fun _ _ _ h => h) (Or.inl ⟨by rfl, ?_⟩) hHeld ?_
            rotate_left
            · intro wq hSw; (try dsimp only at hSw); obtain ⟨hs0, hs1, hs2⟩ := hSw; go_simp; try with_reducible rfl
            try simp only [Act.put, List.setIfInBounds_toArray, List.set_cons_zero, List.set_cons_succ]
            refine wpAnyH_take (i := 3) (oi := _) (v := ?_) rfl (by kernel_rfl) (by kernel_rfl) (by kernel_rfl) (fun _ _ _ h => h) (Or.inl ⟨by rfl, ?_⟩) hHeld ?_
            rotate_left
            · intro wq hSw; (try dsimp only at hSw); obtain ⟨hs0, hs1, hs2⟩ := hSw; go_simp; try with_reducible rfl
            try simp only [Act.put, List.setIfInBounds_toArray, List.set_cons_zero, List.set_cons_succ]
            refine wpAnyH_take (i := 4) (oi := _) (v := ?_) rfl (by kernel_rfl) (by kernel_rfl) (by kernel_rfl) (fun _ _ _ h => h) (Or.inl ⟨by rfl, ?_⟩) hHeld ?_
            rotate_left
            · intro wq hSw; (try dsimp only at hSw); obtain ⟨hs0, hs1, hs2⟩ := hSw; go_simp; try with_reducible rfl
            try simp only [Act.put, List.setIfInBounds_toArray, List.set_cons_zero, List.set_cons_succ]
            refine wpAnyH_take (i := 5) (oi := _) (v := ?_) rfl (by kernel_rfl) (by kernel_rfl) (by kernel_rfl) (fun _ _ _ h => h) (Or.inl ⟨by rfl, ?_⟩) hHeld ?_
            rotate_left
            · intro wq hSw; (try dsimp only at hSw); obtain ⟨hs0, hs1, hs2⟩ := hSw; go_simp; try with_reducible rfl
            try simp only [Act.put, List.setIfInBounds_toArray, List.set_cons_zero, List.set_cons_succ]
            refine wpAnyH_take (i := 6) (oi := _) (v := ?_) rfl (by kernel_rfl) (by kernel_rfl) (by kernel_rfl) (fun _ _ _ h => h) (Or.inl ⟨by rfl, ?_⟩) hHeld ?_
            rotate_left
            · intro wq hSw; (try dsimp only at hSw); obtain ⟨hs0, hs1, hs2⟩ := hSw; go_simp; try with_reducible rfl
            try simp only [Act.put, List.setIfInBounds_toArray, List.set_cons_zero, List.set_cons_succ]
            refine wpAnyH_take (i := 7) (oi := _) (v := ?_) rfl (by kernel_rfl) (by kernel_rfl) (by kernel_rfl) (fun _ _ _ h => h) (Or.inl ⟨by rfl, ?_⟩) hHeld ?_
            rotate_left
            · intro wq hSw; (try dsimp only at hSw); obtain ⟨hs0, hs1, hs2⟩ := hSw; go_simp; try with_reducible rfl
            try simp only [Act.put, List.setIfInBounds_toArray, List.set_cons_zero, List.set_cons_succ]
            refine wpAnyH_take (i := 8) (oi := _) (v := ?_) rfl (by kernel_rfl) (by kernel_rfl) (by kernel_rfl) (fun _ _ _ h => h) (Or.inl ⟨by rfl, ?_⟩) hHeld ?_
            rotate_left
            · intro wq hSw; (try dsimp only at hSw); obtain ⟨hs0, hs1, hs2⟩ := hSw; go_simp; try with_reducible rfl
            try simp only [Act.put, List.setIfInBounds_toArray, List.set_cons_zero, List.set_cons_succ]
            refine wpAnyH_take (i := 9) (oi := _) (v := ?_) rfl (by kernel_rfl) (by kernel_rfl) (by kernel_rfl) (fun _ _ _ h => h) (Or.inl ⟨by rfl, ?_⟩) hHeld ?_
            rotate_left
            · intro wq hSw; (try dsimp only at hSw); obtain ⟨hs0, hs1, hs2⟩ := hSw; go_simp; try with_reducible rfl
            try simp only [Act.put, List.setIfInBounds_toArray, List.set_cons_zero, List.set_cons_succ]
            refine wpAnyH_take (i := 10) (oi := _) (v := ?_) rfl (by kernel_rfl) (by kernel_rfl) (by kernel_rfl) (fun _ _ _ h => h) (Or.inl ⟨by rfl, ?_⟩) hHeld ?_
            rotate_left
            · intro wq hSw; (try dsimp only at hSw); obtain ⟨hs0, hs1, hs2⟩ := hSw; go_simp; try with_reducible rfl
            try simp only [Act.put, List.setIfInBounds_toArray, List.set_cons_zero, List.set_cons_succ]
            refine wpAnyH_take (i := 11) (oi := _) (v := ?_) rfl (by kernel_rfl) (by kernel_rfl) (by kernel_rfl) (fun _ _ _ h => h) (Or.inl ⟨by rfl, ?_⟩) hHeld ?_
            rotate_left
            · intro wq hSw; (try dsimp only at hSw); obtain ⟨hs0, hs1, hs2⟩ := hSw; go_simp; try with_reducible rfl
            try simp only [Act.put, List.setIfInBounds_toArray, List.set_cons_zero, List.set_cons_succ]
            refine wpAnyH_take (i := 12) (oi := _) (v := ?_) rfl (by kernel_rfl) (by kernel_rfl) (by kernel_rfl) (fun _ _ _ h => h) (Or.inl ⟨by rfl, ?_⟩) hHeld ?_
            rotate_left
            · intro wq hSw; (try dsimp only at hSw); obtain ⟨hs0, hs1, hs2⟩ := hSw; go_simp; try with_reducible rfl
            try simp only [Act.put, List.setIfInBounds_toArray, List.set_cons_zero, List.set_cons_succ]
            refine wpAnyH_take (i := 13) (oi := _) (v := ?_) rfl (by kernel_rfl) (by kernel_rfl) (by kernel_rfl) (fun _ _ _ h => h) (Or.inl ⟨by rfl, ?_⟩) hHeld ?_
            rotate_left
            · intro wq hSw; (try dsimp only at hSw); obtain ⟨hs0, hs1, hs2⟩ := hSw; go_simp; try with_reducible rfl
            try simp only [Act.put, List.setIfInBounds_toArray, List.set_cons_zero, List.set_cons_succ]
            refine wpAnyH_ready (rs := [1, 14]) (by kernel_rfl) (by simp) ?_
            refine AllReadyH.cons (o := _) rfl (fun K hK => ?_) (AllReadyH.cons (o := _) rfl (fun K hK => ?_) AllReadyH.nil)
            · go_simp
              refine hK.out _ _ hHeld (fun hHeld => ?_)
              clear hK K
              try simp only [Act.put, List.setIfInBounds_toArray, List.set_cons_zero, List.set_cons_succ]
              refine wpAnyH_ready (rs := [14]) (by kernel_rfl) (by simp) ?_
              refine AllReadyH.cons (o := _) rfl (fun K hK => ?_) AllReadyH.nil
              go_simp
              refine hK.out _ _ (by first | exact ⟨((Mod.refl (fun _ => False) _).alloc _).cell hHeld.1 id, ((Mod.refl (fun _ => False) _).alloc _).cell hHeld.2.1 id, ((Mod.refl (fun _ => False) _).alloc _).cell hHeld.2.2 id⟩ | exact ⟨(((Mod.refl (fun _ => False) w8).alloc _).drew).cell e0 id, (((Mod.refl (fun _ => False) w8).alloc _).drew).cell e1 id, (((Mod.refl (fun _ => False) w8).alloc _).drew).cell e2 id⟩) (fun hHeld => ?_)
              clear hK K
              try simp only [Act.put, List.setIfInBounds_toArray, List.set_cons_zero, List.set_cons_succ]
              refine wpAnyH_ready (rs := [15]) (by kernel_rfl) (by simp) ?_
              refine AllReadyH.cons (o := _) rfl (fun K hK => ?_) AllReadyH.nil
              refine step_append rfl rfl 63 jp _ 5 48 (by kernel_rfl) HJ.out.1 HJ.out.2.1 HJ.out.2.2.1 HJ.out.2.2.2.1 HJ.out.2.2.2.2 c j dap (R.flatMap Arm.cells) (by rfl) ?hv (some ⟨w8.heap.size, 0, none⟩) 1 1 [.int .i64 v1, .string v2, .int .i64 x0, .int .i64 x1, .int .i64 x2] (by rfl) ?hs ?h1 ?h63 ?hb ?_
              case hv => exact (HS.out.slice 4 rfl).mod (S := fun _ => False) (by first | exact ((Mod.refl _ _).alloc _).drew | exact ((Mod.refl _ _).drew).alloc _) (fun _ _ => id)
              case hs => exact (Sl.new (c := ([.int .i64 v1, .string v2, .int .i64 x0, .int .i64 x1, .int .i64 x2] : List Value).toArray) (by first | exact heap_alloc_new w8 _ | exact heap_alloc_new w8.drew _) rfl (by unfold maxLen; omega)).rd
              case h1 => intro u hu; simp only [List.mem_cons, List.not_mem_nil, or_false] at hu; rcases hu with rfl | rfl | rfl | rfl | rfl <;> rfl
              case h63 => unfold maxLen; omega
              case hb => omega
              intro a2 cap2 w2 hS2 hM2 hF2 hN2 hR2
              have hSA := HS.out.mod (by first | exact ((Mod.refl _ _).alloc (.cells ([.int .i64 v1, .string v2, .int .i64 x0, .int .i64 x1, .int .i64 x2] : List Value).toArray 63)).drew | exact ((Mod.refl _ _).drew).alloc (.cells ([.int .i64 v1, .string v2, .int .i64 x0, .int .i64 x1, .int .i64 x2] : List Value).toArray 63))
              have HQQ := hSA.regrow 4 rfl hS2 hM2 hF2
              have hb2 := HQQ.box 2 rfl
              have hc2 := blk_cell hb2 9 _ rfl
              have hf2 := blk_free hb2 9
              have hpb2 := heap_lt hb2
              have HSB := Lib.hid HQQ
              refine hK.out _ _ ⟨(HQQ.slice 0 rfl).rd.valAt 0 G0.out, (HQQ.slice 0 rfl).rd.valAt 1 G1.out, (HQQ.slice 0 rfl).rd.valAt 2 G2.out⟩ (fun hHeld => ?_)
              clear hK K hN2 hR2 hb2 hSA HQQ hS2 hM2 hF2
              try simp only [Act.put, List.setIfInBounds_toArray, List.set_cons_zero, List.set_cons_succ]
              refine wpAnyH_take (i := 16) (oi := _) (v := ?_) rfl (by kernel_rfl) (by kernel_rfl) (by kernel_rfl) (fun _ _ _ h => h) (Or.inl ⟨by rfl, ?_⟩) hHeld ?_
              rotate_left
              · intro wq hSw; (try dsimp only at hSw); obtain ⟨hs0, hs1, hs2⟩ := hSw; go_simp; try with_reducible rfl
              try simp only [Act.put, List.setIfInBounds_toArray, List.set_cons_zero, List.set_cons_succ]
              refine wpAnyH_ready (rs := [17]) (by kernel_rfl) (by simp) ?_
              refine AllReadyH.cons (o := _) rfl (fun K hK => ?_) AllReadyH.nil
              go_simp
              have HQR := HSB.out.set 2 rfl 9 (.slice a2 (j + 1) cap2)
              refine hK.out _ _ ⟨(HQR.slice 0 rfl).rd.valAt 0 G0.out, (HQR.slice 0 rfl).rd.valAt 1 G1.out, (HQR.slice 0 rfl).rd.valAt 2 G2.out⟩ (fun hHeld => ?_)
              clear hK K HQR hc2 hf2 hpb2
              try simp only [Act.put, List.setIfInBounds_toArray, List.set_cons_zero, List.set_cons_succ]
              refine wpAnyH_done (by kernel_rfl) ?_ _
              go_wp2
              go_roundg (n2 - (j + 1))
              case measure => omega
              case rel =>
                refine ⟨j + 1, R ++ [(⟨v1, v2, x0, x1, x2⟩ : Arm)], a2, cap2, s9, by omega, by simp, Lib.hid ⟨by simp [HR.out.1], list_snoc_all HR.out.2.1 HQ.out.1, HQ.out.2.1.trans (congrArg _ HR.out.2.2.1), by rw [flat_snoc]; exact HR.out.2.2.2.trans HQ.out.2.2⟩, ?_⟩
                rw [flat_snoc, List.map_append]
                have hS := (HSB.out.set 2 rfl 9 (.slice a2 (j + 1) cap2)).tail
                exact St.addgrp [_, _, _] _ _ (grp (Arm.things (⟨v1, v2, x0, x1, x2⟩ : Arm))) (by exact fun h => h.grp0) hS
            · go_simp
              refine hK.out _ _ (by first | exact ⟨((Mod.refl (fun _ => False) _).alloc _).cell hHeld.1 id, ((Mod.refl (fun _ => False) _).alloc _).cell hHeld.2.1 id, ((Mod.refl (fun _ => False) _).alloc _).cell hHeld.2.2 id⟩ | exact ⟨(((Mod.refl (fun _ => False) w8).alloc _).drew).cell e0 id, (((Mod.refl (fun _ => False) w8).alloc _).drew).cell e1 id, (((Mod.refl (fun _ => False) w8).alloc _).drew).cell e2 id⟩) (fun hHeld => ?_)
              clear hK K
              try simp only [Act.put, List.setIfInBounds_toArray, List.set_cons_zero, List.set_cons_succ]
              have c9 := ((Mod.refl (fun _ => False) w8).alloc (.cells ([.int .i64 v1, .string v2, .int .i64 x0, .int .i64 x1, .int .i64 x2] : List Value).toArray 63)).cell c9 id
              refine wpAnyH_ready (rs := [1]) (by kernel_rfl) (by simp) ?_
              refine AllReadyH.cons (o := _) rfl (fun K hK => ?_) AllReadyH.nil
              go_simp
              refine hK.out _ _ hHeld (fun hHeld => ?_)
              clear hK K
              try simp only [Act.put, List.setIfInBounds_toArray, List.set_cons_zero, List.set_cons_succ]
              refine wpAnyH_ready (rs := [15]) (by kernel_rfl) (by simp) ?_
              refine AllReadyH.cons (o := _) rfl (fun K hK => ?_) AllReadyH.nil
              refine step_append rfl rfl 63 jp _ 5 48 (by kernel_rfl) HJ.out.1 HJ.out.2.1 HJ.out.2.2.1 HJ.out.2.2.2.1 HJ.out.2.2.2.2 c j dap (R.flatMap Arm.cells) (by rfl) ?hv (some ⟨w8.heap.size, 0, none⟩) 1 1 [.int .i64 v1, .string v2, .int .i64 x0, .int .i64 x1, .int .i64 x2] (by rfl) ?hs ?h1 ?h63 ?hb ?_
              case hv => exact (HS.out.slice 4 rfl).mod (S := fun _ => False) (by first | exact ((Mod.refl _ _).alloc _).drew | exact ((Mod.refl _ _).drew).alloc _) (fun _ _ => id)
              case hs => exact (Sl.new (c := ([.int .i64 v1, .string v2, .int .i64 x0, .int .i64 x1, .int .i64 x2] : List Value).toArray) (by first | exact heap_alloc_new w8 _ | exact heap_alloc_new w8.drew _) rfl (by unfold maxLen; omega)).rd
              case h1 => intro u hu; simp only [List.mem_cons, List.not_mem_nil, or_false] at hu; rcases hu with rfl | rfl | rfl | rfl | rfl <;> rfl
              case h63 => unfold maxLen; omega
              case hb => omega
              intro a2 cap2 w2 hS2 hM2 hF2 hN2 hR2
              have hSA := HS.out.mod (by first | exact ((Mod.refl _ _).alloc (.cells ([.int .i64 v1, .string v2, .int .i64 x0, .int .i64 x1, .int .i64 x2] : List Value).toArray 63)).drew | exact ((Mod.refl _ _).drew).alloc (.cells ([.int .i64 v1, .string v2, .int .i64 x0, .int .i64 x1, .int .i64 x2] : List Value).toArray 63))
              have HQQ := hSA.regrow 4 rfl hS2 hM2 hF2
              have hb2 := HQQ.box 2 rfl
              have hc2 := blk_cell hb2 9 _ rfl
              have hf2 := blk_free hb2 9
              have hpb2 := heap_lt hb2
              have HSB := Lib.hid HQQ
              refine hK.out _ _ ⟨(HQQ.slice 0 rfl).rd.valAt 0 G0.out, (HQQ.slice 0 rfl).rd.valAt 1 G1.out, (HQQ.slice 0 rfl).rd.valAt 2 G2.out⟩ (fun hHeld => ?_)
              clear hK K hN2 hR2 hb2 hSA HQQ hS2 hM2 hF2
              try simp only [Act.put, List.setIfInBounds_toArray, List.set_cons_zero, List.set_cons_succ]
              refine wpAnyH_take (i := 16) (oi := _) (v := ?_) rfl (by kernel_rfl) (by kernel_rfl) (by kernel_rfl) (fun _ _ _ h => h) (Or.inl ⟨by rfl, ?_⟩) hHeld ?_
              rotate_left
              · intro wq hSw; (try dsimp only at hSw); obtain ⟨hs0, hs1, hs2⟩ := hSw; go_simp; try with_reducible rfl
              try simp only [Act.put, List.setIfInBounds_toArray, List.set_cons_zero, List.set_cons_succ]
              refine wpAnyH_ready (rs := [17]) (by kernel_rfl) (by simp) ?_
              refine AllReadyH.cons (o := _) rfl (fun K hK => ?_) AllReadyH.nil
              go_simp
              have HQR := HSB.out.set 2 rfl 9 (.slice a2 (j + 1) cap2)
              refine hK.out _ _ ⟨(HQR.slice 0 rfl).rd.valAt 0 G0.out, (HQR.slice 0 rfl).rd.valAt 1 G1.out, (HQR.slice 0 rfl).rd.valAt 2 G2.out⟩ (fun hHeld => ?_)
              clear hK K HQR hc2 hf2 hpb2
              try simp only [Act.put, List.setIfInBounds_toArray, List.set_cons_zero, List.set_cons_succ]
              refine wpAnyH_done (by kernel_rfl) ?_ _
              go_wp2
              go_roundg (n2 - (j + 1))
              case measure => omega
              case rel =>
                refine ⟨j + 1, R ++ [(⟨v1, v2, x0, x1, x2⟩ : Arm)], a2, cap2, s9, by omega, by simp, Lib.hid ⟨by simp [HR.out.1], list_snoc_all HR.out.2.1 HQ.out.1, HQ.out.2.1.trans (congrArg _ HR.out.2.2.1), by rw [flat_snoc]; exact HR.out.2.2.2.trans HQ.out.2.2⟩, ?_⟩
                rw [flat_snoc, List.map_append]
                have hS := (HSB.out.set 2 rfl 9 (.slice a2 (j + 1) cap2)).tail
                exact St.addgrp [_, _, _] _ _ (grp (Arm.things (⟨v1, v2, x0, x1, x2⟩ : Arm))) (by exact fun h => h.grp0) hS
          · obtain ⟨z, hz⟩ : ∃ z, s6.wr = z := ⟨_, rfl⟩
            rw [hz] at ce
            have hzb : (z == 0) = false := by rw [← hz]; simpa using hw
            have HW := Lib.hid hw
            clear hw hz
            have HS0 := Lib.hid hS
            clear hS
            go_wp2_with (first
              | ((with_reducible refine at_list ?_); refine wpList_load_chunk 10 _ Tryz.underlying30 rfl sizeOp ⟨tb, 0, none⟩ rfl [.int .i64 X.kind, .int .i64 X.xid, .string X.path, .string X.data, .slice X.aclA X.acl.length X.aclC, .int .i64 X.flags, .int .i64 X.version, .bool X.watch, .slice a k cap, .slice c j dap] rfl (box_chunk (cs := [.int .i64 X.kind, .int .i64 X.xid, .string X.path, .string X.data, .slice X.aclA X.acl.length X.aclC, .int .i64 X.flags, .int .i64 X.version, .bool X.watch, .slice a k cap, .slice c j dap]) (HS0.out.box 1 rfl)) ?_)
              | ((with_reducible refine at_list ?_); refine wpList_store_whole 10 sizeOp rb rfl _ _ (HS0.out.box 2 rfl) rfl [.int .i64 X.kind, .int .i64 X.xid, .string X.path, .string X.data, .slice X.aclA X.acl.length X.aclC, .int .i64 X.flags, .int .i64 X.version, .bool X.watch, .slice a k cap, .slice c j dap] rfl rfl (by kernel_rfl) ?_; intro w30 hg4 hM4 hz4))
            refine bodyPost_ret (results_cell rfl _ w30 rb _ _ _ _ rfl hg4 Tryz.underlying30 rfl sizeOp) rfl ?_
            have hS := (HS0.out.rebox 2 rfl hg4 hM4).tail2.tail2
            have HE := row_end (sticky_qArm _) HR HN2 HT2 (by omega) hle2 (.inr HW.out)
            exact ⟨⟨{ X with subsA := a, subsN := k, subsC := cap, armedA := c, armedN := j, armedC := dap }, L, R⟩, s6, rfl, Lib.hid ⟨⟨HX.out.1.1, ⟨HLL.out.symm, HQ2.out.1⟩, ⟨HR.out.1.symm, HE.out.1⟩⟩, by rw [HE.out.2.1, HQ2.out.2.1, HX.out.2.1]; rfl, (HX.out.2.2.trans HQ2.out.2.2).trans HE.out.2.2⟩, St.pack2 _ _ hS⟩
        · have hj : j = n2 := by omega
          have HK := Lib.hid hj
          clear hjg hj
          have HS0 := Lib.hid hS
          clear hS
          go_wp2_with (first
            | ((with_reducible refine at_list ?_); refine wpList_load_chunk 10 _ Tryz.underlying30 rfl sizeOp ⟨tb, 0, none⟩ rfl [.int .i64 X.kind, .int .i64 X.xid, .string X.path, .string X.data, .slice X.aclA X.acl.length X.aclC, .int .i64 X.flags, .int .i64 X.version, .bool X.watch, .slice a k cap, .slice c j dap] rfl (box_chunk (cs := [.int .i64 X.kind, .int .i64 X.xid, .string X.path, .string X.data, .slice X.aclA X.acl.length X.aclC, .int .i64 X.flags, .int .i64 X.version, .bool X.watch, .slice a k cap, .slice c j dap]) (HS0.out.box 1 rfl)) ?_)
            | ((with_reducible refine at_list ?_); refine wpList_store_whole 10 sizeOp rb rfl _ _ (HS0.out.box 2 rfl) rfl [.int .i64 X.kind, .int .i64 X.xid, .string X.path, .string X.data, .slice X.aclA X.acl.length X.aclC, .int .i64 X.flags, .int .i64 X.version, .bool X.watch, .slice a k cap, .slice c j dap] rfl rfl (by kernel_rfl) ?_; intro w30 hg4 hM4 hz4))
          refine bodyPost_ret (results_cell rfl _ w30 rb _ _ _ _ rfl hg4 Tryz.underlying30 rfl sizeOp) rfl ?_
          have hS := (HS0.out.rebox 2 rfl hg4 hM4).tail2.tail2
          have HE := row_end (sticky_qArm _) HR HN2 HT2 (by rw [HK.out]; exact Nat.le_refl _) hle2 (.inl HK.out)
          exact ⟨⟨{ X with subsA := a, subsN := k, subsC := cap, armedA := c, armedN := j, armedC := dap }, L, R⟩, s6, rfl, Lib.hid ⟨⟨HX.out.1.1, ⟨HLL.out.symm, HQ2.out.1⟩, ⟨HR.out.1.symm, HE.out.1⟩⟩, by rw [HE.out.2.1, HQ2.out.2.1, HX.out.2.1]; rfl, (HX.out.2.2.trans HQ2.out.2.2).trans HE.out.2.2⟩, St.pack2 _ _ hS⟩

set_option maxHeartbeats 8000000 in
theorem rGetRequest_st {w0 w : World} {l : List Thing} (S : ByteArray) (hf : bfits S.size) (h : St w0 w l) :
    Calls Tryz.prog 23 #[.string S] w (GetG Req.cells Req.fine Req.things (qReq S.data.toList) Req.bytes Req.zero S w0 l) := by
  have hS := (h.box1 #[.int .i64 0, .int .i64 0, .string ⟨#[]⟩, .string ⟨#[]⟩, .slice none 0 0, .int .i64 0, .int .i64 0, .bool false, .slice none 0 0, .slice none 0 0] 30).box1 #[.string S, .int .i64 0, .int .i64 0] 96
  rw [World.size_alloc] at hS
  have HF := Lib.hid hf
  clear h hf
  go_enter Tryz.func23, Tryz.ntmps23
  go_wp2_with fail
  generalize (w.alloc (.cells #[.int .i64 0, .int .i64 0, .string ⟨#[]⟩, .string ⟨#[]⟩, .slice none 0 0, .int .i64 0, .int .i64 0, .bool false, .slice none 0 0, .slice none 0 0] 30)).alloc (.cells #[.string S, .int .i64 0, .int .i64 0] 96) = W at *
  generalize w.heap.size = rb at *
  have hS := hS.asDr 0 S HF.out rfl
  simp only [List.set_cons_zero] at hS
  refine (rTakeRequest_st hS).mono ?_
  clear hS
  rintro e w1 ⟨x, s', rfl, HX, hS⟩
  have HS := Lib.hid (hS.box2 #[.int .i64 0, .int .i64 0, .string ⟨#[]⟩, .string ⟨#[]⟩, .slice none 0 0, .int .i64 0, .int .i64 0, .bool false, .slice none 0 0, .slice none 0 0] 30)
  have hok := hS.dok 0 rfl
  have HOK := Lib.hid hok
  clear hS hok
  go_wp2_with ((with_reducible refine at_list ?_); refine wpList_store_whole 10 sizeOp w1.heap.size rfl _ _ (HS.out.box 1 rfl) rfl x.cells rfl rfl (by kernel_rfl) ?_; intro w2 hg2 hM2 hz2)
  have hS := HS.out.rebox 1 rfl hg2 hM2
  simp only [List.set_cons_succ, List.set_cons_zero] at hS
  clear HS hg2 hM2 hz2
  generalize w1.heap.size = tb at *
  refine (dend_st hS 0 rfl).mono ?_
  clear hS
  rintro e w3 ⟨rfl, hS⟩
  simp only [List.set_cons_zero] at hS
  have HS := Lib.hid hS
  clear hS
  by_cases hq : (rend S.data.toList s').wr = 0
  · have HQ := Lib.hid hq
    obtain ⟨z, hz⟩ : ∃ z, (rend S.data.toList s').wr = z := ⟨_, rfl⟩
    rw [hz] at hq ⊢
    subst hq
    clear hz
    go_wp2_with (first | ((with_reducible refine at_list ?_); refine wpList_load_chunk 10 _ Tryz.underlying30 rfl sizeOp ⟨tb, 0, none⟩ rfl x.cells rfl (box_chunk (HS.out.box 1 rfl)) ?_) | ((with_reducible refine at_list ?_); refine wpList_store_whole 10 sizeOp rb rfl _ _ (HS.out.box 3 rfl) rfl x.cells rfl rfl (by kernel_rfl) ?_; intro w5 hg5 hM5 hz5))
    refine bodyPost_ret (results_cell_tmp rfl _ w5 rb _ _ _ _ rfl hg5 Tryz.underlying30 rfl sizeOp) rfl ?_
    exact ⟨x, 0, rfl, Lib.hid ⟨HX.out.1, .inl ⟨rfl, by rw [← HX.out.2.1]; exact HQ.out, rel_start HX.out.2.2 HOK.out HQ.out⟩⟩, (HS.out.rebox 3 rfl hg5 hM5).tail.tail.tail2⟩
  · have hb : ((rend S.data.toList s').wr == 0) = false := by simpa using hq
    have HQ := Lib.hid hq
    clear hq
    generalize (rend S.data.toList s').wr = z at hb ⊢
    go_wp2_with ((with_reducible refine at_list ?_); refine wpList_store_whole 10 sizeOp rb rfl _ _ (HS.out.box 3 rfl) rfl Req.zero.cells rfl rfl (by kernel_rfl) ?_; intro w5 hg5 hM5 hz5)
    refine bodyPost_ret (results_cell_tmp rfl _ w5 rb _ _ _ _ rfl hg5 Tryz.underlying30 rfl sizeOp) rfl ?_
    exact ⟨Req.zero, 120, rfl, Lib.hid ⟨Req.zero_fine, .inr ⟨rfl, by rw [← HX.out.2.1]; exact HQ.out, rfl⟩⟩, Req.zero_st (HS.out.rebox 3 rfl hg5 hM5).tail.tail.tail.tail⟩
end Go.Proofs.YtmbkbkfcbloafaaGreat
