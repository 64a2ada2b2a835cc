/-
  Replies taken up by the document.
  No condition: every law states its own.
-/
import Derived.Test.YtmbkbkfcbloafaaGreatWireV3
namespace Go.Proofs.YtmbkbkfcbloafaaGreat
open Go.RowKit
set_option linter.unusedSectionVars false
set_option linter.unusedSimpArgs false
set_option linter.unusedVariables false
set_option maxRecDepth 100000

set_option maxHeartbeats 16000000 in
theorem rGetReply_st {w0 w : World} {l : List Thing} (S : ByteArray) (hf : bfits S.size) (h : St w0 w l) :
    Calls Tryz.prog 26 #[.string S] w (GetG Rep.cells Rep.fine Rep.things (qRep S.data.toList) Rep.bytes Rep.zero S w0 l) := by
  obtain ⟨ip, iz, hi1, hi2, hi3, hi4, hi5⟩ := info_row infoAns
  have HI := Lib.hid (And.intro hi1 (And.intro hi2 (And.intro hi3 (And.intro hi4 hi5))))
  have hS := (h.box1 #[.int .i64 0, .int .i64 0, .int .i64 0, .string ⟨#[]⟩, .string ⟨#[]⟩, .int .i64 0, .int .i64 0, .int .i64 0, .int .i64 0, .int .i64 0, .int .i64 0, .int .i64 0, .int .i64 0, .int .i64 0, .slice none 0 0, .slice none 0 0, .slice none 0 0] 70).box1 #[.string S, .int .i64 0, .int .i64 0] 96
  rw [World.size_alloc] at hS
  have HF := Lib.hid hf
  clear h hf hi1 hi2 hi3 hi4 hi5
  go_enter Tryz.func26, Tryz.ntmps26
  go_wp2_with fail
  generalize (w.alloc (.cells #[.int .i64 0, .int .i64 0, .int .i64 0, .string ⟨#[]⟩, .string ⟨#[]⟩, .int .i64 0, .int .i64 0, .int .i64 0, .int .i64 0, .int .i64 0, .int .i64 0, .int .i64 0, .int .i64 0, .int .i64 0, .slice none 0 0, .slice none 0 0, .slice none 0 0] 70)).alloc (.cells #[.string S, .int .i64 0, .int .i64 0] 96) = W at *
  generalize w.heap.size = rb at *
  have hS := hS.asDr 0 S HF.out rfl
  simp only [List.set_cons_zero] at hS
  refine (rtakeAnswer_st hS).mono ?_
  clear hS
  rintro e w1 ⟨X, s1, rfl, HX, hS⟩
  have hS : St w0 w1 (drt (rb + 1) S s1 :: bx rb #[.int .i64 0, .int .i64 0, .int .i64 0, .string ⟨#[]⟩, .string ⟨#[]⟩, .int .i64 0, .int .i64 0, .int .i64 0, .int .i64 0, .int .i64 0, .int .i64 0, .int .i64 0, .int .i64 0, .int .i64 0, .slice none 0 0, .slice none 0 0, .slice none 0 0] 70 :: grp (Ans.things X) :: l) := hS.perm (.cons _ (.swap _ _ _))
  have hS := hS.box2 #[.int .i64 0, .int .i64 0, .int .i64 0, .string ⟨#[]⟩, .string ⟨#[]⟩, .int .i64 0, .int .i64 0, .int .i64 0, .int .i64 0, .int .i64 0, .int .i64 0, .int .i64 0, .int .i64 0, .int .i64 0, .slice none 0 0, .slice none 0 0, .slice none 0 0] 70
  have HS := Lib.hid hS
  have hXs : Value.slice X.subsA X.subsN X.subsC = .slice none 0 0 := by rw [HX.out.1.2.1, HX.out.1.2.2.1, HX.out.1.2.2.2]
  simp only [Ans.cells, hXs]
  clear hS hXs
  go_wp2_with ((with_reducible refine at_list ?_); refine wpList_store_whole 17 sizeAns w1.heap.size rfl _ _ (HS.out.box 1 rfl) rfl [.int .i64 X.xid, .int .i64 X.zxid, .int .i64 X.err, .string X.path, .string X.data, .int .i64 X.s0, .int .i64 X.s1, .int .i64 X.s2, .int .i64 X.s3, .int .i64 X.s4, .int .i64 X.s5, .int .i64 X.s6, .int .i64 X.s7, .int .i64 X.s8, .slice X.aclA X.acl.length X.aclC, .slice X.kidsA X.kids.length X.kidsC, .slice none 0 0] rfl rfl (by kernel_rfl) ?_; intro w2 hg2 hM2 hz2)
  have hS := HS.out.rebox 1 rfl hg2 hM2
  simp only [List.set_cons_succ, List.set_cons_zero] at hS
  clear HS hg2 hM2 hz2
  generalize w1.heap.size = tb at *
  refine (rcount2_st hS).mono ?_
  rintro e w3 ⟨rfl, hS3⟩
  have hle : (rcount S.data.toList 256 s1).1 ≤ 256 := (rcount_ok (most := 256) (hS.dok 0 rfl)).2
  obtain ⟨n, hn⟩ : ∃ n, (rcount S.data.toList 256 s1).1 = n := ⟨_, rfl⟩
  obtain ⟨s2, hs2⟩ : ∃ s2, (rcount S.data.toList 256 s1).2 = s2 := ⟨_, rfl⟩
  rw [hn] at hle ⊢
  rw [hs2] at hS3
  have hS4 : St w0 w3 (drt (rb + 1) S s2 :: bx tb #[.int .i64 X.xid, .int .i64 X.zxid, .int .i64 X.err, .string X.path, .string X.data, .int .i64 X.s0, .int .i64 X.s1, .int .i64 X.s2, .int .i64 X.s3, .int .i64 X.s4, .int .i64 X.s5, .int .i64 X.s6, .int .i64 X.s7, .int .i64 X.s8, .slice X.aclA X.acl.length X.aclC, .slice X.kidsA X.kids.length X.kidsC, .slice none 0 0] 70 :: bx rb #[.int .i64 0, .int .i64 0, .int .i64 0, .string ⟨#[]⟩, .string ⟨#[]⟩, .int .i64 0, .int .i64 0, .int .i64 0, .int .i64 0, .int .i64 0, .int .i64 0, .int .i64 0, .int .i64 0, .int .i64 0, .slice none 0 0, .slice none 0 0, .slice none 0 0] 70 :: sl 70 17 none 0 0 [] :: grp [] :: grp (Ans.things X) :: l) := St.rowStartN [_, _] _ hS3 70 17
  have HN := Lib.hid hn
  have HT := Lib.hid hs2
  have HS := Lib.hid hS4
  clear hn hs2 hS hS3 hS4
  go_wp2
  go_loopg [7, 8] n (fun g y kp wr => ∃ (k : Nat) (L : List Ans) (a : Option Addr) (cap : Nat) (s' : RS), k + g = n ∧ y = .int .i64 k ∧ Hid (L.length = k ∧ (∀ x ∈ L, Ans.fine x) ∧ s' = iter (qAns S.data.toList) s2 k ∧ Rel S.data.toList s2 s' (L.flatMap Ans.bytes)) ∧ St w0 wr (drt (rb + 1) S s' :: bx tb #[.int .i64 X.xid, .int .i64 X.zxid, .int .i64 X.err, .string X.path, .string X.data, .int .i64 X.s0, .int .i64 X.s1, .int .i64 X.s2, .int .i64 X.s3, .int .i64 X.s4, .int .i64 X.s5, .int .i64 X.s6, .int .i64 X.s7, .int .i64 X.s8, .slice X.aclA X.acl.length X.aclC, .slice X.kidsA X.kids.length X.kidsC, .slice a k cap] 70 :: bx rb #[.int .i64 0, .int .i64 0, .int .i64 0, .string ⟨#[]⟩, .string ⟨#[]⟩, .int .i64 0, .int .i64 0, .int .i64 0, .int .i64 0, .int .i64 0, .int .i64 0, .int .i64 0, .int .i64 0, .int .i64 0, .slice none 0 0, .slice none 0 0, .slice none 0 0] 70 :: sl 70 17 a k cap (L.flatMap Ans.cells) :: grp (L.map fun x => grp (Ans.things x)) :: grp (Ans.things X) :: l))
  case atStart => exact ⟨0, [], none, 0, s2, by omega, rfl, Lib.hid ⟨rfl, fun _ h => absurd h List.not_mem_nil, rfl, Rel.refl⟩, HS.out⟩
  case round =>
    obtain ⟨k, L, a, cap, s', hkg, rfl, HL, hS⟩ := hrel
    clear HS
    have ce := hS.dwr 0 rfl
    have ze := hS.dlt 0 rfl
    by_cases hlt : k < n
    · by_cases hw : s'.wr = 0
      · rw [hw] at ce
        have HS0 := Lib.hid hS
        clear hS
        go_wp2_with fail
        refine (rtakeAnswer_st HS0.out).mono ?_
        clear HS0 ce ze
        rintro e w4 ⟨t, s3, rfl, HQ, hS⟩
        have HS4 := Lib.hid (hS.box2 #[.int .i64 0, .int .i64 0, .int .i64 0, .string ⟨#[]⟩, .string ⟨#[]⟩, .int .i64 0, .int .i64 0, .int .i64 0, .int .i64 0, .int .i64 0, .int .i64 0, .int .i64 0, .int .i64 0, .int .i64 0, .slice none 0 0, .slice none 0 0, .slice none 0 0] 70)
        simp only [Ans.cells]
        clear hS
        go_wp2_with (first
          | ((with_reducible refine at_list ?_); refine wpList_store_whole 17 sizeAns w4.heap.size rfl _ _ (HS4.out.box 1 rfl) rfl [.int .i64 t.xid, .int .i64 t.zxid, .int .i64 t.err, .string t.path, .string t.data, .int .i64 t.s0, .int .i64 t.s1, .int .i64 t.s2, .int .i64 t.s3, .int .i64 t.s4, .int .i64 t.s5, .int .i64 t.s6, .int .i64 t.s7, .int .i64 t.s8, .slice t.aclA t.acl.length t.aclC, .slice t.kidsA t.kids.length t.kidsC, .slice t.subsA t.subsN t.subsC] rfl rfl (by kernel_rfl) ?_; intro w5 hg5 hM5 hz5; have hS5 := HS4.out.rebox 1 rfl hg5 hM5; simp only [List.set_cons_succ, List.set_cons_zero] at hS5; have c7 := blk_cell (hS5.box 3 rfl) 16 _ rfl; have z7 := heap_lt (hS5.box 3 rfl); have HS5 := Lib.hid hS5; have HS6 := Lib.hid (hS5.slice1 #[.int .i64 t.xid, .int .i64 t.zxid, .int .i64 t.err, .string t.path, .string t.data, .int .i64 t.s0, .int .i64 t.s1, .int .i64 t.s2, .int .i64 t.s3, .int .i64 t.s4, .int .i64 t.s5, .int .i64 t.s6, .int .i64 t.s7, .int .i64 t.s8, .slice t.aclA t.acl.length t.aclC, .slice t.kidsA t.kids.length t.kidsC, .slice t.subsA t.subsN t.subsC] 70 17 1 rfl (by unfold maxLen; omega)); clear hg5 hM5 hz5 hS5 HS4)
          | ((with_reducible refine at_list ?_); refine wpList_load_chunk 17 _ Tryz.underlying70 rfl sizeAns ⟨w4.heap.size, 0, none⟩ rfl [.int .i64 t.xid, .int .i64 t.zxid, .int .i64 t.err, .string t.path, .string t.data, .int .i64 t.s0, .int .i64 t.s1, .int .i64 t.s2, .int .i64 t.s3, .int .i64 t.s4, .int .i64 t.s5, .int .i64 t.s6, .int .i64 t.s7, .int .i64 t.s8, .slice t.aclA t.acl.length t.aclC, .slice t.kidsA t.kids.length t.kidsC, .slice t.subsA t.subsN t.subsC] rfl (box_chunk (cs := [.int .i64 t.xid, .int .i64 t.zxid, .int .i64 t.err, .string t.path, .string t.data, .int .i64 t.s0, .int .i64 t.s1, .int .i64 t.s2, .int .i64 t.s3, .int .i64 t.s4, .int .i64 t.s5, .int .i64 t.s6, .int .i64 t.s7, .int .i64 t.s8, .slice t.aclA t.acl.length t.aclC, .slice t.kidsA t.kids.length t.kidsC, .slice t.subsA t.subsN t.subsC]) (HS5.out.box 1 rfl)) ?_)
          | (at_builtin; refine wpList_append 70 ip iz 17 200 (by kernel_rfl) HI.out.1 HI.out.2.1 HI.out.2.2.1 HI.out.2.2.2.1 HI.out.2.2.2.2 a k cap (L.flatMap Ans.cells) rfl (HS6.out.slice 6 rfl) (some ⟨w5.heap.size, 0, none⟩) 1 1 t.cells rfl (HS6.out.slice 0 rfl).rd (Ans.one t) (by unfold maxLen; omega) (by omega) ?_; intro a6 cap6 w6 hS6 hM6 hF6 hN6 hR6; have hSA := (HS6.out.regrow 6 rfl hS6 hM6 hF6).tail; have c0 := blk_cell (hSA.box 3 rfl) 16 _ rfl; have f0 := blk_free (hSA.box 3 rfl) 16; have z0 := heap_lt (hSA.box 3 rfl); have HSA := Lib.hid hSA; clear hN6 hR6 hSA hS6 hM6 hF6 c7 z7 HS6 HS5))
        go_roundg (gk - 1)
        case measure => omega
        case rel =>
          refine ⟨k + 1, L ++ [t], a6, cap6, s3, by omega, by rw [Int.natCast_add]; rfl, Lib.hid ⟨by rw [List.length_append, HL.out.1]; rfl, list_snoc_all HL.out.2.1 HQ.out.1.1, HQ.out.2.1.trans (congrArg _ HL.out.2.2.1), by rw [flat_snoc]; exact HL.out.2.2.2.trans HQ.out.2.2⟩, ?_⟩
          rw [flat_snoc, List.map_append]
          have hS := HSA.out.set 3 rfl 16 (.slice a6 (k + 1) cap6)
          exact St.absorbN [_, _, _] _ _ hS
      · obtain ⟨z, hz⟩ : ∃ z, s'.wr = z := ⟨_, rfl⟩
        rw [hz] at ce
        have hzb : (z == 0) = false := by rw [← hz]; simpa using hw
        have HW := Lib.hid hw
        clear hw hz
        have HE := row_end (sticky_qAns _) HL HN HT (by omega) hle (.inr HW.out)
        have HQS : Hid (s' = qRep S.data.toList ⟨0, 0⟩ ∧ Rel S.data.toList ⟨0, 0⟩ s' (Rep.bytes (⟨{ X with subsA := a, subsN := k, subsC := cap }, L⟩ : Rep))) := Lib.hid ⟨by rw [HE.out.2.1, HX.out.2.1]; rfl, HX.out.2.2.trans HE.out.2.2⟩
        have HLL : Hid (L.length = k) := Lib.hid HL.out.1
        have hok := hS.dok 0 rfl
        have HOK := Lib.hid hok
        have HS0 := Lib.hid hS
        clear hok hS
        go_wp2_with fail
        refine (dend_st HS0.out 0 rfl).mono ?_
        clear HS0 ce ze
        rintro e w7 ⟨rfl, hS⟩
        simp only [List.set_cons_zero] at hS
        have HS := Lib.hid hS
        clear hS
        by_cases hq : (rend S.data.toList s').wr = 0
        · have HQ := Lib.hid hq
          obtain ⟨zz, hzz⟩ : ∃ z, (rend S.data.toList s').wr = z := ⟨_, rfl⟩
          rw [hzz] at hq ⊢
          subst hq
          clear hzz
          go_wp2_with (first | ((with_reducible refine at_list ?_); refine wpList_load_chunk 17 _ Tryz.underlying70 rfl sizeAns ⟨tb, 0, none⟩ rfl [.int .i64 X.xid, .int .i64 X.zxid, .int .i64 X.err, .string X.path, .string X.data, .int .i64 X.s0, .int .i64 X.s1, .int .i64 X.s2, .int .i64 X.s3, .int .i64 X.s4, .int .i64 X.s5, .int .i64 X.s6, .int .i64 X.s7, .int .i64 X.s8, .slice X.aclA X.acl.length X.aclC, .slice X.kidsA X.kids.length X.kidsC, .slice a k cap] rfl (box_chunk (cs := [.int .i64 X.xid, .int .i64 X.zxid, .int .i64 X.err, .string X.path, .string X.data, .int .i64 X.s0, .int .i64 X.s1, .int .i64 X.s2, .int .i64 X.s3, .int .i64 X.s4, .int .i64 X.s5, .int .i64 X.s6, .int .i64 X.s7, .int .i64 X.s8, .slice X.aclA X.acl.length X.aclC, .slice X.kidsA X.kids.length X.kidsC, .slice a k cap]) (HS.out.box 1 rfl)) ?_) | ((with_reducible refine at_list ?_); refine wpList_store_whole 17 sizeAns rb rfl _ _ (HS.out.box 2 rfl) rfl [.int .i64 X.xid, .int .i64 X.zxid, .int .i64 X.err, .string X.path, .string X.data, .int .i64 X.s0, .int .i64 X.s1, .int .i64 X.s2, .int .i64 X.s3, .int .i64 X.s4, .int .i64 X.s5, .int .i64 X.s6, .int .i64 X.s7, .int .i64 X.s8, .slice X.aclA X.acl.length X.aclC, .slice X.kidsA X.kids.length X.kidsC, .slice a k cap] rfl rfl (by kernel_rfl) ?_; intro w9 hg9 hM9 hz9))
          refine bodyPost_ret (results_cell_tmp rfl _ w9 rb _ _ _ _ rfl hg9 Tryz.underlying70 rfl sizeAns) rfl ?_
          have hS : St w0 w9 (drt (rb + 1) S (rend S.data.toList s') :: bx tb _ _ :: bx rb _ _ :: sl 70 17 a k cap (L.flatMap Ans.cells) :: grp (L.map fun x => grp (Ans.things x)) :: grp (Ans.things X) :: l) := HS.out.rebox 2 rfl hg9 hM9
          exact ⟨⟨{ X with subsA := a, subsN := k, subsC := cap }, L⟩, 0, rfl, Lib.hid ⟨⟨HX.out.1.1, ⟨HLL.out.symm, HE.out.1⟩⟩, .inl ⟨rfl, by rw [← HQS.out.1]; exact HQ.out, rel_start HQS.out.2 HOK.out HQ.out⟩⟩, (St.pack _ _ hS.tail2.tail2).tail⟩
        · have hb : ((rend S.data.toList s').wr == 0) = false := by simpa using hq
          have HQ := Lib.hid hq
          clear hq
          generalize (rend S.data.toList s').wr = zz at hb ⊢
          go_wp2_with ((with_reducible refine at_list ?_); refine wpList_store_whole 17 sizeAns rb rfl _ _ (HS.out.box 2 rfl) rfl Rep.zero.cells rfl rfl (by kernel_rfl) ?_; intro w9 hg9 hM9 hz9)
          refine bodyPost_ret (results_cell_tmp rfl _ w9 rb _ _ _ _ rfl hg9 Tryz.underlying70 rfl sizeAns) rfl ?_
          exact ⟨Rep.zero, 120, rfl, Lib.hid ⟨Rep.zero_fine, .inr ⟨rfl, by rw [← HQS.out.1]; exact HQ.out, rfl⟩⟩, Rep.zero_st (HS.out.rebox 2 rfl hg9 hM9).tail.tail.tail.tail.tail.tail⟩
    · have hk : k = n := by omega
      have HK := Lib.hid hk
      clear hkg hk
      have HE := row_end (sticky_qAns _) HL HN HT (by rw [HK.out]; exact Nat.le_refl _) hle (.inl HK.out)
      have HQS : Hid (s' = qRep S.data.toList ⟨0, 0⟩ ∧ Rel S.data.toList ⟨0, 0⟩ s' (Rep.bytes (⟨{ X with subsA := a, subsN := k, subsC := cap }, L⟩ : Rep))) := Lib.hid ⟨by rw [HE.out.2.1, HX.out.2.1]; rfl, HX.out.2.2.trans HE.out.2.2⟩
      have HLL : Hid (L.length = k) := Lib.hid HL.out.1
      have hok := hS.dok 0 rfl
      have HOK := Lib.hid hok
      have HS0 := Lib.hid hS
      clear hok hS
      go_wp2_with fail
      refine (dend_st HS0.out 0 rfl).mono ?_
      clear HS0 ce ze
      rintro e w7 ⟨rfl, hS⟩
      simp only [List.set_cons_zero] at hS
      have HS := Lib.hid hS
      clear hS
      by_cases hq : (rend S.data.toList s').wr = 0
      · have HQ := Lib.hid hq
        obtain ⟨zz, hzz⟩ : ∃ z, (rend S.data.toList s').wr = z := ⟨_, rfl⟩
        rw [hzz] at hq ⊢
        subst hq
        clear hzz
        go_wp2_with (first | ((with_reducible refine at_list ?_); refine wpList_load_chunk 17 _ Tryz.underlying70 rfl sizeAns ⟨tb, 0, none⟩ rfl [.int .i64 X.xid, .int .i64 X.zxid, .int .i64 X.err, .string X.path, .string X.data, .int .i64 X.s0, .int .i64 X.s1, .int .i64 X.s2, .int .i64 X.s3, .int .i64 X.s4, .int .i64 X.s5, .int .i64 X.s6, .int .i64 X.s7, .int .i64 X.s8, .slice X.aclA X.acl.length X.aclC, .slice X.kidsA X.kids.length X.kidsC, .slice a k cap] rfl (box_chunk (cs := [.int .i64 X.xid, .int .i64 X.zxid, .int .i64 X.err, .string X.path, .string X.data, .int .i64 X.s0, .int .i64 X.s1, .int .i64 X.s2, .int .i64 X.s3, .int .i64 X.s4, .int .i64 X.s5, .int .i64 X.s6, .int .i64 X.s7, .int .i64 X.s8, .slice X.aclA X.acl.length X.aclC, .slice X.kidsA X.kids.length X.kidsC, .slice a k cap]) (HS.out.box 1 rfl)) ?_) | ((with_reducible refine at_list ?_); refine wpList_store_whole 17 sizeAns rb rfl _ _ (HS.out.box 2 rfl) rfl [.int .i64 X.xid, .int .i64 X.zxid, .int .i64 X.err, .string X.path, .string X.data, .int .i64 X.s0, .int .i64 X.s1, .int .i64 X.s2, .int .i64 X.s3, .int .i64 X.s4, .int .i64 X.s5, .int .i64 X.s6, .int .i64 X.s7, .int .i64 X.s8, .slice X.aclA X.acl.length X.aclC, .slice X.kidsA X.kids.length X.kidsC, .slice a k cap] rfl rfl (by kernel_rfl) ?_; intro w9 hg9 hM9 hz9))
        refine bodyPost_ret (results_cell_tmp rfl _ w9 rb _ _ _ _ rfl hg9 Tryz.underlying70 rfl sizeAns) rfl ?_
        have hS : St w0 w9 (drt (rb + 1) S (rend S.data.toList s') :: bx tb _ _ :: bx rb _ _ :: sl 70 17 a k cap (L.flatMap Ans.cells) :: grp (L.map fun x => grp (Ans.things x)) :: grp (Ans.things X) :: l) := HS.out.rebox 2 rfl hg9 hM9
        exact ⟨⟨{ X with subsA := a, subsN := k, subsC := cap }, L⟩, 0, rfl, Lib.hid ⟨⟨HX.out.1.1, ⟨HLL.out.symm, HE.out.1⟩⟩, .inl ⟨rfl, by rw [← HQS.out.1]; exact HQ.out, rel_start HQS.out.2 HOK.out HQ.out⟩⟩, (St.pack _ _ hS.tail2.tail2).tail⟩
      · have hb : ((rend S.data.toList s').wr == 0) = false := by simpa using hq
        have HQ := Lib.hid hq
        clear hq
        generalize (rend S.data.toList s').wr = zz at hb ⊢
        go_wp2_with ((with_reducible refine at_list ?_); refine wpList_store_whole 17 sizeAns rb rfl _ _ (HS.out.box 2 rfl) rfl Rep.zero.cells rfl rfl (by kernel_rfl) ?_; intro w9 hg9 hM9 hz9)
        refine bodyPost_ret (results_cell_tmp rfl _ w9 rb _ _ _ _ rfl hg9 Tryz.underlying70 rfl sizeAns) rfl ?_
        exact ⟨Rep.zero, 120, rfl, Lib.hid ⟨Rep.zero_fine, .inr ⟨rfl, by rw [← HQS.out.1]; exact HQ.out, rfl⟩⟩, Rep.zero_st (HS.out.rebox 2 rfl hg9 hM9).tail.tail.tail.tail.tail.tail⟩
end Go.Proofs.YtmbkbkfcbloafaaGreat
