/-
  Entries taken up.
  No condition: every law states its own.
-/
import Derived.Test.YtmbkbkfcbloafabWireY
import Derived.Test.YtmbkbkfcbloafabJwire
import Derived.Test.YtmbkbkfcbloafabWireO
import Derived.StillTailTactics
namespace Go.Proofs.Ytmbkbkfcbloafab
open Go.RowKit
set_option linter.unusedSectionVars false
set_option linter.unusedSimpArgs false
set_option linter.unusedVariables false
set_option maxRecDepth 100000

set_option maxHeartbeats 8000000 in
theorem takeEntry_st {w0 w : World} {l : List Thing} {pb : Nat} {bs : List UInt8} {s : RS} (h : St w0 w (rdt pb bs s :: l)) :
    Calls Try.prog 28 #[.pointer (some ⟨pb, 0, none⟩)] w (TkG (fun x => Value.agg (Ent.cells x).toArray) Ent.fine Ent.things (qEnt bs) Ent.bytes w0 pb bs s l) := by
  have hS := (h.box2 #[.int .i64 0, .int .i64 0, .int .i64 0, .int .i64 0, .string ⟨#[]⟩, .string ⟨#[]⟩, .slice none 0 0, .int .i64 0, .int .i64 0, .int .i64 0, .slice none 0 0] 28).box2 #[.int .i64 0, .int .i64 0, .int .i64 0, .int .i64 0, .string ⟨#[]⟩, .string ⟨#[]⟩, .slice none 0 0, .int .i64 0, .int .i64 0, .int .i64 0, .slice none 0 0] 28
  simp only [World.size_alloc] at hS
  have hz0 : ((w.alloc (.cells #[.int .i64 0, .int .i64 0, .int .i64 0, .int .i64 0, .string ⟨#[]⟩, .string ⟨#[]⟩, .slice none 0 0, .int .i64 0, .int .i64 0, .int .i64 0, .slice none 0 0] 28)).alloc (.cells #[.int .i64 0, .int .i64 0, .int .i64 0, .int .i64 0, .string ⟨#[]⟩, .string ⟨#[]⟩, .slice none 0 0, .int .i64 0, .int .i64 0, .int .i64 0, .slice none 0 0] 28)).heap.size = w.heap.size + 1 + 1 := by simp only [World.size_alloc]
  clear h
  go_enter Try.func28, Try.ntmps28
  go_wp2_with fail
  generalize (w.alloc (.cells #[.int .i64 0, .int .i64 0, .int .i64 0, .int .i64 0, .string ⟨#[]⟩, .string ⟨#[]⟩, .slice none 0 0, .int .i64 0, .int .i64 0, .int .i64 0, .slice none 0 0] 28)).alloc (.cells #[.int .i64 0, .int .i64 0, .int .i64 0, .int .i64 0, .string ⟨#[]⟩, .string ⟨#[]⟩, .slice none 0 0, .int .i64 0, .int .i64 0, .int .i64 0, .slice none 0 0] 28) = W at *
  generalize w.heap.size = rb at *
  have hS := hS.slice2 #[.pointer (some ⟨rb + 1, 0, none⟩), .pointer (some ⟨rb + 1, 1, none⟩), .pointer (some ⟨rb + 1, 2, none⟩)] 118 1 3 rfl (by unfold maxLen; omega)
  rw [hz0] at hS
  refine (into_st (l := bx rb #[.int .i64 0, .int .i64 0, .int .i64 0, .int .i64 0, .string ⟨#[]⟩, .string ⟨#[]⟩, .slice none 0 0, .int .i64 0, .int .i64 0, .int .i64 0, .slice none 0 0] 28 :: l) [⟨rb + 1, #[.int .i64 0, .int .i64 0, .int .i64 0, .int .i64 0, .string ⟨#[]⟩, .string ⟨#[]⟩, .slice none 0 0, .int .i64 0, .int .i64 0, .int .i64 0, .slice none 0 0], 28⟩] [(0, 0), (0, 1), (0, 2)] hS rfl (by intro p hp; simp only [List.mem_cons, List.not_mem_nil, or_false] at hp; rcases hp with rfl | rfl | rfl <;> exact ⟨_, rfl, by simp⟩) (by omega)).mono ?_
  have hok := (hS.rok 0 rfl).1
  have KH1 : (i64 (rv bs s 0) ∧ i64 (rv bs s 1) ∧ i64 (rv bs s 2)) ∧ rs bs s 3 = rs bs s 3 ∧ Rel bs s (rs bs s 3) (numsB [rv bs s 0, rv bs s 1, rv bs s 2]) := ⟨⟨rv_i64 hok 0, rv_i64 hok 1, rv_i64 hok 2⟩, rfl, rel_nums 3⟩
  clear hS hok hz0
  rintro e w1 ⟨rfl, hS⟩
  have hS : St w0 w1 (rdt pb bs (rs bs s 3) :: sl 118 1 (some ⟨rb + 1 + 1, 0, none⟩) 3 3 #[.pointer (some ⟨rb + 1, 0, none⟩), .pointer (some ⟨rb + 1, 1, none⟩), .pointer (some ⟨rb + 1, 2, none⟩)].toList :: bx (rb + 1) #[.int .i64 (rv bs s 0), .int .i64 (rv bs s 1), .int .i64 (rv bs s 2), .int .i64 0, .string ⟨#[]⟩, .string ⟨#[]⟩, .slice none 0 0, .int .i64 0, .int .i64 0, .int .i64 0, .slice none 0 0] 28 :: bx rb #[.int .i64 0, .int .i64 0, .int .i64 0, .int .i64 0, .string ⟨#[]⟩, .string ⟨#[]⟩, .slice none 0 0, .int .i64 0, .int .i64 0, .int .i64 0, .slice none 0 0] 28 :: l) := hS
  have hS := hS.tail2
  generalize rv bs s 0 = zxid_ at hS KH1
  generalize rv bs s 1 = session_ at hS KH1
  generalize rv bs s 2 = xid_ at hS KH1
  obtain ⟨s1, hs1⟩ : ∃ x, x = rs bs s 3 := ⟨_, rfl⟩
  rw [← hs1] at hS
  have H1 : Hid ((i64 zxid_ ∧ i64 session_ ∧ i64 xid_) ∧ s1 = rs bs s 3 ∧ Rel bs s s1 (numsB [zxid_, session_, xid_])) := by rw [← hs1] at KH1; exact Lib.hid ⟨KH1.1, hs1, KH1.2.2⟩
  clear hs1 KH1
  go_wp2_with fail
  refine (takePart_st hS).mono ?_
  clear hS
  rintro e w2 ⟨t, s2, rfl, H2, hS⟩
  have HS := Lib.hid hS
  clear hS
  simp only [Txn.cells]
  go_wp2_with ((with_reducible refine at_list ?_); refine wpList_store_chunk 8 sizeTxn (rb + 1) 3 rfl _ _ (HS.out.box 2 rfl) (.agg [.int .i64 t.kind, .string t.path, .string t.data, .slice t.aclA t.acl.length t.aclC, .int .i64 t.owner, .int .i64 t.number, .int .i64 t.err, .slice t.subsA t.subsN t.subsC].toArray) rfl [.int .i64 t.kind, .string t.path, .string t.data, .slice t.aclA t.acl.length t.aclC, .int .i64 t.owner, .int .i64 t.number, .int .i64 t.err, .slice t.subsA t.subsN t.subsC] rfl rfl (by show 3 + 8 ≤ 11; omega) (by intro u hu; simp only [List.mem_cons, List.not_mem_nil, or_false] at hu; rcases hu with rfl | rfl | rfl | rfl | rfl | rfl | rfl | rfl <;> rfl) ?_; intro w3 hg9 hM9 hz9)
  have hg9 : w3.heap[rb + 1]? = some (.cells #[.int .i64 zxid_, .int .i64 session_, .int .i64 xid_, .int .i64 t.kind, .string t.path, .string t.data, .slice t.aclA t.acl.length t.aclC, .int .i64 t.owner, .int .i64 t.number, .int .i64 t.err, .slice t.subsA t.subsN t.subsC] 28 (0, 0)) := hg9
  have hS := HS.out.rebox 2 rfl hg9 hM9
  have hS : St w0 w3 (rdt pb bs s2 :: grp (Txn.things t) :: bx (rb + 1) #[.int .i64 zxid_, .int .i64 session_, .int .i64 xid_, .int .i64 t.kind, .string t.path, .string t.data, .slice t.aclA t.acl.length t.aclC, .int .i64 t.owner, .int .i64 t.number, .int .i64 t.err, .slice t.subsA t.subsN t.subsC] 28 :: bx rb #[.int .i64 0, .int .i64 0, .int .i64 0, .int .i64 0, .string ⟨#[]⟩, .string ⟨#[]⟩, .slice none 0 0, .int .i64 0, .int .i64 0, .int .i64 0, .slice none 0 0] 28 :: l) := hS
  clear HS hg9 hM9 hz9
  refine (rowsTxn_st hS).mono ?_
  clear hS
  rintro e w4 ⟨L, a, cap, s3, rfl, H3, hS⟩
  have c0 := blk_cell (hS.box 4 rfl) 10 _ rfl
  have f0 := blk_free (hS.box 4 rfl) 10
  have z0 := heap_lt (hS.box 4 rfl)
  have hS := hS.set 4 rfl 10 (.slice a L.length cap)
  have hS : St w0 (w4.setCell ⟨rb + 1, 10, none⟩ (.slice a L.length cap)) (rdt pb bs s3 :: sl 26 8 a L.length cap (L.flatMap Txn.cells) :: grp (L.map fun x => grp (Txn.things x)) :: grp (Txn.things t) :: bx (rb + 1) #[.int .i64 zxid_, .int .i64 session_, .int .i64 xid_, .int .i64 t.kind, .string t.path, .string t.data, .slice t.aclA t.acl.length t.aclC, .int .i64 t.owner, .int .i64 t.number, .int .i64 t.err, .slice a L.length cap] 28 :: bx rb #[.int .i64 0, .int .i64 0, .int .i64 0, .int .i64 0, .string ⟨#[]⟩, .string ⟨#[]⟩, .slice none 0 0, .int .i64 0, .int .i64 0, .int .i64 0, .slice none 0 0] 28 :: l) := hS
  have z1 := heap_lt (hS.box 5 rfl)
  have HS := Lib.hid hS
  clear hS
  go_wp2_with (first | ((with_reducible refine at_list ?_); refine wpList_load_chunk 11 _ Try.underlying28 rfl sizeEnt ⟨rb + 1, 0, none⟩ rfl [.int .i64 zxid_, .int .i64 session_, .int .i64 xid_, .int .i64 t.kind, .string t.path, .string t.data, .slice t.aclA t.acl.length t.aclC, .int .i64 t.owner, .int .i64 t.number, .int .i64 t.err, .slice a L.length cap] rfl (box_chunk (cs := [.int .i64 zxid_, .int .i64 session_, .int .i64 xid_, .int .i64 t.kind, .string t.path, .string t.data, .slice t.aclA t.acl.length t.aclC, .int .i64 t.owner, .int .i64 t.number, .int .i64 t.err, .slice a L.length cap]) (HS.out.box 4 rfl)) ?_) | ((with_reducible refine at_list ?_); refine wpList_store_whole 11 sizeEnt rb rfl _ _ (HS.out.box 5 rfl) rfl [.int .i64 zxid_, .int .i64 session_, .int .i64 xid_, .int .i64 t.kind, .string t.path, .string t.data, .slice t.aclA t.acl.length t.aclC, .int .i64 t.owner, .int .i64 t.number, .int .i64 t.err, .slice a L.length cap] rfl rfl (by kernel_rfl) ?_; intro w30 hg4 hM4 hz4))
  refine bodyPost_ret (results_cell rfl _ w30 rb _ _ _ _ rfl hg4 Try.underlying28 rfl sizeEnt) rfl ?_
  have hS := HS.out.rebox 5 rfl hg4 hM4
  have hS : St w0 w30 (rdt pb bs s3 :: sl 26 8 a L.length cap (L.flatMap Txn.cells) :: grp (L.map fun x => grp (Txn.things x)) :: grp (Txn.things t) :: bx (rb + 1) _ _ :: bx rb _ _ :: l) := hS
  refine ⟨⟨zxid_, session_, xid_, { t with subsA := a, subsN := L.length, subsC := cap }, L⟩, s3, rfl, Lib.hid ⟨⟨H1.out.1, H2.out.1, rfl, H3.out.1⟩, by rw [H3.out.2.1, H2.out.2.1, H1.out.2.1]; rfl, ?_⟩, ?_⟩
  · exact (H1.out.2.2.trans H2.out.2.2).trans H3.out.2.2
  · exact (St.pack _ _ hS).drop2

set_option maxHeartbeats 8000000 in
theorem getEntry_st {w0 w : World} {l : List Thing} (S : ByteArray) (hf : bfits S.size) (h : St w0 w l) :
    Calls Try.prog 27 #[.string S, .func (.func 28) #[] #[]] w (GetG Ent.cells Ent.fine Ent.things (qEnt S.data.toList) Ent.bytes Ent.zero S w0 l) := by
  have hS := h.box1 #[.int .i64 0, .int .i64 0, .int .i64 0, .int .i64 0, .string ⟨#[]⟩, .string ⟨#[]⟩, .slice none 0 0, .int .i64 0, .int .i64 0, .int .i64 0, .slice none 0 0] 28
  have HF := Lib.hid hf
  clear h hf
  go_enter Try.func27, Try.ntmps27
  go_wp2_with fail
  generalize w.alloc (.cells #[.int .i64 0, .int .i64 0, .int .i64 0, .int .i64 0, .string ⟨#[]⟩, .string ⟨#[]⟩, .slice none 0 0, .int .i64 0, .int .i64 0, .int .i64 0, .slice none 0 0] 28) = W at *
  generalize w.heap.size = rb at *
  refine (rread_st hS S HF.out).mono ?_
  clear hS
  rintro e w9 ⟨pb, rfl, hS⟩
  go_wp2_with fail
  refine (takeEntry_st hS).mono ?_
  clear hS
  rintro e w1 ⟨x, s', rfl, HX, hS⟩
  have HS := Lib.hid (hS.box2 #[.int .i64 0, .int .i64 0, .int .i64 0, .int .i64 0, .string ⟨#[]⟩, .string ⟨#[]⟩, .slice none 0 0, .int .i64 0, .int .i64 0, .int .i64 0, .slice none 0 0] 28)
  have hok := (hS.rok 0 rfl).1
  have HOK := Lib.hid hok
  clear hS hok
  go_wp2_with ((with_reducible refine at_list ?_); refine wpList_store_whole 11 sizeEnt w1.heap.size rfl _ _ (HS.out.box 1 rfl) rfl x.cells rfl rfl (by kernel_rfl) ?_; intro w2 hg2 hM2 hz2)
  have hS := HS.out.rebox 1 rfl hg2 hM2
  simp only [List.set_cons_succ, List.set_cons_zero] at hS
  clear HS hg2 hM2 hz2
  generalize w1.heap.size = tb at *
  refine (rend_st hS 0 rfl).mono ?_
  clear hS
  rintro e w3 ⟨rfl, hS⟩
  simp only [List.set_cons_zero] at hS
  have HS := Lib.hid hS
  clear hS
  by_cases hq : (rend S.data.toList s').wr = 0
  · have HQ := Lib.hid hq
    obtain ⟨z, hz⟩ : ∃ z, (rend S.data.toList s').wr = z := ⟨_, rfl⟩
    rw [hz] at hq ⊢
    subst hq
    clear hz
    go_wp2_with (first | ((with_reducible refine at_list ?_); refine wpList_load_chunk 11 _ Try.underlying28 rfl sizeEnt ⟨tb, 0, none⟩ rfl x.cells rfl (box_chunk (HS.out.box 1 rfl)) ?_) | ((with_reducible refine at_list ?_); refine wpList_store_whole 11 sizeEnt rb rfl _ _ (HS.out.box 3 rfl) rfl x.cells rfl rfl (by kernel_rfl) ?_; intro w5 hg5 hM5 hz5))
    refine bodyPost_ret (results_cell_tmp rfl _ w5 rb _ _ _ _ rfl hg5 Try.underlying28 rfl sizeEnt) rfl ?_
    exact ⟨x, 0, rfl, Lib.hid ⟨HX.out.1, .inl ⟨rfl, by rw [← HX.out.2.1]; exact HQ.out, rel_start HX.out.2.2 HOK.out HQ.out⟩⟩, (HS.out.rebox 3 rfl hg5 hM5).tail.tail.tail2⟩
  · have hb : ((rend S.data.toList s').wr == 0) = false := by simpa using hq
    have HQ := Lib.hid hq
    clear hq
    generalize (rend S.data.toList s').wr = z at hb ⊢
    have HS2 := Lib.hid (HS.out.box2 #[.int .i64 0, .int .i64 0, .int .i64 0, .int .i64 0, .string ⟨#[]⟩, .string ⟨#[]⟩, .slice none 0 0, .int .i64 0, .int .i64 0, .int .i64 0, .slice none 0 0] 28)
    clear HS
    go_wp2_with (first | ((with_reducible refine at_list ?_); refine wpList_load_chunk 11 _ Try.underlying28 rfl sizeEnt ⟨w3.heap.size, 0, none⟩ rfl Ent.zero.cells rfl (box_chunk (HS2.out.box 1 rfl)) ?_) | ((with_reducible refine at_list ?_); refine wpList_store_whole 11 sizeEnt rb rfl _ _ (HS2.out.box 4 rfl) rfl Ent.zero.cells rfl rfl (by kernel_rfl) ?_; intro w5 hg5 hM5 hz5))
    refine bodyPost_ret (results_cell_tmp rfl _ w5 rb _ _ _ _ rfl hg5 Try.underlying28 rfl sizeEnt) rfl ?_
    exact ⟨Ent.zero, 120, rfl, Lib.hid ⟨Ent.zero_fine, .inr ⟨rfl, by rw [← HX.out.2.1]; exact HQ.out, rfl⟩⟩, Ent.zero_st (HS2.out.rebox 4 rfl hg5 hM5).tail.tail.tail.tail.tail⟩

set_option maxHeartbeats 4000000 in
theorem GetEntry_st {w0 w : World} {l : List Thing} (S : ByteArray) (hf : bfits S.size) (h : St w0 w l) :
    Calls Try.prog 10 #[.string S] w (GetG Ent.cells Ent.fine Ent.things (qEnt S.data.toList) Ent.bytes Ent.zero S w0 l) := by
  have hS := h.box1 #[.int .i64 0, .int .i64 0, .int .i64 0, .int .i64 0, .string ⟨#[]⟩, .string ⟨#[]⟩, .slice none 0 0, .int .i64 0, .int .i64 0, .int .i64 0, .slice none 0 0] 28
  have HF := Lib.hid hf
  clear h hf
  go_enter Try.func10, Try.ntmps10
  go_wp2_with fail
  generalize w.alloc (.cells #[.int .i64 0, .int .i64 0, .int .i64 0, .int .i64 0, .string ⟨#[]⟩, .string ⟨#[]⟩, .slice none 0 0, .int .i64 0, .int .i64 0, .int .i64 0, .slice none 0 0] 28) = W at *
  generalize w.heap.size = rb at *
  refine (getEntry_st S HF.out hS).mono ?_
  clear hS
  rintro e w1 ⟨x, E, rfl, HX, hS⟩
  have HS := Lib.hid hS
  clear hS
  go_wp2_with ((with_reducible refine at_list ?_); refine wpList_store_whole 11 sizeEnt rb rfl _ _ (HS.out.box 1 rfl) rfl x.cells rfl rfl (by kernel_rfl) ?_; intro w2 hg2 hM2 hz2)
  refine bodyPost_ret (results_cell_tmp rfl _ w2 rb _ _ _ _ rfl hg2 Try.underlying28 rfl sizeEnt) rfl ?_
  exact ⟨x, E, rfl, HX, (HS.out.rebox 1 rfl hg2 hM2).tail2⟩
end Go.Proofs.Ytmbkbkfcbloafab
