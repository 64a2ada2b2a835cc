/-
  Requests and replies taken up by package wire.
  No condition: every law states its own.
-/
import Derived.Test.YtmbkbkfcbloafabWireV3
import Derived.Test.YtmbkbkfcbloafabWireN4
import Derived.Test.YtmbkbkfcbloafabWireO2
namespace Go.Proofs.Ytmbkbkfcbloafab
open Go.RowKit
set_option linter.unusedSectionVars false
set_option linter.unusedSimpArgs false
set_option linter.unusedVariables false
set_option maxRecDepth 100000

set_option maxHeartbeats 8000000 in
theorem takeReply_st {w0 w : World} {l : List Thing} {pb : Nat} {bs : List UInt8} {s : RS} (h : St w0 w (rdt pb bs s :: l)) :
    Calls Try.prog 32 #[.pointer (some ⟨pb, 0, none⟩)] w (TkG (fun x => Value.agg (Rep.cells x).toArray) Rep.fine Rep.things (qRep bs) Rep.bytes w0 pb bs s l) := by
  have hS := h.box2 #[.int .i64 0, .int .i64 0, .int .i64 0, .string ⟨#[]⟩, .string ⟨#[]⟩, .int .i64 0, .int .i64 0, .int .i64 0, .int .i64 0, .int .i64 0, .int .i64 0, .int .i64 0, .int .i64 0, .int .i64 0, .slice none 0 0, .slice none 0 0, .slice none 0 0] 53
  clear h
  go_enter Try.func32, Try.ntmps32
  go_wp2_with fail
  generalize w.alloc (.cells #[.int .i64 0, .int .i64 0, .int .i64 0, .string ⟨#[]⟩, .string ⟨#[]⟩, .int .i64 0, .int .i64 0, .int .i64 0, .int .i64 0, .int .i64 0, .int .i64 0, .int .i64 0, .int .i64 0, .int .i64 0, .slice none 0 0, .slice none 0 0, .slice none 0 0] 53) = W at *
  generalize w.heap.size = rb at *
  refine (takeAnswer_st hS).mono ?_
  clear hS
  rintro e w1 ⟨t, s1, rfl, H1, hS⟩
  have HS := Lib.hid (hS.box2 #[.int .i64 0, .int .i64 0, .int .i64 0, .string ⟨#[]⟩, .string ⟨#[]⟩, .int .i64 0, .int .i64 0, .int .i64 0, .int .i64 0, .int .i64 0, .int .i64 0, .int .i64 0, .int .i64 0, .int .i64 0, .slice none 0 0, .slice none 0 0, .slice none 0 0] 53)
  clear hS
  simp only [Ans.cells]
  go_wp2_with ((with_reducible refine at_list ?_); refine wpList_store_whole 17 sizeAns w1.heap.size rfl _ _ (HS.out.box 1 rfl) rfl [.int .i64 t.xid, .int .i64 t.zxid, .int .i64 t.err, .string t.path, .string t.data, .int .i64 t.s0, .int .i64 t.s1, .int .i64 t.s2, .int .i64 t.s3, .int .i64 t.s4, .int .i64 t.s5, .int .i64 t.s6, .int .i64 t.s7, .int .i64 t.s8, .slice t.aclA t.acl.length t.aclC, .slice t.kidsA t.kids.length t.kidsC, .slice t.subsA t.subsN t.subsC] rfl rfl (by kernel_rfl) ?_; intro w2 hg2 hM2 hz2)
  have hS := HS.out.rebox 1 rfl hg2 hM2
  simp only [List.set_cons_succ, List.set_cons_zero] at hS
  clear HS hg2 hM2 hz2
  generalize w1.heap.size = tb at *
  refine (rowsAns_st hS).mono ?_
  clear hS
  rintro e w3 ⟨L, a, cap, s2, rfl, H2, hS⟩
  have c0 := blk_cell (hS.box 3 rfl) 16 _ rfl
  have f0 := blk_free (hS.box 3 rfl) 16
  have z0 := heap_lt (hS.box 3 rfl)
  have hS := hS.set 3 rfl 16 (.slice a L.length cap)
  have hS : St w0 (w3.setCell ⟨tb, 16, none⟩ (.slice a L.length cap)) (rdt pb bs s2 :: sl 53 17 a L.length cap (L.flatMap Ans.cells) :: grp (L.map fun x => grp (Ans.things x)) :: bx tb #[.int .i64 t.xid, .int .i64 t.zxid, .int .i64 t.err, .string t.path, .string t.data, .int .i64 t.s0, .int .i64 t.s1, .int .i64 t.s2, .int .i64 t.s3, .int .i64 t.s4, .int .i64 t.s5, .int .i64 t.s6, .int .i64 t.s7, .int .i64 t.s8, .slice t.aclA t.acl.length t.aclC, .slice t.kidsA t.kids.length t.kidsC, .slice a L.length cap] 53 :: grp (Ans.things t) :: bx rb #[.int .i64 0, .int .i64 0, .int .i64 0, .string ⟨#[]⟩, .string ⟨#[]⟩, .int .i64 0, .int .i64 0, .int .i64 0, .int .i64 0, .int .i64 0, .int .i64 0, .int .i64 0, .int .i64 0, .int .i64 0, .slice none 0 0, .slice none 0 0, .slice none 0 0] 53 :: l) := hS
  have z1 := heap_lt (hS.box 5 rfl)
  have HS := Lib.hid hS
  clear hS
  go_wp2_with (first | ((with_reducible refine at_list ?_); refine wpList_load_chunk 17 _ Try.underlying53 rfl sizeAns ⟨tb, 0, none⟩ rfl [.int .i64 t.xid, .int .i64 t.zxid, .int .i64 t.err, .string t.path, .string t.data, .int .i64 t.s0, .int .i64 t.s1, .int .i64 t.s2, .int .i64 t.s3, .int .i64 t.s4, .int .i64 t.s5, .int .i64 t.s6, .int .i64 t.s7, .int .i64 t.s8, .slice t.aclA t.acl.length t.aclC, .slice t.kidsA t.kids.length t.kidsC, .slice a L.length cap] rfl (box_chunk (cs := [.int .i64 t.xid, .int .i64 t.zxid, .int .i64 t.err, .string t.path, .string t.data, .int .i64 t.s0, .int .i64 t.s1, .int .i64 t.s2, .int .i64 t.s3, .int .i64 t.s4, .int .i64 t.s5, .int .i64 t.s6, .int .i64 t.s7, .int .i64 t.s8, .slice t.aclA t.acl.length t.aclC, .slice t.kidsA t.kids.length t.kidsC, .slice a L.length cap]) (HS.out.box 3 rfl)) ?_) | ((with_reducible refine at_list ?_); refine wpList_store_whole 17 sizeAns rb rfl _ _ (HS.out.box 5 rfl) rfl [.int .i64 t.xid, .int .i64 t.zxid, .int .i64 t.err, .string t.path, .string t.data, .int .i64 t.s0, .int .i64 t.s1, .int .i64 t.s2, .int .i64 t.s3, .int .i64 t.s4, .int .i64 t.s5, .int .i64 t.s6, .int .i64 t.s7, .int .i64 t.s8, .slice t.aclA t.acl.length t.aclC, .slice t.kidsA t.kids.length t.kidsC, .slice a L.length cap] rfl rfl (by kernel_rfl) ?_; intro w30 hg4 hM4 hz4))
  refine bodyPost_ret (results_cell rfl _ w30 rb _ _ _ _ rfl hg4 Try.underlying53 rfl sizeAns) rfl ?_
  have hS : St w0 w30 (rdt pb bs s2 :: sl 53 17 a L.length cap (L.flatMap Ans.cells) :: grp (L.map fun x => grp (Ans.things x)) :: bx tb _ _ :: grp (Ans.things t) :: bx rb _ _ :: l) := HS.out.rebox 5 rfl hg4 hM4
  have hS : St w0 w30 (bx tb _ _ :: bx rb _ _ :: rdt pb bs s2 :: sl 53 17 a L.length cap (L.flatMap Ans.cells) :: grp (L.map fun x => grp (Ans.things x)) :: grp (Ans.things t) :: l) := hS.perm (by
    refine (List.perm_append_comm_assoc [_, _, _] [_] (_ :: _ :: l)).trans (.cons _ ?_)
    exact List.perm_append_comm_assoc [_, _, _, _] [_] l)
  refine ⟨⟨{ t with subsA := a, subsN := L.length, subsC := cap }, L⟩, s2, rfl, Lib.hid ⟨⟨H1.out.1, ⟨rfl, H2.out.1⟩⟩, by rw [H2.out.2.1, H1.out.2.1]; rfl, ?_⟩, ?_⟩
  · exact H1.out.2.2.trans H2.out.2.2
  · exact St.pack _ _ hS.tail.tail

set_option maxHeartbeats 8000000 in
theorem getReply_st {w0 w : World} {l : List Thing} (S : ByteArray) (hf : bfits S.size) (h : St w0 w l) :
    Calls Try.prog 31 #[.string S, .func (.func 32) #[] #[]] w (GetG Rep.cells Rep.fine Rep.things (qRep S.data.toList) Rep.bytes Rep.zero S w0 l) := by
  have hS := h.box1 #[.int .i64 0, .int .i64 0, .int .i64 0, .string ⟨#[]⟩, .string ⟨#[]⟩, .int .i64 0, .int .i64 0, .int .i64 0, .int .i64 0, .int .i64 0, .int .i64 0, .int .i64 0, .int .i64 0, .int .i64 0, .slice none 0 0, .slice none 0 0, .slice none 0 0] 53
  have HF := Lib.hid hf
  clear h hf
  go_enter Try.func31, Try.ntmps31
  go_wp2_with fail
  generalize w.alloc (.cells #[.int .i64 0, .int .i64 0, .int .i64 0, .string ⟨#[]⟩, .string ⟨#[]⟩, .int .i64 0, .int .i64 0, .int .i64 0, .int .i64 0, .int .i64 0, .int .i64 0, .int .i64 0, .int .i64 0, .int .i64 0, .slice none 0 0, .slice none 0 0, .slice none 0 0] 53) = W at *
  generalize w.heap.size = rb at *
  refine (rread_st hS S HF.out).mono ?_
  clear hS
  rintro e w9 ⟨pb, rfl, hS⟩
  go_wp2_with fail
  refine (takeReply_st hS).mono ?_
  clear hS
  rintro e w1 ⟨x, s', rfl, HX, hS⟩
  have HS := Lib.hid (hS.box2 #[.int .i64 0, .int .i64 0, .int .i64 0, .string ⟨#[]⟩, .string ⟨#[]⟩, .int .i64 0, .int .i64 0, .int .i64 0, .int .i64 0, .int .i64 0, .int .i64 0, .int .i64 0, .int .i64 0, .int .i64 0, .slice none 0 0, .slice none 0 0, .slice none 0 0] 53)
  have hok := (hS.rok 0 rfl).1
  have HOK := Lib.hid hok
  clear hS hok
  go_wp2_with ((with_reducible refine at_list ?_); refine wpList_store_whole 17 sizeAns w1.heap.size rfl _ _ (HS.out.box 1 rfl) rfl x.cells rfl rfl (by kernel_rfl) ?_; intro w2 hg2 hM2 hz2)
  have hS := HS.out.rebox 1 rfl hg2 hM2
  simp only [List.set_cons_succ, List.set_cons_zero] at hS
  clear HS hg2 hM2 hz2
  generalize w1.heap.size = tb at *
  refine (rend_st hS 0 rfl).mono ?_
  clear hS
  rintro e w3 ⟨rfl, hS⟩
  simp only [List.set_cons_zero] at hS
  have HS := Lib.hid hS
  clear hS
  by_cases hq : (rend S.data.toList s').wr = 0
  · have HQ := Lib.hid hq
    obtain ⟨z, hz⟩ : ∃ z, (rend S.data.toList s').wr = z := ⟨_, rfl⟩
    rw [hz] at hq ⊢
    subst hq
    clear hz
    go_wp2_with (first | ((with_reducible refine at_list ?_); refine wpList_load_chunk 17 _ Try.underlying53 rfl sizeAns ⟨tb, 0, none⟩ rfl x.cells rfl (box_chunk (HS.out.box 1 rfl)) ?_) | ((with_reducible refine at_list ?_); refine wpList_store_whole 17 sizeAns rb rfl _ _ (HS.out.box 3 rfl) rfl x.cells rfl rfl (by kernel_rfl) ?_; intro w5 hg5 hM5 hz5))
    refine bodyPost_ret (results_cell_tmp rfl _ w5 rb _ _ _ _ rfl hg5 Try.underlying53 rfl sizeAns) rfl ?_
    exact ⟨x, 0, rfl, Lib.hid ⟨HX.out.1, .inl ⟨rfl, by rw [← HX.out.2.1]; exact HQ.out, rel_start HX.out.2.2 HOK.out HQ.out⟩⟩, (HS.out.rebox 3 rfl hg5 hM5).tail.tail.tail2⟩
  · have hb : ((rend S.data.toList s').wr == 0) = false := by simpa using hq
    have HQ := Lib.hid hq
    clear hq
    generalize (rend S.data.toList s').wr = z at hb ⊢
    have HS2 := Lib.hid (HS.out.box2 #[.int .i64 0, .int .i64 0, .int .i64 0, .string ⟨#[]⟩, .string ⟨#[]⟩, .int .i64 0, .int .i64 0, .int .i64 0, .int .i64 0, .int .i64 0, .int .i64 0, .int .i64 0, .int .i64 0, .int .i64 0, .slice none 0 0, .slice none 0 0, .slice none 0 0] 53)
    clear HS
    go_wp2_with (first | ((with_reducible refine at_list ?_); refine wpList_load_chunk 17 _ Try.underlying53 rfl sizeAns ⟨w3.heap.size, 0, none⟩ rfl Rep.zero.cells rfl (box_chunk (HS2.out.box 1 rfl)) ?_) | ((with_reducible refine at_list ?_); refine wpList_store_whole 17 sizeAns rb rfl _ _ (HS2.out.box 4 rfl) rfl Rep.zero.cells rfl rfl (by kernel_rfl) ?_; intro w5 hg5 hM5 hz5))
    refine bodyPost_ret (results_cell_tmp rfl _ w5 rb _ _ _ _ rfl hg5 Try.underlying53 rfl sizeAns) rfl ?_
    exact ⟨Rep.zero, 120, rfl, Lib.hid ⟨Rep.zero_fine, .inr ⟨rfl, by rw [← HX.out.2.1]; exact HQ.out, rfl⟩⟩, Rep.zero_st (HS2.out.rebox 4 rfl hg5 hM5).tail.tail.tail.tail.tail⟩

set_option maxHeartbeats 4000000 in
theorem GetReply_st {w0 w : World} {l : List Thing} (S : ByteArray) (hf : bfits S.size) (h : St w0 w l) :
    Calls Try.prog 12 #[.string S] w (GetG Rep.cells Rep.fine Rep.things (qRep S.data.toList) Rep.bytes Rep.zero S w0 l) := by
  have hS := h.box1 #[.int .i64 0, .int .i64 0, .int .i64 0, .string ⟨#[]⟩, .string ⟨#[]⟩, .int .i64 0, .int .i64 0, .int .i64 0, .int .i64 0, .int .i64 0, .int .i64 0, .int .i64 0, .int .i64 0, .int .i64 0, .slice none 0 0, .slice none 0 0, .slice none 0 0] 53
  have HF := Lib.hid hf
  clear h hf
  go_enter Try.func12, Try.ntmps12
  go_wp2_with fail
  generalize w.alloc (.cells #[.int .i64 0, .int .i64 0, .int .i64 0, .string ⟨#[]⟩, .string ⟨#[]⟩, .int .i64 0, .int .i64 0, .int .i64 0, .int .i64 0, .int .i64 0, .int .i64 0, .int .i64 0, .int .i64 0, .int .i64 0, .slice none 0 0, .slice none 0 0, .slice none 0 0] 53) = W at *
  generalize w.heap.size = rb at *
  refine (getReply_st S HF.out hS).mono ?_
  clear hS
  rintro e w1 ⟨x, E, rfl, HX, hS⟩
  have HS := Lib.hid hS
  clear hS
  go_wp2_with ((with_reducible refine at_list ?_); refine wpList_store_whole 17 sizeAns rb rfl _ _ (HS.out.box 1 rfl) rfl x.cells rfl rfl (by kernel_rfl) ?_; intro w2 hg2 hM2 hz2)
  refine bodyPost_ret (results_cell_tmp rfl _ w2 rb _ _ _ _ rfl hg2 Try.underlying53 rfl sizeAns) rfl ?_
  exact ⟨x, E, rfl, HX, (HS.out.rebox 1 rfl hg2 hM2).tail2⟩
end Go.Proofs.Ytmbkbkfcbloafab
