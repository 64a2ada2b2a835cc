/-
  Requests and replies taken up by package wire.
  No condition: every law states its own.
-/
import Derived.Test.YtmbkbkfcbloafabWireV3
import Derived.Test.YtmbkbkfcbloafabWireN2
namespace Go.Proofs.Ytmbkbkfcbloafab
open Go.RowKit
set_option linter.unusedSectionVars false
set_option linter.unusedSimpArgs false
set_option linter.unusedVariables false
set_option maxRecDepth 100000

/-! ### Requests -/
def Req.fine (x : Req) : Prop := Op.fine x.q ∧ (x.q.subsN = x.subs.length ∧ (∀ a ∈ x.subs, Op.fine a) ∧ x.subs.length ≤ 256) ∧ (x.q.armedN = x.armed.length ∧ (∀ a ∈ x.armed, Arm.fine a) ∧ x.armed.length ≤ 256)
def Req.things (x : Req) : List Thing := (Op.things x.q ++ [sl 34 10 x.q.subsA x.q.subsN x.q.subsC (x.subs.flatMap Op.cells), grp (x.subs.map fun x => grp (Op.things x))]) ++ [sl 130 5 x.q.armedA x.q.armedN x.q.armedC (x.armed.flatMap Arm.cells), grp (x.armed.map fun x => grp (Arm.things x))]
def Req.zero : Req := ⟨⟨0, 0, ⟨#[]⟩, ⟨#[]⟩, [], none, 0, 0, 0, false, none, 0, 0, none, 0, 0⟩, [], []⟩
theorem Req.zero_fine : Req.zero.fine := ⟨⟨by unfold i64 Req.zero; simp, by unfold i64 Req.zero; simp, by unfold i64 Req.zero; simp, by unfold i64 Req.zero; simp, ⟨fun a ha => absurd ha List.not_mem_nil, Nat.zero_le _⟩⟩, ⟨rfl, fun a ha => absurd ha List.not_mem_nil, Nat.zero_le _⟩, ⟨rfl, fun a ha => absurd ha List.not_mem_nil, Nat.zero_le _⟩⟩
theorem Req.zero_st {w0 w : World} {l : List Thing} (h : St w0 w l) : St w0 w (grp (Req.things Req.zero) :: l) :=
  St.regrp (Req.things Req.zero) ((((((h.grp0).nilSlice 130 5).grp0).nilSlice 34 10).grp0).nilSlice 146 2)

set_option maxHeartbeats 8000000 in
theorem takeRequest_st {w0 w : World} {l : List Thing} {pb : Nat} {bs : List UInt8} {s : RS} (h : St w0 w (rdt pb bs s :: l)) :
    Calls Try.prog 30 #[.pointer (some ⟨pb, 0, none⟩)] w (TkG (fun x => Value.agg (Req.cells x).toArray) Req.fine Req.things (qReq bs) Req.bytes w0 pb bs s l) := by
  have hS := h.box2 #[.int .i64 0, .int .i64 0, .string ⟨#[]⟩, .string ⟨#[]⟩, .slice none 0 0, .int .i64 0, .int .i64 0, .bool false, .slice none 0 0, .slice none 0 0] 34
  clear h
  go_enter Try.func30, Try.ntmps30
  go_wp2_with fail
  generalize w.alloc (.cells #[.int .i64 0, .int .i64 0, .string ⟨#[]⟩, .string ⟨#[]⟩, .slice none 0 0, .int .i64 0, .int .i64 0, .bool false, .slice none 0 0, .slice none 0 0] 34) = W at *
  generalize w.heap.size = rb at *
  refine (takeOp_st hS).mono ?_
  clear hS
  rintro e w1 ⟨t, s1, rfl, H1, hS⟩
  have HS := Lib.hid (hS.box2 #[.int .i64 0, .int .i64 0, .string ⟨#[]⟩, .string ⟨#[]⟩, .slice none 0 0, .int .i64 0, .int .i64 0, .bool false, .slice none 0 0, .slice none 0 0] 34)
  clear hS
  simp only [Op.cells]
  go_wp2_with ((with_reducible refine at_list ?_); refine wpList_store_whole 10 sizeOp w1.heap.size rfl _ _ (HS.out.box 1 rfl) rfl [.int .i64 t.kind, .int .i64 t.xid, .string t.path, .string t.data, .slice t.aclA t.acl.length t.aclC, .int .i64 t.flags, .int .i64 t.version, .bool t.watch, .slice t.subsA t.subsN t.subsC, .slice t.armedA t.armedN t.armedC] rfl rfl (by kernel_rfl) ?_; intro w2 hg2 hM2 hz2)
  have hS := HS.out.rebox 1 rfl hg2 hM2
  simp only [List.set_cons_succ, List.set_cons_zero] at hS
  clear HS hg2 hM2 hz2
  generalize w1.heap.size = tb at *
  refine (rowsOp_st hS).mono ?_
  clear hS
  rintro e w3 ⟨L, a, cap, s2, rfl, H2, hS⟩
  have c0 := blk_cell (hS.box 3 rfl) 8 _ rfl
  have f0 := blk_free (hS.box 3 rfl) 8
  have z0 := heap_lt (hS.box 3 rfl)
  have hS := hS.set 3 rfl 8 (.slice a L.length cap)
  have hS : St w0 (w3.setCell ⟨tb, 8, none⟩ (.slice a L.length cap)) (rdt pb bs s2 :: sl 34 10 a L.length cap (L.flatMap Op.cells) :: grp (L.map fun x => grp (Op.things x)) :: bx tb #[.int .i64 t.kind, .int .i64 t.xid, .string t.path, .string t.data, .slice t.aclA t.acl.length t.aclC, .int .i64 t.flags, .int .i64 t.version, .bool t.watch, .slice a L.length cap, .slice t.armedA t.armedN t.armedC] 34 :: grp (Op.things t) :: bx rb #[.int .i64 0, .int .i64 0, .string ⟨#[]⟩, .string ⟨#[]⟩, .slice none 0 0, .int .i64 0, .int .i64 0, .bool false, .slice none 0 0, .slice none 0 0] 34 :: l) := hS
  go_wp2_with fail
  refine (rowsArm_st hS).mono ?_
  clear hS c0 f0 z0
  rintro e w4 ⟨R, c, dap, s3, rfl, H3, hS⟩
  have c0 := blk_cell (hS.box 5 rfl) 9 _ rfl
  have f0 := blk_free (hS.box 5 rfl) 9
  have z0 := heap_lt (hS.box 5 rfl)
  have hS := hS.set 5 rfl 9 (.slice c R.length dap)
  have hS : St w0 (w4.setCell ⟨tb, 9, none⟩ (.slice c R.length dap)) (rdt pb bs s3 :: sl 130 5 c R.length dap (R.flatMap Arm.cells) :: grp (R.map fun x => grp (Arm.things x)) :: sl 34 10 a L.length cap (L.flatMap Op.cells) :: grp (L.map fun x => grp (Op.things x)) :: bx tb #[.int .i64 t.kind, .int .i64 t.xid, .string t.path, .string t.data, .slice t.aclA t.acl.length t.aclC, .int .i64 t.flags, .int .i64 t.version, .bool t.watch, .slice a L.length cap, .slice c R.length dap] 34 :: grp (Op.things t) :: bx rb #[.int .i64 0, .int .i64 0, .string ⟨#[]⟩, .string ⟨#[]⟩, .slice none 0 0, .int .i64 0, .int .i64 0, .bool false, .slice none 0 0, .slice none 0 0] 34 :: l) := hS
  have z1 := heap_lt (hS.box 7 rfl)
  have HS := Lib.hid hS
  clear hS
  go_wp2_with (first | ((with_reducible refine at_list ?_); refine wpList_load_chunk 10 _ Try.underlying34 rfl sizeOp ⟨tb, 0, none⟩ rfl [.int .i64 t.kind, .int .i64 t.xid, .string t.path, .string t.data, .slice t.aclA t.acl.length t.aclC, .int .i64 t.flags, .int .i64 t.version, .bool t.watch, .slice a L.length cap, .slice c R.length dap] rfl (box_chunk (cs := [.int .i64 t.kind, .int .i64 t.xid, .string t.path, .string t.data, .slice t.aclA t.acl.length t.aclC, .int .i64 t.flags, .int .i64 t.version, .bool t.watch, .slice a L.length cap, .slice c R.length dap]) (HS.out.box 5 rfl)) ?_) | ((with_reducible refine at_list ?_); refine wpList_store_whole 10 sizeOp rb rfl _ _ (HS.out.box 7 rfl) rfl [.int .i64 t.kind, .int .i64 t.xid, .string t.path, .string t.data, .slice t.aclA t.acl.length t.aclC, .int .i64 t.flags, .int .i64 t.version, .bool t.watch, .slice a L.length cap, .slice c R.length dap] rfl rfl (by kernel_rfl) ?_; intro w30 hg4 hM4 hz4))
  refine bodyPost_ret (results_cell rfl _ w30 rb _ _ _ _ rfl hg4 Try.underlying34 rfl sizeOp) rfl ?_
  have hS : St w0 w30 (rdt pb bs s3 :: sl 130 5 c R.length dap (R.flatMap Arm.cells) :: grp (R.map fun x => grp (Arm.things x)) :: sl 34 10 a L.length cap (L.flatMap Op.cells) :: grp (L.map fun x => grp (Op.things x)) :: bx tb _ _ :: grp (Op.things t) :: bx rb _ _ :: l) := HS.out.rebox 7 rfl hg4 hM4
  have hS : St w0 w30 (bx tb _ _ :: bx rb _ _ :: rdt pb bs s3 :: sl 130 5 c R.length dap (R.flatMap Arm.cells) :: grp (R.map fun x => grp (Arm.things x)) :: sl 34 10 a L.length cap (L.flatMap Op.cells) :: grp (L.map fun x => grp (Op.things x)) :: grp (Op.things t) :: l) := hS.perm (by
    refine (List.perm_append_comm_assoc [_, _, _, _, _] [_] (_ :: _ :: l)).trans (.cons _ ?_)
    exact List.perm_append_comm_assoc [_, _, _, _, _, _] [_] l)
  refine ⟨⟨{ t with subsA := a, subsN := L.length, subsC := cap, armedA := c, armedN := R.length, armedC := dap }, L, R⟩, s3, rfl, Lib.hid ⟨⟨H1.out.1, ⟨rfl, H2.out.1⟩, ⟨rfl, H3.out.1⟩⟩, by rw [H3.out.2.1, H2.out.2.1, H1.out.2.1]; rfl, ?_⟩, ?_⟩
  · exact (H1.out.2.2.trans H2.out.2.2).trans H3.out.2.2
  · exact St.pack2 _ _ hS.tail.tail

set_option maxHeartbeats 8000000 in
theorem getRequest_st {w0 w : World} {l : List Thing} (S : ByteArray) (hf : bfits S.size) (h : St w0 w l) :
    Calls Try.prog 29 #[.string S, .func (.func 30) #[] #[]] w (GetG Req.cells Req.fine Req.things (qReq S.data.toList) Req.bytes Req.zero S w0 l) := by
  have hS := h.box1 #[.int .i64 0, .int .i64 0, .string ⟨#[]⟩, .string ⟨#[]⟩, .slice none 0 0, .int .i64 0, .int .i64 0, .bool false, .slice none 0 0, .slice none 0 0] 34
  have HF := Lib.hid hf
  clear h hf
  go_enter Try.func29, Try.ntmps29
  go_wp2_with fail
  generalize w.alloc (.cells #[.int .i64 0, .int .i64 0, .string ⟨#[]⟩, .string ⟨#[]⟩, .slice none 0 0, .int .i64 0, .int .i64 0, .bool false, .slice none 0 0, .slice none 0 0] 34) = W at *
  generalize w.heap.size = rb at *
  refine (rread_st hS S HF.out).mono ?_
  clear hS
  rintro e w9 ⟨pb, rfl, hS⟩
  go_wp2_with fail
  refine (takeRequest_st hS).mono ?_
  clear hS
  rintro e w1 ⟨x, s', rfl, HX, hS⟩
  have HS := Lib.hid (hS.box2 #[.int .i64 0, .int .i64 0, .string ⟨#[]⟩, .string ⟨#[]⟩, .slice none 0 0, .int .i64 0, .int .i64 0, .bool false, .slice none 0 0, .slice none 0 0] 34)
  have hok := (hS.rok 0 rfl).1
  have HOK := Lib.hid hok
  clear hS hok
  go_wp2_with ((with_reducible refine at_list ?_); refine wpList_store_whole 10 sizeOp w1.heap.size rfl _ _ (HS.out.box 1 rfl) rfl x.cells rfl rfl (by kernel_rfl) ?_; intro w2 hg2 hM2 hz2)
  have hS := HS.out.rebox 1 rfl hg2 hM2
  simp only [List.set_cons_succ, List.set_cons_zero] at hS
  clear HS hg2 hM2 hz2
  generalize w1.heap.size = tb at *
  refine (rend_st hS 0 rfl).mono ?_
  clear hS
  rintro e w3 ⟨rfl, hS⟩
  simp only [List.set_cons_zero] at hS
  have HS := Lib.hid hS
  clear hS
  by_cases hq : (rend S.data.toList s').wr = 0
  · have HQ := Lib.hid hq
    obtain ⟨z, hz⟩ : ∃ z, (rend S.data.toList s').wr = z := ⟨_, rfl⟩
    rw [hz] at hq ⊢
    subst hq
    clear hz
    go_wp2_with (first | ((with_reducible refine at_list ?_); refine wpList_load_chunk 10 _ Try.underlying34 rfl sizeOp ⟨tb, 0, none⟩ rfl x.cells rfl (box_chunk (HS.out.box 1 rfl)) ?_) | ((with_reducible refine at_list ?_); refine wpList_store_whole 10 sizeOp rb rfl _ _ (HS.out.box 3 rfl) rfl x.cells rfl rfl (by kernel_rfl) ?_; intro w5 hg5 hM5 hz5))
    refine bodyPost_ret (results_cell_tmp rfl _ w5 rb _ _ _ _ rfl hg5 Try.underlying34 rfl sizeOp) rfl ?_
    exact ⟨x, 0, rfl, Lib.hid ⟨HX.out.1, .inl ⟨rfl, by rw [← HX.out.2.1]; exact HQ.out, rel_start HX.out.2.2 HOK.out HQ.out⟩⟩, (HS.out.rebox 3 rfl hg5 hM5).tail.tail.tail2⟩
  · have hb : ((rend S.data.toList s').wr == 0) = false := by simpa using hq
    have HQ := Lib.hid hq
    clear hq
    generalize (rend S.data.toList s').wr = z at hb ⊢
    have HS2 := Lib.hid (HS.out.box2 #[.int .i64 0, .int .i64 0, .string ⟨#[]⟩, .string ⟨#[]⟩, .slice none 0 0, .int .i64 0, .int .i64 0, .bool false, .slice none 0 0, .slice none 0 0] 34)
    clear HS
    go_wp2_with (first | ((with_reducible refine at_list ?_); refine wpList_load_chunk 10 _ Try.underlying34 rfl sizeOp ⟨w3.heap.size, 0, none⟩ rfl Req.zero.cells rfl (box_chunk (HS2.out.box 1 rfl)) ?_) | ((with_reducible refine at_list ?_); refine wpList_store_whole 10 sizeOp rb rfl _ _ (HS2.out.box 4 rfl) rfl Req.zero.cells rfl rfl (by kernel_rfl) ?_; intro w5 hg5 hM5 hz5))
    refine bodyPost_ret (results_cell_tmp rfl _ w5 rb _ _ _ _ rfl hg5 Try.underlying34 rfl sizeOp) rfl ?_
    exact ⟨Req.zero, 120, rfl, Lib.hid ⟨Req.zero_fine, .inr ⟨rfl, by rw [← HX.out.2.1]; exact HQ.out, rfl⟩⟩, Req.zero_st (HS2.out.rebox 4 rfl hg5 hM5).tail.tail.tail.tail.tail⟩

set_option maxHeartbeats 4000000 in
theorem GetRequest_st {w0 w : World} {l : List Thing} (S : ByteArray) (hf : bfits S.size) (h : St w0 w l) :
    Calls Try.prog 11 #[.string S] w (GetG Req.cells Req.fine Req.things (qReq S.data.toList) Req.bytes Req.zero S w0 l) := by
  have hS := h.box1 #[.int .i64 0, .int .i64 0, .string ⟨#[]⟩, .string ⟨#[]⟩, .slice none 0 0, .int .i64 0, .int .i64 0, .bool false, .slice none 0 0, .slice none 0 0] 34
  have HF := Lib.hid hf
  clear h hf
  go_enter Try.func11, Try.ntmps11
  go_wp2_with fail
  generalize w.alloc (.cells #[.int .i64 0, .int .i64 0, .string ⟨#[]⟩, .string ⟨#[]⟩, .slice none 0 0, .int .i64 0, .int .i64 0, .bool false, .slice none 0 0, .slice none 0 0] 34) = W at *
  generalize w.heap.size = rb at *
  refine (getRequest_st S HF.out hS).mono ?_
  clear hS
  rintro e w1 ⟨x, E, rfl, HX, hS⟩
  have HS := Lib.hid hS
  clear hS
  go_wp2_with ((with_reducible refine at_list ?_); refine wpList_store_whole 10 sizeOp rb rfl _ _ (HS.out.box 1 rfl) rfl x.cells rfl rfl (by kernel_rfl) ?_; intro w2 hg2 hM2 hz2)
  refine bodyPost_ret (results_cell_tmp rfl _ w2 rb _ _ _ _ rfl hg2 Try.underlying34 rfl sizeOp) rfl ?_
  exact ⟨x, E, rfl, HX, (HS.out.rebox 1 rfl hg2 hM2).tail2⟩
end Go.Proofs.Ytmbkbkfcbloafab
