/-
  Contracts and plain laws of WireY, WireZ, CodecV, WireUD, LedP.
  Conditions: each law states its own.
-/
import Derived.StillTailTactics
import Derived.Deep.RegionHeld3
import Derived.Deep.Cut
import Derived.Test.YtonnbkebjeoflaaGreatDoorJ4
import Derived.Test.YtonnbkebjeoflaaGreatDoorJ5
import Derived.Test.YtonnbkebjeoflaaGreatDoorJ6
import Derived.Test.YtonnbkebjeoflaaGreatDoorJ7
set_option linter.unusedSectionVars false
set_option linter.unusedSimpArgs false
set_option linter.unusedVariables false
set_option maxRecDepth 100000
namespace Go.Proofs.YtonnbkebjeoflaaGreatDoor.W
open Go.RowKit
theorem _root_.Go.Proofs.YtonnbkebjeoflaaGreatDoor.St.grp0 {w0 w : World} {l : List Thing} (h : St w0 w l) : St w0 w (grp [] :: l) := St.regrp [] h
theorem _root_.Go.Proofs.YtonnbkebjeoflaaGreatDoor.St.drop2 {w0 w : World} {a b c d : Thing} {l : List Thing} (h : St w0 w (a :: b :: c :: d :: l)) : St w0 w (a :: b :: l) :=
 (h.perm (List.perm_append_comm_assoc [a, b] [c, d] l)).tail.tail
def Ent.fine (x : Ent) : Prop := (i64 x.zxid ∧ i64 x.session ∧ i64 x.xid) ∧ TxnW.fine (x.t, x.subs)
def Ent.things (x : Ent) : List Thing := TxnW.things (x.t, x.subs)
def Ent.zero : Ent := ⟨0, 0, 0, ⟨0, ⟨#[]⟩, ⟨#[]⟩, [], none, 0, 0, 0, 0, none, 0, 0⟩, []⟩
theorem Ent.zero_fine : Ent.zero.fine := ⟨⟨by unfold i64 Ent.zero; simp, by unfold i64 Ent.zero; simp, by unfold i64 Ent.zero; simp⟩, ⟨by unfold i64 Ent.zero; simp, by unfold i64 Ent.zero; simp, by unfold i64 Ent.zero; simp, by unfold i64 Ent.zero; simp, ⟨fun a ha => absurd ha List.not_mem_nil, Nat.zero_le _⟩⟩, rfl, fun a ha => absurd ha List.not_mem_nil, Nat.zero_le _⟩
theorem Ent.zero_st {w0 w : World} {l : List Thing} (h : St w0 w l) : St w0 w (grp (Ent.things Ent.zero) :: l) :=
 St.regrp (Ent.things Ent.zero) (((((h.grp0).nilSlice 61 8).grp0).nilSlice 46 2))
def GetG {α : Type} (cells : α → List Value) (fine : α → Prop) (things : α → List Thing) (q : RS → RS) (bytes : α → List UInt8) (z : α) (S : ByteArray) (w0 : World) (l : List Thing) (e : Ending) (w' : World) : Prop :=
 ∃ (v : α) (E : Int), e = .returned (.tuple #[.agg (cells v).toArray, .int .i64 E]) ∧ Hid (fine v ∧ ((E = 0 ∧ (rend S.data.toList (q ⟨0, 0⟩)).wr = 0 ∧ bytes v = S.data.toList) ∨ (E = 120 ∧ ¬ (rend S.data.toList (q ⟨0, 0⟩)).wr = 0 ∧ v = z))) ∧ St w0 w' (grp (things v) :: l)
theorem rel_start {bs : List UInt8} {s : RS} {ys : List UInt8} (hR : Rel bs ⟨0, 0⟩ s ys) (hok : s.ok bs.length) (hw : (rend bs s).wr = 0) : ys = bs :=
 goes_end hok (by have := hR [] (fun _ => rfl); rwa [List.nil_append] at this) hw
end Go.Proofs.YtonnbkebjeoflaaGreatDoor.W
namespace Go.Proofs.YtonnbkebjeoflaaGreatDoor.W
open Go.RowKit
set_option maxHeartbeats 8000000 in
theorem takeEntry_st {w0 w : World} {l : List Thing} {pb : Nat} {bs : List UInt8} {s : RS} (h : St w0 w (rdt pb bs s :: l)) :
 Calls Tryz.prog 79 #[.pointer (some ⟨pb, 0, none⟩)] w (TkG (fun x => Value.agg (Ent.cells x).toArray) Ent.fine Ent.things (qEnt bs) Ent.bytes w0 pb bs s l) := by
 have hS := (h.box2 #[.int .i64 0, .int .i64 0, .int .i64 0, .int .i64 0, .string ⟨#[]⟩, .string ⟨#[]⟩, .slice none 0 0, .int .i64 0, .int .i64 0, .int .i64 0, .slice none 0 0] 63).box2 #[.int .i64 0, .int .i64 0, .int .i64 0, .int .i64 0, .string ⟨#[]⟩, .string ⟨#[]⟩, .slice none 0 0, .int .i64 0, .int .i64 0, .int .i64 0, .slice none 0 0] 63
 simp only [World.size_alloc] at hS
 have hz0 : ((w.alloc (.cells #[.int .i64 0, .int .i64 0, .int .i64 0, .int .i64 0, .string ⟨#[]⟩, .string ⟨#[]⟩, .slice none 0 0, .int .i64 0, .int .i64 0, .int .i64 0, .slice none 0 0] 63)).alloc (.cells #[.int .i64 0, .int .i64 0, .int .i64 0, .int .i64 0, .string ⟨#[]⟩, .string ⟨#[]⟩, .slice none 0 0, .int .i64 0, .int .i64 0, .int .i64 0, .slice none 0 0] 63)).heap.size = w.heap.size + 1 + 1 := by simp only [World.size_alloc]
 clear h
 go_enter Tryz.func79, Tryz.ntmps79
 go_wp2_with fail
 generalize (w.alloc (.cells #[.int .i64 0, .int .i64 0, .int .i64 0, .int .i64 0, .string ⟨#[]⟩, .string ⟨#[]⟩, .slice none 0 0, .int .i64 0, .int .i64 0, .int .i64 0, .slice none 0 0] 63)).alloc (.cells #[.int .i64 0, .int .i64 0, .int .i64 0, .int .i64 0, .string ⟨#[]⟩, .string ⟨#[]⟩, .slice none 0 0, .int .i64 0, .int .i64 0, .int .i64 0, .slice none 0 0] 63) = W at *
 generalize w.heap.size = rb at *
 have hS := hS.slice2 #[.pointer (some ⟨rb + 1, 0, none⟩), .pointer (some ⟨rb + 1, 1, none⟩), .pointer (some ⟨rb + 1, 2, none⟩)] 254 1 3 rfl (by unfold maxLen; omega)
 rw [hz0] at hS
 refine (into_st (l := bx rb #[.int .i64 0, .int .i64 0, .int .i64 0, .int .i64 0, .string ⟨#[]⟩, .string ⟨#[]⟩, .slice none 0 0, .int .i64 0, .int .i64 0, .int .i64 0, .slice none 0 0] 63 :: l) [⟨rb + 1, #[.int .i64 0, .int .i64 0, .int .i64 0, .int .i64 0, .string ⟨#[]⟩, .string ⟨#[]⟩, .slice none 0 0, .int .i64 0, .int .i64 0, .int .i64 0, .slice none 0 0], 63⟩] [(0, 0), (0, 1), (0, 2)] hS rfl (by intro p hp; simp only [List.mem_cons, List.not_mem_nil, or_false] at hp; rcases hp with rfl | rfl | rfl <;> exact ⟨_, rfl, by simp⟩) (by omega)).mono ?_
 have hok := (hS.rok 0 rfl).1
 have KH1 : (i64 (rv bs s 0) ∧ i64 (rv bs s 1) ∧ i64 (rv bs s 2)) ∧ rs bs s 3 = rs bs s 3 ∧ Rel bs s (rs bs s 3) (numsB [rv bs s 0, rv bs s 1, rv bs s 2]) := ⟨⟨rv_i64 hok 0, rv_i64 hok 1, rv_i64 hok 2⟩, rfl, rel_nums 3⟩
 clear hS hok hz0
 rintro e w1 ⟨rfl, hS⟩
 have hS : St w0 w1 (rdt pb bs (rs bs s 3) :: sl 254 1 (some ⟨rb + 1 + 1, 0, none⟩) 3 3 #[.pointer (some ⟨rb + 1, 0, none⟩), .pointer (some ⟨rb + 1, 1, none⟩), .pointer (some ⟨rb + 1, 2, none⟩)].toList :: bx (rb + 1) #[.int .i64 (rv bs s 0), .int .i64 (rv bs s 1), .int .i64 (rv bs s 2), .int .i64 0, .string ⟨#[]⟩, .string ⟨#[]⟩, .slice none 0 0, .int .i64 0, .int .i64 0, .int .i64 0, .slice none 0 0] 63 :: bx rb #[.int .i64 0, .int .i64 0, .int .i64 0, .int .i64 0, .string ⟨#[]⟩, .string ⟨#[]⟩, .slice none 0 0, .int .i64 0, .int .i64 0, .int .i64 0, .slice none 0 0] 63 :: l) := hS
 have hS := hS.tail2
 generalize rv bs s 0 = zxid_ at hS KH1
 generalize rv bs s 1 = session_ at hS KH1
 generalize rv bs s 2 = xid_ at hS KH1
 obtain ⟨s1, hs1⟩ : ∃ x, x = rs bs s 3 := ⟨_, rfl⟩
 rw [← hs1] at hS
 have H1 : Hid ((i64 zxid_ ∧ i64 session_ ∧ i64 xid_) ∧ s1 = rs bs s 3 ∧ Rel bs s s1 (numsB [zxid_, session_, xid_])) := by rw [← hs1] at KH1; exact Lib.hid ⟨KH1.1, hs1, KH1.2.2⟩
 clear hs1 KH1
 go_wp2_with fail
 refine (takePart_st hS).mono ?_
 clear hS
 rintro e w2 ⟨t, s2, rfl, H2, hS⟩
 have HS := Lib.hid hS
 clear hS
 simp only [Txn.cells]
 go_wp2_with ((with_reducible refine at_list ?_); refine wpList_store_chunk 8 sizeTxn (rb + 1) 3 rfl _ _ (HS.out.box 2 rfl) (.agg [.int .i64 t.kind, .string t.path, .string t.data, .slice t.aclA t.acl.length t.aclC, .int .i64 t.owner, .int .i64 t.number, .int .i64 t.err, .slice t.subsA t.subsN t.subsC].toArray) rfl [.int .i64 t.kind, .string t.path, .string t.data, .slice t.aclA t.acl.length t.aclC, .int .i64 t.owner, .int .i64 t.number, .int .i64 t.err, .slice t.subsA t.subsN t.subsC] rfl rfl (by show 3 + 8 ≤ 11; omega) (by intro u hu; simp only [List.mem_cons, List.not_mem_nil, or_false] at hu; rcases hu with rfl | rfl | rfl | rfl | rfl | rfl | rfl | rfl <;> rfl) ?_; intro w3 hg9 hM9 hz9)
 have hg9 : w3.heap[rb + 1]? = some (.cells #[.int .i64 zxid_, .int .i64 session_, .int .i64 xid_, .int .i64 t.kind, .string t.path, .string t.data, .slice t.aclA t.acl.length t.aclC, .int .i64 t.owner, .int .i64 t.number, .int .i64 t.err, .slice t.subsA t.subsN t.subsC] 63 (0, 0)) := hg9
 have hS := HS.out.rebox 2 rfl hg9 hM9
 have hS : St w0 w3 (rdt pb bs s2 :: grp (Txn.things t) :: bx (rb + 1) #[.int .i64 zxid_, .int .i64 session_, .int .i64 xid_, .int .i64 t.kind, .string t.path, .string t.data, .slice t.aclA t.acl.length t.aclC, .int .i64 t.owner, .int .i64 t.number, .int .i64 t.err, .slice t.subsA t.subsN t.subsC] 63 :: bx rb #[.int .i64 0, .int .i64 0, .int .i64 0, .int .i64 0, .string ⟨#[]⟩, .string ⟨#[]⟩, .slice none 0 0, .int .i64 0, .int .i64 0, .int .i64 0, .slice none 0 0] 63 :: l) := hS
 clear HS hg9 hM9 hz9
 refine (rowsTxn_st hS).mono ?_
 clear hS
 rintro e w4 ⟨L, a, cap, s3, rfl, H3, hS⟩
 have c0 := blk_cell (hS.box 4 rfl) 10 _ rfl
 have f0 := blk_free (hS.box 4 rfl) 10
 have z0 := heap_lt (hS.box 4 rfl)
 have hS := hS.set 4 rfl 10 (.slice a L.length cap)
 have hS : St w0 (w4.setCell ⟨rb + 1, 10, none⟩ (.slice a L.length cap)) (rdt pb bs s3 :: sl 61 8 a L.length cap (L.flatMap Txn.cells) :: grp (L.map fun x => grp (Txn.things x)) :: grp (Txn.things t) :: bx (rb + 1) #[.int .i64 zxid_, .int .i64 session_, .int .i64 xid_, .int .i64 t.kind, .string t.path, .string t.data, .slice t.aclA t.acl.length t.aclC, .int .i64 t.owner, .int .i64 t.number, .int .i64 t.err, .slice a L.length cap] 63 :: bx rb #[.int .i64 0, .int .i64 0, .int .i64 0, .int .i64 0, .string ⟨#[]⟩, .string ⟨#[]⟩, .slice none 0 0, .int .i64 0, .int .i64 0, .int .i64 0, .slice none 0 0] 63 :: l) := hS
 have z1 := heap_lt (hS.box 5 rfl)
 have HS := Lib.hid hS
 clear hS
 go_wp2_with (first | ((with_reducible refine at_list ?_); refine wpList_load_chunk 11 _ Tryz.underlying63 rfl sizeEnt ⟨rb + 1, 0, none⟩ rfl [.int .i64 zxid_, .int .i64 session_, .int .i64 xid_, .int .i64 t.kind, .string t.path, .string t.data, .slice t.aclA t.acl.length t.aclC, .int .i64 t.owner, .int .i64 t.number, .int .i64 t.err, .slice a L.length cap] rfl (box_chunk (cs := [.int .i64 zxid_, .int .i64 session_, .int .i64 xid_, .int .i64 t.kind, .string t.path, .string t.data, .slice t.aclA t.acl.length t.aclC, .int .i64 t.owner, .int .i64 t.number, .int .i64 t.err, .slice a L.length cap]) (HS.out.box 4 rfl)) ?_) | ((with_reducible refine at_list ?_); refine wpList_store_whole 11 sizeEnt rb rfl _ _ (HS.out.box 5 rfl) rfl [.int .i64 zxid_, .int .i64 session_, .int .i64 xid_, .int .i64 t.kind, .string t.path, .string t.data, .slice t.aclA t.acl.length t.aclC, .int .i64 t.owner, .int .i64 t.number, .int .i64 t.err, .slice a L.length cap] rfl rfl (by kernel_rfl) ?_; intro w30 hg4 hM4 hz4))
 refine bodyPost_ret (results_cell rfl _ w30 rb _ _ _ _ rfl hg4 Tryz.underlying63 rfl sizeEnt) rfl ?_
 have hS := HS.out.rebox 5 rfl hg4 hM4
 have hS : St w0 w30 (rdt pb bs s3 :: sl 61 8 a L.length cap (L.flatMap Txn.cells) :: grp (L.map fun x => grp (Txn.things x)) :: grp (Txn.things t) :: bx (rb + 1) _ _ :: bx rb _ _ :: l) := hS
 refine ⟨⟨zxid_, session_, xid_, { t with subsA := a, subsN := L.length, subsC := cap }, L⟩, s3, rfl, Lib.hid ⟨⟨H1.out.1, H2.out.1, rfl, H3.out.1⟩, by rw [H3.out.2.1, H2.out.2.1, H1.out.2.1]; rfl, ?_⟩, ?_⟩
 ·exact (H1.out.2.2.trans H2.out.2.2).trans H3.out.2.2
 ·exact (St.pack _ _ hS).drop2
set_option maxHeartbeats 8000000 in
theorem getEntry_st {w0 w : World} {l : List Thing} (S : ByteArray) (hf : bfits S.size) (h : St w0 w l) :
 Calls Tryz.prog 78 #[.string S, .func (.func 79) #[] #[]] w (GetG Ent.cells Ent.fine Ent.things (qEnt S.data.toList) Ent.bytes Ent.zero S w0 l) := by
 have hS := h.box1 #[.int .i64 0, .int .i64 0, .int .i64 0, .int .i64 0, .string ⟨#[]⟩, .string ⟨#[]⟩, .slice none 0 0, .int .i64 0, .int .i64 0, .int .i64 0, .slice none 0 0] 63
 have HF := Lib.hid hf
 clear h hf
 go_enter Tryz.func78, Tryz.ntmps78
 go_wp2_with fail
 generalize w.alloc (.cells #[.int .i64 0, .int .i64 0, .int .i64 0, .int .i64 0, .string ⟨#[]⟩, .string ⟨#[]⟩, .slice none 0 0, .int .i64 0, .int .i64 0, .int .i64 0, .slice none 0 0] 63) = W at *
 generalize w.heap.size = rb at *
 refine (rread_st hS S HF.out).mono ?_
 clear hS
 rintro e w9 ⟨pb, rfl, hS⟩
 go_wp2_with fail
 refine (takeEntry_st hS).mono ?_
 clear hS
 rintro e w1 ⟨x, s', rfl, HX, hS⟩
 have HS := Lib.hid (hS.box2 #[.int .i64 0, .int .i64 0, .int .i64 0, .int .i64 0, .string ⟨#[]⟩, .string ⟨#[]⟩, .slice none 0 0, .int .i64 0, .int .i64 0, .int .i64 0, .slice none 0 0] 63)
 have hok := (hS.rok 0 rfl).1
 have HOK := Lib.hid hok
 clear hS hok
 go_wp2_with ((with_reducible refine at_list ?_); refine wpList_store_whole 11 sizeEnt w1.heap.size rfl _ _ (HS.out.box 1 rfl) rfl x.cells rfl rfl (by kernel_rfl) ?_; intro w2 hg2 hM2 hz2)
 have hS := HS.out.rebox 1 rfl hg2 hM2
 simp only [List.set_cons_succ, List.set_cons_zero] at hS
 clear HS hg2 hM2 hz2
 generalize w1.heap.size = tb at *
 refine (rend_st hS 0 rfl).mono ?_
 clear hS
 rintro e w3 ⟨rfl, hS⟩
 simp only [List.set_cons_zero] at hS
 have HS := Lib.hid hS
 clear hS
 by_cases hq : (rend S.data.toList s').wr = 0
 ·have HQ := Lib.hid hq
  obtain ⟨z, hz⟩ : ∃ z, (rend S.data.toList s').wr = z := ⟨_, rfl⟩
  rw [hz] at hq ⊢
  subst hq
  clear hz
  go_wp2_with (first | ((with_reducible refine at_list ?_); refine wpList_load_chunk 11 _ Tryz.underlying63 rfl sizeEnt ⟨tb, 0, none⟩ rfl x.cells rfl (box_chunk (HS.out.box 1 rfl)) ?_) | ((with_reducible refine at_list ?_); refine wpList_store_whole 11 sizeEnt rb rfl _ _ (HS.out.box 3 rfl) rfl x.cells rfl rfl (by kernel_rfl) ?_; intro w5 hg5 hM5 hz5))
  refine bodyPost_ret (results_cell_tmp rfl _ w5 rb _ _ _ _ rfl hg5 Tryz.underlying63 rfl sizeEnt) rfl ?_
  exact ⟨x, 0, rfl, Lib.hid ⟨HX.out.1, .inl ⟨rfl, by rw [← HX.out.2.1]; exact HQ.out, rel_start HX.out.2.2 HOK.out HQ.out⟩⟩, (HS.out.rebox 3 rfl hg5 hM5).tail.tail.tail2⟩
 ·have hb : ((rend S.data.toList s').wr == 0) = false := by simpa using hq
  have HQ := Lib.hid hq
  clear hq
  generalize (rend S.data.toList s').wr = z at hb ⊢
  have HS2 := Lib.hid (HS.out.box2 #[.int .i64 0, .int .i64 0, .int .i64 0, .int .i64 0, .string ⟨#[]⟩, .string ⟨#[]⟩, .slice none 0 0, .int .i64 0, .int .i64 0, .int .i64 0, .slice none 0 0] 63)
  clear HS
  go_wp2_with (first | ((with_reducible refine at_list ?_); refine wpList_load_chunk 11 _ Tryz.underlying63 rfl sizeEnt ⟨w3.heap.size, 0, none⟩ rfl Ent.zero.cells rfl (box_chunk (HS2.out.box 1 rfl)) ?_) | ((with_reducible refine at_list ?_); refine wpList_store_whole 11 sizeEnt rb rfl _ _ (HS2.out.box 4 rfl) rfl Ent.zero.cells rfl rfl (by kernel_rfl) ?_; intro w5 hg5 hM5 hz5))
  refine bodyPost_ret (results_cell_tmp rfl _ w5 rb _ _ _ _ rfl hg5 Tryz.underlying63 rfl sizeEnt) rfl ?_
  exact ⟨Ent.zero, 120, rfl, Lib.hid ⟨Ent.zero_fine, .inr ⟨rfl, by rw [← HX.out.2.1]; exact HQ.out, rfl⟩⟩, Ent.zero_st (HS2.out.rebox 4 rfl hg5 hM5).tail.tail.tail.tail.tail⟩
set_option maxHeartbeats 4000000 in
theorem GetEntry_st {w0 w : World} {l : List Thing} (S : ByteArray) (hf : bfits S.size) (h : St w0 w l) :
 Calls Tryz.prog 37 #[.string S] w (GetG Ent.cells Ent.fine Ent.things (qEnt S.data.toList) Ent.bytes Ent.zero S w0 l) := by
 have hS := h.box1 #[.int .i64 0, .int .i64 0, .int .i64 0, .int .i64 0, .string ⟨#[]⟩, .string ⟨#[]⟩, .slice none 0 0, .int .i64 0, .int .i64 0, .int .i64 0, .slice none 0 0] 63
 have HF := Lib.hid hf
 clear h hf
 go_enter Tryz.func37, Tryz.ntmps37
 go_wp2_with fail
 generalize w.alloc (.cells #[.int .i64 0, .int .i64 0, .int .i64 0, .int .i64 0, .string ⟨#[]⟩, .string ⟨#[]⟩, .slice none 0 0, .int .i64 0, .int .i64 0, .int .i64 0, .slice none 0 0] 63) = W at *
 generalize w.heap.size = rb at *
 refine (getEntry_st S HF.out hS).mono ?_
 clear hS
 rintro e w1 ⟨x, E, rfl, HX, hS⟩
 have HS := Lib.hid hS
 clear hS
 go_wp2_with ((with_reducible refine at_list ?_); refine wpList_store_whole 11 sizeEnt rb rfl _ _ (HS.out.box 1 rfl) rfl x.cells rfl rfl (by kernel_rfl) ?_; intro w2 hg2 hM2 hz2)
 refine bodyPost_ret (results_cell_tmp rfl _ w2 rb _ _ _ _ rfl hg2 Tryz.underlying63 rfl sizeEnt) rfl ?_
 exact ⟨x, E, rfl, HX, (HS.out.rebox 1 rfl hg2 hM2).tail2⟩
end Go.Proofs.YtonnbkebjeoflaaGreatDoor.W
namespace Go.Proofs.YtonnbkebjeoflaaGreatDoor.W
open Go.RowKit
theorem rsev_at {bs post : List UInt8} {s : RS} {v : Nat} (h0 : s.wr = 0) (h : bs.drop s.at_ = sevens v ++ post) (hv : v < 18446744073709551616) : rsev bs s = (v, (sevens v).length, s) := by
 unfold rsev
 rw [if_neg (by simpa using h0), h, sv_back v 0 0 post (by omega) (by simpa using hv)]
 obtain ⟨p, e⟩ := s
 simp only at h0
 subst h0
 simp
theorem rnum_at {bs post : List UInt8} {s : RS} {n : Int} (h0 : s.wr = 0) (h : bs.drop s.at_ = sevens (zig n) ++ post) (hn : -9223372036854775808 ≤ n ∧ n ≤ 9223372036854775807) :
 rnum bs s = (n, ⟨s.at_ + (sevens (zig n)).length, 0⟩) := by
 unfold rnum
 rw [rsev_at h0 h (zig_lt n hn.1 hn.2), zag_zig, h0]
theorem rcount_at {bs post : List UInt8} {s : RS} {v : Nat} {most : Int} (h0 : s.wr = 0) (h : bs.drop s.at_ = sevens v ++ post) (hv : v < 18446744073709551616) (hm : v ≤ most.toNat) :
 rcount bs most s = (v, ⟨s.at_ + (sevens v).length, 0⟩) := by
 unfold rcount
 rw [rsev_at h0 h hv, if_neg (by simp only; omega), h0]
theorem rtext_at {bs post t : List UInt8} {s : RS} {most : Int} (h0 : s.wr = 0) (h : bs.drop s.at_ = sevens t.length ++ t ++ post) (hv : t.length < 18446744073709551616) (hm : t.length ≤ most.toNat) :
 rtext bs most s = (t, ⟨s.at_ + (sevens t.length).length + t.length, 0⟩) := by
 unfold rtext
 rw [rcount_at h0 (post := t ++ post) (by rw [h, List.append_assoc]) hv hm]
 have hd : bs.drop (s.at_ + (sevens t.length).length) = t ++ post := by
  rw [← List.drop_drop, h, List.append_assoc, List.drop_left]
 have hl := congrArg List.length hd
 rw [List.length_drop, List.length_append] at hl
 rw [if_neg (by simp only; omega)]
 simp only
 rw [hd, List.take_left]
end Go.Proofs.YtonnbkebjeoflaaGreatDoor.W
namespace Go.Proofs.YtonnbkebjeoflaaGreatDoor.W
open Go.RowKit
def Reads {α : Type} (q : List UInt8 → RS → RS) (f : α → List UInt8) (ok good : α → Prop) : Prop :=
 ∀ x, ok x → ∀ (bs post : List UInt8) (s : RS), s.wr = 0 → bs.drop s.at_ = f x ++ post → (good x → q bs s = ⟨s.at_ + (f x).length, 0⟩) ∧ (¬ good x → (q bs s).wr ≠ 0)
theorem Reads.on {α β : Type} {q : List UInt8 → RS → RS} {f : β → List UInt8} {ok good : β → Prop} (h : Reads q f ok good) (p : α → β) : Reads q (fun x => f (p x)) (fun x => ok (p x)) (fun x => good (p x)) :=
 fun x hx => h (p x) hx
theorem Reads.seq {α : Type} {q r : List UInt8 → RS → RS} {f g : α → List UInt8} {ok ok' good good' : α → Prop} (hq : Reads q f ok good) (hr : Reads r g ok' good') (hs : ∀ bs, Sticky (r bs)) :
 Reads (fun bs s => r bs (q bs s)) (fun x => f x ++ g x) (fun x => ok x ∧ ok' x) (fun x => good x ∧ good' x) := by
 intro x hx bs post s h0 h
 simp only [List.append_assoc] at h
 obtain ⟨h1, h2⟩ := hq x hx.1 bs _ s h0 h
 have hmid : bs.drop (s.at_ + (f x).length) = g x ++ post := by rw [← List.drop_drop, h, List.drop_left]
 refine ⟨fun hg => ?_, fun hg => ?_⟩
 ·show r bs (q bs s) = _
  rw [h1 hg.1, ((hr x hx.2 bs post ⟨s.at_ + (f x).length, 0⟩ rfl hmid).1 hg.2), List.length_append]
  simp only [Nat.add_assoc]
 ·show (r bs (q bs s)).wr ≠ 0
  by_cases hgx : good x
  ·rw [h1 hgx]
   exact (hr x hx.2 bs post ⟨s.at_ + (f x).length, 0⟩ rfl hmid).2 fun h' => hg ⟨hgx, h'⟩
  ·have := h2 hgx
   rw [hs bs _ this]
   exact this
theorem Reads.congr {α : Type} {q q' : List UInt8 → RS → RS} {f f' : α → List UInt8} {ok ok' good : α → Prop} (h : Reads q f ok good) (hq : ∀ bs s, q' bs s = q bs s) (hf : ∀ x, f' x = f x) (ho : ∀ x, ok' x → ok x) : Reads q' f' ok' good := fun x hx bs post s h0 h1 => by
 rw [hq, hf]
 exact h x (ho x hx) bs post s h0 (by rw [← hf]; exact h1)
theorem reads_num : Reads qNum numB i64 (fun _ => True) := fun x hx bs post s h0 h => ⟨fun _ => by unfold qNum; rw [rnum_at h0 h hx]; rfl, fun h => absurd trivial h⟩
theorem rs_at {bs : List UInt8} : ∀ (n : Nat) (l : List Int) (s : RS) (post : List UInt8), l.length = n → (∀ t ∈ l, i64 t) → s.wr = 0 → bs.drop s.at_ = numsB l ++ post → rs bs s n = ⟨s.at_ + (numsB l).length, 0⟩
 | 0, l, s, post, hl, hi, h0, h => by
   obtain rfl := List.eq_nil_of_length_eq_zero hl
   show s = _
   obtain ⟨p, e⟩ := s
   simp only at h0
   subst h0
   rfl
 | n + 1, l, s, post, hl, hi, h0, h => by
   have hne : l ≠ [] := fun e => by rw [e] at hl; simp at hl
   obtain ⟨m, t, rfl⟩ : ∃ m t, l = m ++ [t] := ⟨l.dropLast, l.getLast hne, (List.dropLast_concat_getLast hne).symm⟩
   rw [numsB_add, numsB_one, List.append_assoc] at h
   have hm := rs_at n m s (numB t ++ post) (by simpa using hl) (fun u hu => hi u (by simp [hu])) h0 h
   show (rnum bs (rs bs s n)).2 = _
   have hd : bs.drop (s.at_ + (numsB m).length) = numB t ++ post := by rw [← List.drop_drop, h, List.drop_left]
   rw [hm, rnum_at (s := ⟨s.at_ + (numsB m).length, 0⟩) rfl hd (hi t (by simp)), numsB_add, numsB_one, List.length_append]
   show RS.mk _ _ = _
   unfold numB
   simp only [Nat.add_assoc]
theorem reads_nums {α : Type} (n : Nat) (l : α → List Int) (hl : ∀ x, (l x).length = n) : Reads (fun bs s => rs bs s n) (fun x => numsB (l x)) (fun x => ∀ t ∈ l x, i64 t) (fun _ => True) :=
 fun x hx bs post s h0 h => ⟨fun _ => rs_at n (l x) s post (hl x) hx h0 h, fun h => absurd trivial h⟩
def fits64 (s : ByteArray) : Prop := s.size < 18446744073709551616
theorem reads_text (most : Nat) : Reads (fun bs s => (rtext bs (most : Int) s).2) txtB fits64 (fun s => s.size ≤ most) := fun x hx bs post s h0 h => by
 unfold txtB at h
 have hl : x.data.toList.length = x.size := toList_size x
 refine ⟨fun hg => ?_, fun hg => ?_⟩
 ·have hg : x.size ≤ most := hg
  rw [← hl] at h
  show (rtext bs (most : Int) s).2 = _
  rw [rtext_at h0 h (by rw [hl]; exact hx) (by rw [hl]; omega)]
  unfold txtB
  rw [List.length_append, hl, Nat.add_assoc]
 ·have hg : ¬ x.size ≤ most := hg
  rw [List.append_assoc] at h
  have h1 : rcount bs (most : Int) s = (0, ⟨s.at_, 12⟩) := by
   unfold rcount
   rw [rsev_at h0 h hx, if_pos (by simp only; omega)]
   unfold RS.fail
   rw [if_pos h0]
  show (rtext bs (most : Int) s).2.wr ≠ 0
  unfold rtext
  rw [h1, if_neg (by simp only; omega)]
  show (12 : Int) ≠ 0
  omega
theorem reads_iter {α : Type} {q : List UInt8 → RS → RS} {f : α → List UInt8} {ok good : α → Prop} (hq : Reads q f ok good) (hs : ∀ bs, Sticky (q bs)) {bs : List UInt8} : ∀ (L : List α) (s : RS) (post : List UInt8), (∀ x ∈ L, ok x) → s.wr = 0 → bs.drop s.at_ = L.flatMap f ++ post →
 ((∀ x ∈ L, good x) → iter (q bs) s L.length = ⟨s.at_ + (L.flatMap f).length, 0⟩) ∧ (¬ (∀ x ∈ L, good x) → (iter (q bs) s L.length).wr ≠ 0)
 | [], s, post, _, h0, _ => ⟨fun _ => by
  show s = _
  obtain ⟨p, e⟩ := s
  simp only at h0
  subst h0
  rfl, fun h => absurd (fun _ h => absurd h List.not_mem_nil) h⟩
 | a :: L, s, post, hok, h0, h => by
   simp only [List.flatMap_cons, List.append_assoc] at h
   have e : iter (q bs) s (a :: L).length = iter (q bs) (q bs s) L.length := by
    rw [List.length_cons, Nat.add_comm, iter_add]; rfl
   obtain ⟨h1, h2⟩ := hq a (hok a (by simp)) bs _ s h0 h
   have hd : bs.drop (s.at_ + (f a).length) = L.flatMap f ++ post := by rw [← List.drop_drop, h, List.drop_left]
   obtain ⟨h3, h4⟩ := reads_iter hq hs (bs := bs) L ⟨s.at_ + (f a).length, 0⟩ post (fun x hx => hok x (by simp [hx])) rfl hd
   rw [e]
   refine ⟨fun hg => ?_, fun hg => ?_⟩
   ·rw [h1 (hg a (by simp)), h3 (fun x hx => hg x (by simp [hx])), List.flatMap_cons, List.length_append]
    simp only [Nat.add_assoc]
   ·by_cases hga : good a
    ·rw [h1 hga]
     exact h4 fun hL => hg fun x hx => by
      rcases List.mem_cons.1 hx with rfl | hx
      ·exact hga
      ·exact hL x hx
    ·have := h2 hga
     rw [iter_id (hs bs) this]
     exact this
theorem reads_list {α : Type} {q : List UInt8 → RS → RS} {f : α → List UInt8} {ok good : α → Prop} (hq : Reads q f ok good) (hs : ∀ bs, Sticky (q bs)) :
 Reads (fun bs s => qList bs (q bs) s) (listB f) (fun L => L.length < 18446744073709551616 ∧ ∀ x ∈ L, ok x) (fun L => L.length ≤ 256 ∧ ∀ x ∈ L, good x) := fun L hL bs post s h0 h => by
 unfold listB at h ⊢
 rw [List.append_assoc] at h
 have hd : bs.drop (s.at_ + (sevens L.length).length) = L.flatMap f ++ post := by rw [← List.drop_drop, h, List.drop_left]
 show (_ → qList bs (q bs) s = _) ∧ (_ → (qList bs (q bs) s).wr ≠ 0)
 unfold qList
 by_cases hl : L.length ≤ 256
 ·rw [rcount_at h0 h hL.1 (by show L.length ≤ 256; exact hl)]
  obtain ⟨h3, h4⟩ := reads_iter hq hs (bs := bs) L ⟨s.at_ + (sevens L.length).length, 0⟩ post hL.2 rfl hd
  refine ⟨fun hg => ?_, fun hg => ?_⟩
  ·simp only
   rw [h3 hg.2, List.length_append]
   simp only [Nat.add_assoc]
  ·exact h4 fun h' => hg ⟨hl, h'⟩
 ·refine ⟨fun hg => absurd hg.1 hl, fun _ => ?_⟩
  have h1 : rcount bs 256 s = (0, ⟨s.at_, 12⟩) := by
   unfold rcount
   rw [rsev_at h0 h hL.1, if_pos (by show 256 < L.length; omega)]
   unfold RS.fail
   rw [if_pos h0]
  rw [h1]
  show (12 : Int) ≠ 0
  omega
theorem reads_txt : Reads qTxt txtB fits64 (fun s => s.size ≤ 4096) := reads_text 4096
def Txn.laid (x : Txn) : Prop := (((i64 x.kind ∧ fits64 x.path) ∧ fits64 x.data) ∧ (x.acl.length < 18446744073709551616 ∧ ∀ a ∈ x.acl, i64 a.perms ∧ fits64 a.id)) ∧ ∀ t ∈ [x.owner, x.number, x.err], i64 t
def Ent.laid (x : Ent) : Prop := ((∀ t ∈ [x.zxid, x.session, x.xid], i64 t) ∧ x.t.laid) ∧ (x.subs.length < 18446744073709551616 ∧ ∀ a ∈ x.subs, a.laid)
theorem flat_mem_len {α : Type} (f : α → List UInt8) {L : List α} {t : α} (h : t ∈ L) : (f t).length ≤ (L.flatMap f).length := by
 obtain ⟨k, hk⟩ := List.mem_iff_getElem?.1 h
 have := flat_take_le f hk
 omega
theorem flat_pos_len {α : Type} (f : α → List UInt8) (hp : ∀ a, 1 ≤ (f a).length) : ∀ L : List α, L.length ≤ (L.flatMap f).length
 | [] => Nat.zero_le _
 | a :: L => by
   have := flat_pos_len f hp L
   have := hp a
   rw [List.flatMap_cons, List.length_append, List.length_cons]
   omega
theorem numB_pos' (n : Int) : 1 ≤ (numB n).length := List.length_pos_iff.2 (sevens_ne _)
theorem txtB_le (s : ByteArray) : s.size ≤ (txtB s).length := by unfold txtB; rw [List.length_append, toList_size]; omega
theorem acl_pos' (x : Acl) : 1 ≤ x.bytes.length := by
 have := numB_pos' x.perms
 unfold Acl.bytes
 rw [List.length_append]
 omega
theorem txn_pos' (x : Txn) : 1 ≤ x.bytes.length := by
 have := numB_pos' x.kind
 unfold Txn.bytes
 simp only [List.length_append]
 omega
theorem listB_ge {α : Type} (f : α → List UInt8) (L : List α) : (L.flatMap f).length ≤ (listB f L).length := by unfold listB; rw [List.length_append]; omega
theorem Txn.laid_of {w : World} {x : Txn} (h : x.ok w) (hl : x.bytes.length < 18446744073709551616) : x.laid := by
 obtain ⟨h1, h2, h3, h4, h5, h6⟩ := h
 unfold Txn.bytes at hl
 simp only [List.length_append] at hl
 have a1 := txtB_le x.path
 have a2 := txtB_le x.data
 have a3 := listB_ge Acl.bytes x.acl
 have a4 := flat_pos_len Acl.bytes acl_pos' x.acl
 refine ⟨⟨⟨⟨h1, by unfold fits64; omega⟩, by unfold fits64; omega⟩, by omega, fun a ha => ⟨h6 a ha, ?_⟩⟩, ?_⟩
 ·have b1 := flat_mem_len Acl.bytes ha
  have b2 := txtB_le a.id
  unfold Acl.bytes at b1
  rw [List.length_append] at b1
  have b3 : ((x.acl.flatMap fun x => numB x.perms ++ txtB x.id)).length = (x.acl.flatMap Acl.bytes).length := rfl
  unfold fits64
  omega
 ·intro t ht
  simp only [List.mem_cons, List.not_mem_nil, or_false] at ht
  rcases ht with rfl | rfl | rfl
  ·exact h2
  ·exact h3
  ·exact h4
theorem Ent.laid_of {w : World} {x : Ent} (h : x.ok w) (hl : x.bytes.length < 18446744073709551616) : x.laid := by
 unfold Ent.bytes at hl
 simp only [List.length_append] at hl
 have a3 := listB_ge Txn.bytes x.subs
 have a4 := flat_pos_len Txn.bytes txn_pos' x.subs
 refine ⟨⟨?_, Txn.laid_of h.t (by omega)⟩, by omega, fun a ha => Txn.laid_of (h.all a ha) ?_⟩
 ·intro t ht
  simp only [List.mem_cons, List.not_mem_nil, or_false] at ht
  rcases ht with rfl | rfl | rfl
  ·exact h.zxid
  ·exact h.session
  ·exact h.xid
 ·have b1 := flat_mem_len Txn.bytes ha
  omega
end Go.Proofs.YtonnbkebjeoflaaGreatDoor.W
namespace Go.Proofs.YtonnbkebjeoflaaGreatDoor.W
open Go.RowKit
theorem reads_acl' : Reads qAcl Acl.bytes (fun x => i64 x.perms ∧ fits64 x.id) (fun x => True ∧ x.id.size ≤ 4096) := (reads_num.on Acl.perms).seq (reads_txt.on Acl.id) sticky_qTxt
def Txn.goodW (x : Txn) : Prop := (((True ∧ x.path.size ≤ 4096) ∧ x.data.size ≤ 4096) ∧ (x.acl.length ≤ 256 ∧ ∀ a ∈ x.acl, True ∧ a.id.size ≤ 4096)) ∧ True
theorem reads_txn' : Reads qTxn Txn.bytes Txn.laid Txn.goodW := by
 have H := ((((reads_num.on Txn.kind).seq (reads_txt.on Txn.path) sticky_qTxt).seq (reads_txt.on Txn.data) sticky_qTxt).seq ((reads_list reads_acl' sticky_qAcl).on Txn.acl) (fun bs => sticky_list bs (sticky_qAcl bs))).seq
  (reads_nums 3 (fun x : Txn => [x.owner, x.number, x.err]) (fun _ => rfl)) (fun bs => sticky_rs bs 3)
 exact H.congr (fun bs s => by unfold qTxn; rfl) (fun x => by unfold Txn.bytes; rfl) (fun x h => h)
def Ent.goodW (x : Ent) : Prop := (True ∧ x.t.goodW) ∧ (x.subs.length ≤ 256 ∧ ∀ a ∈ x.subs, a.goodW)
theorem reads_ent' : Reads qEnt Ent.bytes Ent.laid Ent.goodW := by
 have H := ((reads_nums 3 (fun x : Ent => [x.zxid, x.session, x.xid]) (fun _ => rfl)).seq (reads_txn'.on Ent.t) sticky_qTxn).seq ((reads_list reads_txn' sticky_qTxn).on Ent.subs) (fun bs => sticky_list bs (sticky_qTxn bs))
 exact H.congr (fun bs s => by unfold qEnt; rfl) (fun x => by unfold Ent.bytes; rfl) (fun x h => h)
theorem ent_reads {x : Ent} (hx : x.laid) (hg : x.goodW) : (rend x.bytes (qEnt x.bytes ⟨0, 0⟩)).wr = 0 := by
 have hq := (reads_ent' x hx x.bytes [] ⟨0, 0⟩ rfl (by simp)).1 hg
 rw [hq]
 unfold rend
 rw [if_neg (by simp)]
end Go.Proofs.YtonnbkebjeoflaaGreatDoor.W
