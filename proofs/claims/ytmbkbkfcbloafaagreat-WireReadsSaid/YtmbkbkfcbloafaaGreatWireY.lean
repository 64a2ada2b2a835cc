/-
  Entries taken up.
  No condition: every law states its own.
-/
import Derived.Test.YtmbkbkfcbloafaaGreatWireX
import Derived.Test.YtmbkbkfcbloafaaGreatWireO
import Derived.StillTailTactics
namespace Go.Proofs.YtmbkbkfcbloafaaGreat
open Go.RowKit
set_option linter.unusedSectionVars false
set_option linter.unusedSimpArgs false
set_option linter.unusedVariables false
set_option maxRecDepth 100000

theorem St.grp0 {w0 w : World} {l : List Thing} (h : St w0 w l) : St w0 w (grp [] :: l) := St.regrp [] h

theorem St.drop2 {w0 w : World} {a b c d : Thing} {l : List Thing} (h : St w0 w (a :: b :: c :: d :: l)) : St w0 w (a :: b :: l) :=
  (h.perm (List.perm_append_comm_assoc [a, b] [c, d] l)).tail.tail

/-! ### Entries -/
def Ent.fine (x : Ent) : Prop := (i64 x.zxid ∧ i64 x.session ∧ i64 x.xid) ∧ TxnW.fine (x.t, x.subs)
def Ent.things (x : Ent) : List Thing := TxnW.things (x.t, x.subs)
def Ent.zero : Ent := ⟨0, 0, 0, ⟨0, ⟨#[]⟩, ⟨#[]⟩, [], none, 0, 0, 0, 0, none, 0, 0⟩, []⟩
theorem Ent.zero_fine : Ent.zero.fine := ⟨⟨by unfold i64 Ent.zero; simp, by unfold i64 Ent.zero; simp, by unfold i64 Ent.zero; simp⟩, ⟨by unfold i64 Ent.zero; simp, by unfold i64 Ent.zero; simp, by unfold i64 Ent.zero; simp, by unfold i64 Ent.zero; simp, ⟨fun a ha => absurd ha List.not_mem_nil, Nat.zero_le _⟩⟩, rfl, fun a ha => absurd ha List.not_mem_nil, Nat.zero_le _⟩
theorem Ent.zero_st {w0 w : World} {l : List Thing} (h : St w0 w l) : St w0 w (grp (Ent.things Ent.zero) :: l) :=
  St.regrp (Ent.things Ent.zero) (((((h.grp0).nilSlice 37 8).grp0).nilSlice 65 2))
theorem Ent.bytesW (x : Ent) : x.bytes = numsB [x.zxid, x.session, x.xid] ++ TxnW.bytes (x.t, x.subs) := by unfold Ent.bytes TxnW.bytes; simp only [List.append_assoc]
theorem qEnt_W (bs : List UInt8) (s : RS) : qEnt bs s = qTxnW bs (rs bs s 3) := rfl
/-- What a Get.. answers: the thing, or none. -/
def GetG {α : Type} (cells : α → List Value) (fine : α → Prop) (things : α → List Thing) (q : RS → RS) (bytes : α → List UInt8) (z : α) (S : ByteArray) (w0 : World) (l : List Thing) (e : Ending) (w' : World) : Prop :=
  ∃ (v : α) (E : Int), e = .returned (.tuple #[.agg (cells v).toArray, .int .i64 E]) ∧ Hid (fine v ∧ ((E = 0 ∧ (rend S.data.toList (q ⟨0, 0⟩)).wr = 0 ∧ bytes v = S.data.toList) ∨ (E = 120 ∧ ¬ (rend S.data.toList (q ⟨0, 0⟩)).wr = 0 ∧ v = z))) ∧ St w0 w' (grp (things v) :: l)
theorem rel_start {bs : List UInt8} {s : RS} {ys : List UInt8} (hR : Rel bs ⟨0, 0⟩ s ys) (hok : s.ok bs.length) (hw : (rend bs s).wr = 0) : ys = bs :=
  goes_end hok (by have := hR [] (fun _ => rfl); rwa [List.nil_append] at this) hw

set_option maxHeartbeats 8000000 in
theorem rTakeEntry_st {w0 w : World} {l : List Thing} {pb : Nat} {B : ByteArray} {s : RS} (h : St w0 w (drt pb B s :: l)) :
    Calls Tryz.prog 50 #[.pointer (some ⟨pb, 0, none⟩)] w (DkG (fun x => Value.agg (Ent.cells x).toArray) Ent.fine Ent.things (qEnt B.data.toList) Ent.bytes w0 pb B s l) := by
  have hS := h.box2 #[.int .i64 0, .int .i64 0, .int .i64 0, .int .i64 0, .string ⟨#[]⟩, .string ⟨#[]⟩, .slice none 0 0, .int .i64 0, .int .i64 0, .int .i64 0, .slice none 0 0] 39
  clear h
  go_enter Tryz.func50, Tryz.ntmps50
  go_wp2_with fail
  generalize w.alloc (.cells #[.int .i64 0, .int .i64 0, .int .i64 0, .int .i64 0, .string ⟨#[]⟩, .string ⟨#[]⟩, .slice none 0 0, .int .i64 0, .int .i64 0, .int .i64 0, .slice none 0 0] 39) = W at *
  generalize w.heap.size = rb at *
  refine (rtake_st hS 0 rfl 3 3 rfl (by omega)).mono ?_
  have hok := hS.dok 0 rfl
  have KH1 : (i64 (rv B.data.toList s 0) ∧ i64 (rv B.data.toList s 1) ∧ i64 (rv B.data.toList s 2)) ∧ rs B.data.toList s 3 = rs B.data.toList s 3 ∧ Rel B.data.toList s (rs B.data.toList s 3) (numsB [rv B.data.toList s 0, rv B.data.toList s 1, rv B.data.toList s 2]) := ⟨⟨rv_i64 hok 0, rv_i64 hok 1, rv_i64 hok 2⟩, rfl, rel_nums 3⟩
  clear hS hok
  rintro e w1 ⟨sb, rfl, hS⟩
  simp only [List.set_cons_zero] at hS
  obtain ⟨cs, hcs⟩ : ∃ x, x = ic (numsR B.data.toList s 3) := ⟨_, rfl⟩
  rw [← hcs] at hS
  have g0 : cs[0]? = some (.int .i64 (rv B.data.toList s 0)) := by rw [hcs]; simp [ic, numsR]
  have g1 : cs[1]? = some (.int .i64 (rv B.data.toList s 1)) := by rw [hcs]; simp [ic, numsR]
  have g2 : cs[2]? = some (.int .i64 (rv B.data.toList s 2)) := by rw [hcs]; simp [ic, numsR]
  clear hcs
  generalize rv B.data.toList s 0 = zxid_ at g0 KH1
  generalize rv B.data.toList s 1 = session_ at g1 KH1
  generalize rv B.data.toList s 2 = xid_ at g2 KH1
  obtain ⟨s1, hs1⟩ : ∃ x, x = rs B.data.toList s 3 := ⟨_, rfl⟩
  rw [← hs1] at hS
  have H1 : Hid ((i64 zxid_ ∧ i64 session_ ∧ i64 xid_) ∧ s1 = rs B.data.toList s 3 ∧ Rel B.data.toList s s1 (numsB [zxid_, session_, xid_])) := by rw [← hs1] at KH1; exact Lib.hid ⟨KH1.1, hs1, KH1.2.2⟩
  clear hs1 KH1
  have hS : St w0 w1 (drt pb B s1 :: sl 3 1 (some ⟨sb, 0, none⟩) 3 3 cs :: bx rb #[.int .i64 0, .int .i64 0, .int .i64 0, .int .i64 0, .string ⟨#[]⟩, .string ⟨#[]⟩, .slice none 0 0, .int .i64 0, .int .i64 0, .int .i64 0, .slice none 0 0] 39 :: l) := hS.swap
  have G0 := Lib.hid g0
  have G1 := Lib.hid g1
  have G2 := Lib.hid g2
  clear g0 g1 g2
  go_wp2_with fail
  refine (rTakeTxn_st hS).mono ?_
  clear hS
  rintro e w2 ⟨p, s2, rfl, H2, hS⟩
  have hS := hS.box2 #[.int .i64 0, .string ⟨#[]⟩, .string ⟨#[]⟩, .slice none 0 0, .int .i64 0, .int .i64 0, .int .i64 0, .slice none 0 0] 37
  have HS := Lib.hid hS
  clear hS
  simp only [Txn.cells]
  go_upto_region 3 with ((with_reducible refine at_list ?_); refine wpList_store_whole 8 sizeTxn w2.heap.size rfl _ _ (HS.out.box 1 rfl) rfl [.int .i64 p.1.kind, .string p.1.path, .string p.1.data, .slice p.1.aclA p.1.acl.length p.1.aclC, .int .i64 p.1.owner, .int .i64 p.1.number, .int .i64 p.1.err, .slice p.1.subsA p.1.subsN p.1.subsC] rfl rfl (by kernel_rfl) ?_; intro w3 hg3 hM3 hz3)
  have hS := HS.out.rebox 1 rfl hg3 hM3
  simp only [List.set_cons_succ, List.set_cons_zero] at hS
  clear HS hg3 hM3 hz3
  generalize w2.heap.size = tb at *
  have e0 : w3.cell? ⟨sb, 0, none⟩ = some (.int .i64 zxid_) := (hS.slice 3 rfl).rd.valAt 0 G0.out
  have e1 : w3.cell? ⟨sb, 1, none⟩ = some (.int .i64 session_) := (hS.slice 3 rfl).rd.valAt 1 G1.out
  have e2 : w3.cell? ⟨sb, 2, none⟩ = some (.int .i64 xid_) := (hS.slice 3 rfl).rd.valAt 2 G2.out
  have c0 := blk_cell (hS.box 1 rfl) 0 _ rfl
  have c1 := blk_cell (hS.box 1 rfl) 1 _ rfl
  have c2 := blk_cell (hS.box 1 rfl) 2 _ rfl
  have c3 := blk_cell (hS.box 1 rfl) 3 _ rfl
  have c4 := blk_cell (hS.box 1 rfl) 4 _ rfl
  have c5 := blk_cell (hS.box 1 rfl) 5 _ rfl
  have c6 := blk_cell (hS.box 1 rfl) 6 _ rfl
  have c7 := blk_cell (hS.box 1 rfl) 7 _ rfl
  go_still_tail 11, (by kernel_rfl)
  change wpList _ _ _ _ _ w3.drew
  have hS := hS.drew
  clear e0 e1 e2 c0 c1 c2 c3 c4 c5 c6 c7
  generalize w3.drew = V at hS ⊢
  have HS := Lib.hid hS
  clear hS
  go_wp2_with ((with_reducible refine at_list ?_); refine wpList_store_whole 11 sizeEnt rb rfl _ _ (HS.out.box 4 rfl) rfl [.int .i64 zxid_, .int .i64 session_, .int .i64 xid_, .int .i64 p.1.kind, .string p.1.path, .string p.1.data, .slice p.1.aclA p.1.acl.length p.1.aclC, .int .i64 p.1.owner, .int .i64 p.1.number, .int .i64 p.1.err, .slice p.1.subsA p.1.subsN p.1.subsC] rfl rfl (by kernel_rfl) ?_; intro w30 hg4 hM4 hz4)
  refine bodyPost_ret (results_cell rfl _ w30 rb _ _ _ _ rfl hg4 Tryz.underlying39 rfl sizeEnt) rfl ?_
  have hS : St w0 w30 (drt pb B s2 :: bx tb _ _ :: grp (TxnW.things p) :: sl 3 1 (some ⟨sb, 0, none⟩) 3 3 cs :: bx rb _ 39 :: l) := HS.out.rebox 4 rfl hg4 hM4
  refine ⟨⟨zxid_, session_, xid_, p.1, p.2⟩, s2, rfl, Lib.hid ⟨⟨H1.out.1, H2.out.1⟩, by rw [H2.out.2.1, H1.out.2.1]; rfl, ?_⟩, ?_⟩
  · rw [Ent.bytesW]; exact H1.out.2.2.trans H2.out.2.2
  · have h1 := hS.tail2
    exact (h1.perm (.cons _ (.cons _ (.refl _)))).drop2

set_option maxHeartbeats 8000000 in
theorem rGetEntry_st {w0 w : World} {l : List Thing} (S : ByteArray) (hf : bfits S.size) (h : St w0 w l) :
    Calls Tryz.prog 19 #[.string S] w (GetG Ent.cells Ent.fine Ent.things (qEnt S.data.toList) Ent.bytes Ent.zero S w0 l) := by
  have hS := (h.box1 #[.int .i64 0, .int .i64 0, .int .i64 0, .int .i64 0, .string ⟨#[]⟩, .string ⟨#[]⟩, .slice none 0 0, .int .i64 0, .int .i64 0, .int .i64 0, .slice none 0 0] 39).box1 #[.string S, .int .i64 0, .int .i64 0] 96
  rw [World.size_alloc] at hS
  have HF := Lib.hid hf
  clear h hf
  go_enter Tryz.func19, Tryz.ntmps19
  go_wp2_with fail
  generalize (w.alloc (.cells #[.int .i64 0, .int .i64 0, .int .i64 0, .int .i64 0, .string ⟨#[]⟩, .string ⟨#[]⟩, .slice none 0 0, .int .i64 0, .int .i64 0, .int .i64 0, .slice none 0 0] 39)).alloc (.cells #[.string S, .int .i64 0, .int .i64 0] 96) = W at *
  generalize w.heap.size = rb at *
  have hS := hS.asDr 0 S HF.out rfl
  simp only [List.set_cons_zero] at hS
  refine (rTakeEntry_st hS).mono ?_
  clear hS
  rintro e w1 ⟨x, s', rfl, HX, hS⟩
  have HS := Lib.hid (hS.box2 #[.int .i64 0, .int .i64 0, .int .i64 0, .int .i64 0, .string ⟨#[]⟩, .string ⟨#[]⟩, .slice none 0 0, .int .i64 0, .int .i64 0, .int .i64 0, .slice none 0 0] 39)
  have hok := hS.dok 0 rfl
  have HOK := Lib.hid hok
  clear hS hok
  go_wp2_with ((with_reducible refine at_list ?_); refine wpList_store_whole 11 sizeEnt w1.heap.size rfl _ _ (HS.out.box 1 rfl) rfl x.cells rfl rfl (by kernel_rfl) ?_; intro w2 hg2 hM2 hz2)
  have hS := HS.out.rebox 1 rfl hg2 hM2
  simp only [List.set_cons_succ, List.set_cons_zero] at hS
  clear HS hg2 hM2 hz2
  generalize w1.heap.size = tb at *
  refine (dend_st hS 0 rfl).mono ?_
  clear hS
  rintro e w3 ⟨rfl, hS⟩
  simp only [List.set_cons_zero] at hS
  have HS := Lib.hid hS
  clear hS
  by_cases hq : (rend S.data.toList s').wr = 0
  · have HQ := Lib.hid hq
    obtain ⟨z, hz⟩ : ∃ z, (rend S.data.toList s').wr = z := ⟨_, rfl⟩
    rw [hz] at hq ⊢
    subst hq
    clear hz
    go_wp2_with (first | ((with_reducible refine at_list ?_); refine wpList_load_chunk 11 _ Tryz.underlying39 rfl sizeEnt ⟨tb, 0, none⟩ rfl x.cells rfl (box_chunk (HS.out.box 1 rfl)) ?_) | ((with_reducible refine at_list ?_); refine wpList_store_whole 11 sizeEnt rb rfl _ _ (HS.out.box 3 rfl) rfl x.cells rfl rfl (by kernel_rfl) ?_; intro w5 hg5 hM5 hz5))
    refine bodyPost_ret (results_cell_tmp rfl _ w5 rb _ _ _ _ rfl hg5 Tryz.underlying39 rfl sizeEnt) rfl ?_
    exact ⟨x, 0, rfl, Lib.hid ⟨HX.out.1, .inl ⟨rfl, by rw [← HX.out.2.1]; exact HQ.out, rel_start HX.out.2.2 HOK.out HQ.out⟩⟩, (HS.out.rebox 3 rfl hg5 hM5).tail.tail.tail2⟩
  · have hb : ((rend S.data.toList s').wr == 0) = false := by simpa using hq
    have HQ := Lib.hid hq
    clear hq
    generalize (rend S.data.toList s').wr = z at hb ⊢
    go_wp2_with ((with_reducible refine at_list ?_); refine wpList_store_whole 11 sizeEnt rb rfl _ _ (HS.out.box 3 rfl) rfl Ent.zero.cells rfl rfl (by kernel_rfl) ?_; intro w5 hg5 hM5 hz5)
    refine bodyPost_ret (results_cell_tmp rfl _ w5 rb _ _ _ _ rfl hg5 Tryz.underlying39 rfl sizeEnt) rfl ?_
    exact ⟨Ent.zero, 120, rfl, Lib.hid ⟨Ent.zero_fine, .inr ⟨rfl, by rw [← HX.out.2.1]; exact HQ.out, rfl⟩⟩, Ent.zero_st (HS.out.rebox 3 rfl hg5 hM5).tail.tail.tail.tail⟩
end Go.Proofs.YtmbkbkfcbloafaaGreat
