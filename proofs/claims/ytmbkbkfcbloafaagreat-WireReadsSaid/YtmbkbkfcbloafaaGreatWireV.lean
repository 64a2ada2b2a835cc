/-
  Things with lists taken up by the document.
  No condition: every law states its own.
-/
import Derived.Test.YtmbkbkfcbloafaaGreatWireU
import Derived.Test.YtmbkbkfcbloafaaGreatJsmall
import Derived.Test.YtmbkbkfcbloafaaGreatWireN2
import Derived.Deep.Cut
namespace Go.Proofs.YtmbkbkfcbloafaaGreat
open Go.RowKit
set_option linter.unusedSectionVars false
set_option linter.unusedSimpArgs false
set_option linter.unusedVariables false
set_option maxRecDepth 100000

theorem Rd.valAt {w : World} {b : Nat} {n cap : Nat} {vs : List Value} (h : Rd w 1 (some ⟨b, 0, none⟩) n cap vs) (k : Nat) {t : Value} (ht : vs[k]? = some t) : w.cell? ⟨b, k, none⟩ = some t := by
  obtain ⟨_, o, ha, _, hc⟩ := h.val ht
  simp only [Option.some.injEq, Addr.mk.injEq, true_and, and_true] at ha
  obtain ⟨rfl, rfl⟩ := ha
  simpa using hc
def Txn.bare (x : Txn) : Prop := (x.subsA = none ∧ x.subsN = 0 ∧ x.subsC = 0)

set_option maxHeartbeats 4000000 in
theorem rtakePart_st {w0 w : World} {l : List Thing} {pb : Nat} {B : ByteArray} {s : RS} (h : St w0 w (drt pb B s :: l)) :
    Calls Tryz.prog 129 #[.pointer (some ⟨pb, 0, none⟩)] w (DkG (fun x => Value.agg (Txn.cells x).toArray) (fun x => Txn.fine x ∧ Txn.bare x) Txn.things (qTxn B.data.toList) Txn.bytes w0 pb B s l) := by
  have hS := (h.box2 #[.int .i64 0, .string ⟨#[]⟩, .string ⟨#[]⟩, .slice none 0 0, .int .i64 0, .int .i64 0, .int .i64 0, .slice none 0 0] 37).box2 #[.int .i64 0, .string ⟨#[]⟩, .string ⟨#[]⟩, .slice none 0 0, .int .i64 0, .int .i64 0, .int .i64 0, .slice none 0 0] 37
  simp only [World.size_alloc] at hS
  have HS := Lib.hid hS
  clear h hS
  go_enter Tryz.func129, Tryz.ntmps129
  go_wp2_with ((with_reducible refine at_list ?_); refine wpList_store_whole 8 sizeTxn (w.heap.size + 1) rfl _ _ (HS.out.box 1 rfl) rfl [.int .i64 0, .string ⟨#[]⟩, .string ⟨#[]⟩, .slice none 0 0, .int .i64 0, .int .i64 0, .int .i64 0, .slice none 0 0] rfl rfl (by kernel_rfl) ?_; intro w9 hg9 hM9 hz9)
  have hS := HS.out.rebox 1 rfl hg9 hM9
  simp only [List.set_cons_succ, List.set_cons_zero] at hS
  clear hg9 hM9 hz9 HS
  generalize w.heap.size = rb at *
  have hS : St w0 w9 (drt pb B s :: bx (rb + 1) #[.int .i64 0, .string ⟨#[]⟩, .string ⟨#[]⟩, .slice none 0 0, .int .i64 0, .int .i64 0, .int .i64 0, .slice none 0 0] 37 :: bx rb #[.int .i64 0, .string ⟨#[]⟩, .string ⟨#[]⟩, .slice none 0 0, .int .i64 0, .int .i64 0, .int .i64 0, .slice none 0 0] 37 :: l) := hS
  refine (dtnum_st hS).mono ?_
  clear hS
  rintro e w1 ⟨kind_, s1, rfl, H1, hS⟩
  have c0 := blk_cell (hS.box 1 rfl) 0 _ rfl
  have f0 := blk_free (hS.box 1 rfl) 0
  have z0 := heap_lt (hS.box 1 rfl)
  have hS := hS.set 1 rfl 0 (.int .i64 kind_)
  have hS : St w0 (w1.setCell ⟨rb + 1, 0, none⟩ (.int .i64 kind_)) (drt pb B s1 :: bx (rb + 1) #[.int .i64 kind_, .string ⟨#[]⟩, .string ⟨#[]⟩, .slice none 0 0, .int .i64 0, .int .i64 0, .int .i64 0, .slice none 0 0] 37 :: bx rb #[.int .i64 0, .string ⟨#[]⟩, .string ⟨#[]⟩, .slice none 0 0, .int .i64 0, .int .i64 0, .int .i64 0, .slice none 0 0] 37 :: l) := hS
  go_wp2_with fail
  refine (dttext_st hS).mono ?_
  clear hS c0 f0 z0
  rintro e w2 ⟨path_, s2, rfl, H2, hS⟩
  have c0 := blk_cell (hS.box 1 rfl) 1 _ rfl
  have f0 := blk_free (hS.box 1 rfl) 1
  have z0 := heap_lt (hS.box 1 rfl)
  have hS := hS.set 1 rfl 1 (.string path_)
  have hS : St w0 (w2.setCell ⟨rb + 1, 1, none⟩ (.string path_)) (drt pb B s2 :: bx (rb + 1) #[.int .i64 kind_, .string path_, .string ⟨#[]⟩, .slice none 0 0, .int .i64 0, .int .i64 0, .int .i64 0, .slice none 0 0] 37 :: bx rb #[.int .i64 0, .string ⟨#[]⟩, .string ⟨#[]⟩, .slice none 0 0, .int .i64 0, .int .i64 0, .int .i64 0, .slice none 0 0] 37 :: l) := hS
  go_wp2_with fail
  refine (dttext_st hS).mono ?_
  clear hS c0 f0 z0
  rintro e w3 ⟨data_, s3, rfl, H3, hS⟩
  have c0 := blk_cell (hS.box 1 rfl) 2 _ rfl
  have f0 := blk_free (hS.box 1 rfl) 2
  have z0 := heap_lt (hS.box 1 rfl)
  have hS := hS.set 1 rfl 2 (.string data_)
  have hS : St w0 (w3.setCell ⟨rb + 1, 2, none⟩ (.string data_)) (drt pb B s3 :: bx (rb + 1) #[.int .i64 kind_, .string path_, .string data_, .slice none 0 0, .int .i64 0, .int .i64 0, .int .i64 0, .slice none 0 0] 37 :: bx rb #[.int .i64 0, .string ⟨#[]⟩, .string ⟨#[]⟩, .slice none 0 0, .int .i64 0, .int .i64 0, .int .i64 0, .slice none 0 0] 37 :: l) := hS
  go_wp2_with fail
  refine (rTakeAcls_st hS).mono ?_
  clear hS c0 f0 z0
  rintro e w4 ⟨acl_, aclA_, aclC_, s4, rfl, H4, hS⟩
  have hS := hS.perm (.cons _ (List.perm_append_comm_assoc [_, _] [_, _] _))
  have c0 := blk_cell (hS.box 1 rfl) 3 _ rfl
  have f0 := blk_free (hS.box 1 rfl) 3
  have z0 := heap_lt (hS.box 1 rfl)
  have hS := hS.set 1 rfl 3 (.slice aclA_ acl_.length aclC_)
  have hS : St w0 (w4.setCell ⟨rb + 1, 3, none⟩ (.slice aclA_ acl_.length aclC_)) (drt pb B s4 :: bx (rb + 1) #[.int .i64 kind_, .string path_, .string data_, .slice aclA_ acl_.length aclC_, .int .i64 0, .int .i64 0, .int .i64 0, .slice none 0 0] 37 :: bx rb #[.int .i64 0, .string ⟨#[]⟩, .string ⟨#[]⟩, .slice none 0 0, .int .i64 0, .int .i64 0, .int .i64 0, .slice none 0 0] 37 :: sl 65 2 aclA_ acl_.length aclC_ (acl_.flatMap Acl.cells) :: grp (acl_.map fun x => grp (Acl.things x)) :: l) := hS
  go_wp2_with fail
  refine (rtake_st hS 0 rfl 3 3 rfl (by omega)).mono ?_
  have hok := hS.dok 0 rfl
  have KH5 : (i64 (rv B.data.toList s4 0) ∧ i64 (rv B.data.toList s4 1) ∧ i64 (rv B.data.toList s4 2)) ∧ rs B.data.toList s4 3 = rs B.data.toList s4 3 ∧ Rel B.data.toList s4 (rs B.data.toList s4 3) (numsB [rv B.data.toList s4 0, rv B.data.toList s4 1, rv B.data.toList s4 2]) := ⟨⟨rv_i64 hok 0, rv_i64 hok 1, rv_i64 hok 2⟩, rfl, rel_nums 3⟩
  clear hS hok c0 f0 z0
  rintro e w5 ⟨sb4, rfl, hS⟩
  simp only [List.set_cons_zero] at hS
  have e0 : w5.cell? ⟨sb4, 0, none⟩ = some (.int .i64 (rv B.data.toList s4 0)) := (hS.slice 0 rfl).rd.cellAt 0 (numsR_get _ _ (by omega))
  have e1 : w5.cell? ⟨sb4, 1, none⟩ = some (.int .i64 (rv B.data.toList s4 1)) := (hS.slice 0 rfl).rd.cellAt 1 (numsR_get _ _ (by omega))
  have e2 : w5.cell? ⟨sb4, 2, none⟩ = some (.int .i64 (rv B.data.toList s4 2)) := (hS.slice 0 rfl).rd.cellAt 2 (numsR_get _ _ (by omega))
  obtain ⟨cs4, hcs4⟩ : ∃ x, x = ic (numsR B.data.toList s4 3) := ⟨_, rfl⟩
  rw [← hcs4] at hS
  have g0 : cs4[0]? = some (.int .i64 (rv B.data.toList s4 0)) := by rw [hcs4]; simp [ic, numsR]
  have g1 : cs4[1]? = some (.int .i64 (rv B.data.toList s4 1)) := by rw [hcs4]; simp [ic, numsR]
  have g2 : cs4[2]? = some (.int .i64 (rv B.data.toList s4 2)) := by rw [hcs4]; simp [ic, numsR]
  clear hcs4
  generalize rv B.data.toList s4 0 = owner_ at e0 g0 KH5
  generalize rv B.data.toList s4 1 = number_ at e1 g1 KH5
  generalize rv B.data.toList s4 2 = err_ at e2 g2 KH5
  obtain ⟨s5, hs5⟩ : ∃ x, x = rs B.data.toList s4 3 := ⟨_, rfl⟩
  rw [← hs5] at hS
  have H5 : Hid ((i64 owner_ ∧ i64 number_ ∧ i64 err_) ∧ s5 = rs B.data.toList s4 3 ∧ Rel B.data.toList s4 s5 (numsB [owner_, number_, err_])) := by rw [← hs5] at KH5; exact Lib.hid ⟨KH5.1, hs5, KH5.2.2⟩
  clear hs5 KH5
  have hS : St w0 w5 (sl 3 1 (some ⟨sb4, 0, none⟩) 3 3 cs4 :: drt pb B s5 :: bx (rb + 1) #[.int .i64 kind_, .string path_, .string data_, .slice aclA_ acl_.length aclC_, .int .i64 0, .int .i64 0, .int .i64 0, .slice none 0 0] 37 :: bx rb #[.int .i64 0, .string ⟨#[]⟩, .string ⟨#[]⟩, .slice none 0 0, .int .i64 0, .int .i64 0, .int .i64 0, .slice none 0 0] 37 :: sl 65 2 aclA_ acl_.length aclC_ (acl_.flatMap Acl.cells) :: grp (acl_.map fun x => grp (Acl.things x)) :: l) := hS
  have G0 := Lib.hid g0
  have G1 := Lib.hid g1
  have G2 := Lib.hid g2
  clear g0 g1 g2 e0 e1 e2
  have e0 : w5.cell? ⟨sb4, 0, none⟩ = some (.int .i64 owner_) := (hS.slice 0 rfl).rd.valAt 0 G0.out
  have c0 := blk_cell (hS.box 2 rfl) 4 _ rfl
  have f0 := blk_free (hS.box 2 rfl) 4
  have z0 := heap_lt (hS.box 2 rfl)
  go_upto_region 8 with (fail)
  have hS := hS.set 2 rfl 4 (.int .i64 owner_)
  have hS : St w0 (w5.setCell ⟨rb + 1, 4, none⟩ (.int .i64 owner_)) (sl 3 1 (some ⟨sb4, 0, none⟩) 3 3 cs4 :: drt pb B s5 :: bx (rb + 1) #[.int .i64 kind_, .string path_, .string data_, .slice aclA_ acl_.length aclC_, .int .i64 owner_, .int .i64 0, .int .i64 0, .slice none 0 0] 37 :: bx rb #[.int .i64 0, .string ⟨#[]⟩, .string ⟨#[]⟩, .slice none 0 0, .int .i64 0, .int .i64 0, .int .i64 0, .slice none 0 0] 37 :: sl 65 2 aclA_ acl_.length aclC_ (acl_.flatMap Acl.cells) :: grp (acl_.map fun x => grp (Acl.things x)) :: l) := hS
  clear e0 c0 f0 z0
  generalize (w5.setCell ⟨rb + 1, 4, none⟩ (.int .i64 owner_)) = v4_0 at hS ⊢
  have e0 : v4_0.cell? ⟨sb4, 1, none⟩ = some (.int .i64 number_) := (hS.slice 0 rfl).rd.valAt 1 G1.out
  have c0 := blk_cell (hS.box 2 rfl) 5 _ rfl
  have f0 := blk_free (hS.box 2 rfl) 5
  have z0 := heap_lt (hS.box 2 rfl)
  go_upto_region 9 with (fail)
  have hS := hS.set 2 rfl 5 (.int .i64 number_)
  have hS : St w0 (v4_0.setCell ⟨rb + 1, 5, none⟩ (.int .i64 number_)) (sl 3 1 (some ⟨sb4, 0, none⟩) 3 3 cs4 :: drt pb B s5 :: bx (rb + 1) #[.int .i64 kind_, .string path_, .string data_, .slice aclA_ acl_.length aclC_, .int .i64 owner_, .int .i64 number_, .int .i64 0, .slice none 0 0] 37 :: bx rb #[.int .i64 0, .string ⟨#[]⟩, .string ⟨#[]⟩, .slice none 0 0, .int .i64 0, .int .i64 0, .int .i64 0, .slice none 0 0] 37 :: sl 65 2 aclA_ acl_.length aclC_ (acl_.flatMap Acl.cells) :: grp (acl_.map fun x => grp (Acl.things x)) :: l) := hS
  clear e0 c0 f0 z0
  generalize (v4_0.setCell ⟨rb + 1, 5, none⟩ (.int .i64 number_)) = v4_1 at hS ⊢
  have e0 : v4_1.cell? ⟨sb4, 2, none⟩ = some (.int .i64 err_) := (hS.slice 0 rfl).rd.valAt 2 G2.out
  have c0 := blk_cell (hS.box 2 rfl) 6 _ rfl
  have f0 := blk_free (hS.box 2 rfl) 6
  have z0 := heap_lt (hS.box 2 rfl)
  go_upto_region 10 with (fail)
  have hS := hS.set 2 rfl 6 (.int .i64 err_)
  have hS : St w0 (v4_1.setCell ⟨rb + 1, 6, none⟩ (.int .i64 err_)) (sl 3 1 (some ⟨sb4, 0, none⟩) 3 3 cs4 :: drt pb B s5 :: bx (rb + 1) #[.int .i64 kind_, .string path_, .string data_, .slice aclA_ acl_.length aclC_, .int .i64 owner_, .int .i64 number_, .int .i64 err_, .slice none 0 0] 37 :: bx rb #[.int .i64 0, .string ⟨#[]⟩, .string ⟨#[]⟩, .slice none 0 0, .int .i64 0, .int .i64 0, .int .i64 0, .slice none 0 0] 37 :: sl 65 2 aclA_ acl_.length aclC_ (acl_.flatMap Acl.cells) :: grp (acl_.map fun x => grp (Acl.things x)) :: l) := hS
  clear e0 c0 f0 z0
  generalize (v4_1.setCell ⟨rb + 1, 6, none⟩ (.int .i64 err_)) = v4_2 at hS ⊢
  have hS := hS.tail
  obtain ⟨X, hX⟩ : ∃ x : Txn, x = ⟨kind_, path_, data_, acl_, aclA_, aclC_, owner_, number_, err_, none, 0, 0⟩ := ⟨_, rfl⟩
  have HQ : Hid ((Txn.fine X ∧ Txn.bare X) ∧ s5 = qTxn B.data.toList s ∧ Rel B.data.toList s s5 (Txn.bytes X)) := by
    rw [hX]
    exact Lib.hid ⟨⟨⟨H1.out.1, H5.out.1.1, H5.out.1.2.1, H5.out.1.2.2, H4.out.1⟩, ⟨rfl, rfl, rfl⟩⟩, by rw [H5.out.2.1, H4.out.2.1, H3.out.2.1, H2.out.2.1, H1.out.2.1]; rfl, ((((H1.out.2.2.trans H2.out.2.2).trans H3.out.2.2).trans H4.out.2.2).trans H5.out.2.2)⟩
  have hS : St w0 v4_2 (drt pb B s5 :: bx (rb + 1) X.cells.toArray 37 :: bx rb #[.int .i64 0, .string ⟨#[]⟩, .string ⟨#[]⟩, .slice none 0 0, .int .i64 0, .int .i64 0, .int .i64 0, .slice none 0 0] 37 :: (Txn.things X ++ l)) := by rw [hX]; exact hS
  clear hX H1 H2 H3 H4 H5
  have z1 := heap_lt (hS.box 2 rfl)
  go_wp2_with (first | ((with_reducible refine at_list ?_); refine wpList_load_chunk 8 _ Tryz.underlying37 rfl sizeTxn ⟨rb + 1, 0, none⟩ rfl X.cells rfl (box_chunk (hS.box 1 rfl)) ?_) | ((with_reducible refine at_list ?_); refine wpList_store_whole 8 sizeTxn rb rfl _ _ (hS.box 2 rfl) rfl X.cells rfl rfl (by kernel_rfl) ?_; intro w30 hg4 hM4 hz4))
  refine bodyPost_ret (results_cell rfl _ w30 rb _ _ _ _ rfl hg4 Tryz.underlying37 rfl sizeTxn) rfl ?_
  have hS := hS.rebox 2 rfl hg4 hM4
  exact ⟨X, s5, rfl, HQ, St.regrp1 (Txn.things X) hS.tail2.tail2⟩
def Op.bare (x : Op) : Prop := (x.subsA = none ∧ x.subsN = 0 ∧ x.subsC = 0) ∧ (x.armedA = none ∧ x.armedN = 0 ∧ x.armedC = 0)

set_option maxHeartbeats 4000000 in
theorem rtakeOp_st {w0 w : World} {l : List Thing} {pb : Nat} {B : ByteArray} {s : RS} (h : St w0 w (drt pb B s :: l)) :
    Calls Tryz.prog 98 #[.pointer (some ⟨pb, 0, none⟩)] w (DkG (fun x => Value.agg (Op.cells x).toArray) (fun x => Op.fine x ∧ Op.bare x) Op.things (qOp B.data.toList) Op.bytes w0 pb B s l) := by
  have hS := (h.box2 #[.int .i64 0, .int .i64 0, .string ⟨#[]⟩, .string ⟨#[]⟩, .slice none 0 0, .int .i64 0, .int .i64 0, .bool false, .slice none 0 0, .slice none 0 0] 30).box2 #[.int .i64 0, .int .i64 0, .string ⟨#[]⟩, .string ⟨#[]⟩, .slice none 0 0, .int .i64 0, .int .i64 0, .bool false, .slice none 0 0, .slice none 0 0] 30
  simp only [World.size_alloc] at hS
  have HS := Lib.hid hS
  clear h hS
  go_enter Tryz.func98, Tryz.ntmps98
  go_wp2_with ((with_reducible refine at_list ?_); refine wpList_store_whole 10 sizeOp (w.heap.size + 1) rfl _ _ (HS.out.box 1 rfl) rfl [.int .i64 0, .int .i64 0, .string ⟨#[]⟩, .string ⟨#[]⟩, .slice none 0 0, .int .i64 0, .int .i64 0, .bool false, .slice none 0 0, .slice none 0 0] rfl rfl (by kernel_rfl) ?_; intro w9 hg9 hM9 hz9)
  have hS := HS.out.rebox 1 rfl hg9 hM9
  simp only [List.set_cons_succ, List.set_cons_zero] at hS
  clear hg9 hM9 hz9 HS
  generalize w.heap.size = rb at *
  have hS : St w0 w9 (drt pb B s :: bx (rb + 1) #[.int .i64 0, .int .i64 0, .string ⟨#[]⟩, .string ⟨#[]⟩, .slice none 0 0, .int .i64 0, .int .i64 0, .bool false, .slice none 0 0, .slice none 0 0] 30 :: bx rb #[.int .i64 0, .int .i64 0, .string ⟨#[]⟩, .string ⟨#[]⟩, .slice none 0 0, .int .i64 0, .int .i64 0, .bool false, .slice none 0 0, .slice none 0 0] 30 :: l) := hS
  refine (rtake_st hS 0 rfl 2 2 rfl (by omega)).mono ?_
  have hok := hS.dok 0 rfl
  have KH1 : (i64 (rv B.data.toList s 0) ∧ i64 (rv B.data.toList s 1)) ∧ rs B.data.toList s 2 = rs B.data.toList s 2 ∧ Rel B.data.toList s (rs B.data.toList s 2) (numsB [rv B.data.toList s 0, rv B.data.toList s 1]) := ⟨⟨rv_i64 hok 0, rv_i64 hok 1⟩, rfl, rel_nums 2⟩
  clear hS hok
  rintro e w1 ⟨sb0, rfl, hS⟩
  simp only [List.set_cons_zero] at hS
  have e0 : w1.cell? ⟨sb0, 0, none⟩ = some (.int .i64 (rv B.data.toList s 0)) := (hS.slice 0 rfl).rd.cellAt 0 (numsR_get _ _ (by omega))
  have e1 : w1.cell? ⟨sb0, 1, none⟩ = some (.int .i64 (rv B.data.toList s 1)) := (hS.slice 0 rfl).rd.cellAt 1 (numsR_get _ _ (by omega))
  obtain ⟨cs0, hcs0⟩ : ∃ x, x = ic (numsR B.data.toList s 2) := ⟨_, rfl⟩
  rw [← hcs0] at hS
  have g0 : cs0[0]? = some (.int .i64 (rv B.data.toList s 0)) := by rw [hcs0]; simp [ic, numsR]
  have g1 : cs0[1]? = some (.int .i64 (rv B.data.toList s 1)) := by rw [hcs0]; simp [ic, numsR]
  clear hcs0
  generalize rv B.data.toList s 0 = kind_ at e0 g0 KH1
  generalize rv B.data.toList s 1 = xid_ at e1 g1 KH1
  obtain ⟨s1, hs1⟩ : ∃ x, x = rs B.data.toList s 2 := ⟨_, rfl⟩
  rw [← hs1] at hS
  have H1 : Hid ((i64 kind_ ∧ i64 xid_) ∧ s1 = rs B.data.toList s 2 ∧ Rel B.data.toList s s1 (numsB [kind_, xid_])) := by rw [← hs1] at KH1; exact Lib.hid ⟨KH1.1, hs1, KH1.2.2⟩
  clear hs1 KH1
  have hS : St w0 w1 (sl 3 1 (some ⟨sb0, 0, none⟩) 2 2 cs0 :: drt pb B s1 :: bx (rb + 1) #[.int .i64 0, .int .i64 0, .string ⟨#[]⟩, .string ⟨#[]⟩, .slice none 0 0, .int .i64 0, .int .i64 0, .bool false, .slice none 0 0, .slice none 0 0] 30 :: bx rb #[.int .i64 0, .int .i64 0, .string ⟨#[]⟩, .string ⟨#[]⟩, .slice none 0 0, .int .i64 0, .int .i64 0, .bool false, .slice none 0 0, .slice none 0 0] 30 :: l) := hS
  have G0 := Lib.hid g0
  have G1 := Lib.hid g1
  clear g0 g1 e0 e1
  have e0 : w1.cell? ⟨sb0, 0, none⟩ = some (.int .i64 kind_) := (hS.slice 0 rfl).rd.valAt 0 G0.out
  have c0 := blk_cell (hS.box 2 rfl) 0 _ rfl
  have f0 := blk_free (hS.box 2 rfl) 0
  have z0 := heap_lt (hS.box 2 rfl)
  go_upto_region 4 with (fail)
  have hS := hS.set 2 rfl 0 (.int .i64 kind_)
  have hS : St w0 (w1.setCell ⟨rb + 1, 0, none⟩ (.int .i64 kind_)) (sl 3 1 (some ⟨sb0, 0, none⟩) 2 2 cs0 :: drt pb B s1 :: bx (rb + 1) #[.int .i64 kind_, .int .i64 0, .string ⟨#[]⟩, .string ⟨#[]⟩, .slice none 0 0, .int .i64 0, .int .i64 0, .bool false, .slice none 0 0, .slice none 0 0] 30 :: bx rb #[.int .i64 0, .int .i64 0, .string ⟨#[]⟩, .string ⟨#[]⟩, .slice none 0 0, .int .i64 0, .int .i64 0, .bool false, .slice none 0 0, .slice none 0 0] 30 :: l) := hS
  clear e0 c0 f0 z0
  generalize (w1.setCell ⟨rb + 1, 0, none⟩ (.int .i64 kind_)) = v0_0 at hS ⊢
  have e0 : v0_0.cell? ⟨sb0, 1, none⟩ = some (.int .i64 xid_) := (hS.slice 0 rfl).rd.valAt 1 G1.out
  have c0 := blk_cell (hS.box 2 rfl) 1 _ rfl
  have f0 := blk_free (hS.box 2 rfl) 1
  have z0 := heap_lt (hS.box 2 rfl)
  go_upto_region 5 with (fail)
  have hS := hS.set 2 rfl 1 (.int .i64 xid_)
  have hS : St w0 (v0_0.setCell ⟨rb + 1, 1, none⟩ (.int .i64 xid_)) (sl 3 1 (some ⟨sb0, 0, none⟩) 2 2 cs0 :: drt pb B s1 :: bx (rb + 1) #[.int .i64 kind_, .int .i64 xid_, .string ⟨#[]⟩, .string ⟨#[]⟩, .slice none 0 0, .int .i64 0, .int .i64 0, .bool false, .slice none 0 0, .slice none 0 0] 30 :: bx rb #[.int .i64 0, .int .i64 0, .string ⟨#[]⟩, .string ⟨#[]⟩, .slice none 0 0, .int .i64 0, .int .i64 0, .bool false, .slice none 0 0, .slice none 0 0] 30 :: l) := hS
  clear e0 c0 f0 z0
  generalize (v0_0.setCell ⟨rb + 1, 1, none⟩ (.int .i64 xid_)) = v0_1 at hS ⊢
  have hS := hS.tail
  go_wp2_with fail
  refine (dttext_st hS).mono ?_
  clear hS
  rintro e w2 ⟨path_, s2, rfl, H2, hS⟩
  have c0 := blk_cell (hS.box 1 rfl) 2 _ rfl
  have f0 := blk_free (hS.box 1 rfl) 2
  have z0 := heap_lt (hS.box 1 rfl)
  have hS := hS.set 1 rfl 2 (.string path_)
  have hS : St w0 (w2.setCell ⟨rb + 1, 2, none⟩ (.string path_)) (drt pb B s2 :: bx (rb + 1) #[.int .i64 kind_, .int .i64 xid_, .string path_, .string ⟨#[]⟩, .slice none 0 0, .int .i64 0, .int .i64 0, .bool false, .slice none 0 0, .slice none 0 0] 30 :: bx rb #[.int .i64 0, .int .i64 0, .string ⟨#[]⟩, .string ⟨#[]⟩, .slice none 0 0, .int .i64 0, .int .i64 0, .bool false, .slice none 0 0, .slice none 0 0] 30 :: l) := hS
  go_wp2_with fail
  refine (dttext_st hS).mono ?_
  clear hS c0 f0 z0
  rintro e w3 ⟨data_, s3, rfl, H3, hS⟩
  have c0 := blk_cell (hS.box 1 rfl) 3 _ rfl
  have f0 := blk_free (hS.box 1 rfl) 3
  have z0 := heap_lt (hS.box 1 rfl)
  have hS := hS.set 1 rfl 3 (.string data_)
  have hS : St w0 (w3.setCell ⟨rb + 1, 3, none⟩ (.string data_)) (drt pb B s3 :: bx (rb + 1) #[.int .i64 kind_, .int .i64 xid_, .string path_, .string data_, .slice none 0 0, .int .i64 0, .int .i64 0, .bool false, .slice none 0 0, .slice none 0 0] 30 :: bx rb #[.int .i64 0, .int .i64 0, .string ⟨#[]⟩, .string ⟨#[]⟩, .slice none 0 0, .int .i64 0, .int .i64 0, .bool false, .slice none 0 0, .slice none 0 0] 30 :: l) := hS
  go_wp2_with fail
  refine (rTakeAcls_st hS).mono ?_
  clear hS c0 f0 z0
  rintro e w4 ⟨acl_, aclA_, aclC_, s4, rfl, H4, hS⟩
  have hS := hS.perm (.cons _ (List.perm_append_comm_assoc [_, _] [_, _] _))
  have c0 := blk_cell (hS.box 1 rfl) 4 _ rfl
  have f0 := blk_free (hS.box 1 rfl) 4
  have z0 := heap_lt (hS.box 1 rfl)
  have hS := hS.set 1 rfl 4 (.slice aclA_ acl_.length aclC_)
  have hS : St w0 (w4.setCell ⟨rb + 1, 4, none⟩ (.slice aclA_ acl_.length aclC_)) (drt pb B s4 :: bx (rb + 1) #[.int .i64 kind_, .int .i64 xid_, .string path_, .string data_, .slice aclA_ acl_.length aclC_, .int .i64 0, .int .i64 0, .bool false, .slice none 0 0, .slice none 0 0] 30 :: bx rb #[.int .i64 0, .int .i64 0, .string ⟨#[]⟩, .string ⟨#[]⟩, .slice none 0 0, .int .i64 0, .int .i64 0, .bool false, .slice none 0 0, .slice none 0 0] 30 :: sl 65 2 aclA_ acl_.length aclC_ (acl_.flatMap Acl.cells) :: grp (acl_.map fun x => grp (Acl.things x)) :: l) := hS
  go_wp2_with fail
  refine (rtake_st hS 0 rfl 2 2 rfl (by omega)).mono ?_
  have hok := hS.dok 0 rfl
  have KH5 : (i64 (rv B.data.toList s4 0) ∧ i64 (rv B.data.toList s4 1)) ∧ rs B.data.toList s4 2 = rs B.data.toList s4 2 ∧ Rel B.data.toList s4 (rs B.data.toList s4 2) (numsB [rv B.data.toList s4 0, rv B.data.toList s4 1]) := ⟨⟨rv_i64 hok 0, rv_i64 hok 1⟩, rfl, rel_nums 2⟩
  clear hS hok c0 f0 z0
  rintro e w5 ⟨sb4, rfl, hS⟩
  simp only [List.set_cons_zero] at hS
  have e0 : w5.cell? ⟨sb4, 0, none⟩ = some (.int .i64 (rv B.data.toList s4 0)) := (hS.slice 0 rfl).rd.cellAt 0 (numsR_get _ _ (by omega))
  have e1 : w5.cell? ⟨sb4, 1, none⟩ = some (.int .i64 (rv B.data.toList s4 1)) := (hS.slice 0 rfl).rd.cellAt 1 (numsR_get _ _ (by omega))
  obtain ⟨cs4, hcs4⟩ : ∃ x, x = ic (numsR B.data.toList s4 2) := ⟨_, rfl⟩
  rw [← hcs4] at hS
  have g0 : cs4[0]? = some (.int .i64 (rv B.data.toList s4 0)) := by rw [hcs4]; simp [ic, numsR]
  have g1 : cs4[1]? = some (.int .i64 (rv B.data.toList s4 1)) := by rw [hcs4]; simp [ic, numsR]
  clear hcs4
  generalize rv B.data.toList s4 0 = flags_ at e0 g0 KH5
  generalize rv B.data.toList s4 1 = version_ at e1 g1 KH5
  obtain ⟨s5, hs5⟩ : ∃ x, x = rs B.data.toList s4 2 := ⟨_, rfl⟩
  rw [← hs5] at hS
  have H5 : Hid ((i64 flags_ ∧ i64 version_) ∧ s5 = rs B.data.toList s4 2 ∧ Rel B.data.toList s4 s5 (numsB [flags_, version_])) := by rw [← hs5] at KH5; exact Lib.hid ⟨KH5.1, hs5, KH5.2.2⟩
  clear hs5 KH5
  have hS : St w0 w5 (sl 3 1 (some ⟨sb4, 0, none⟩) 2 2 cs4 :: drt pb B s5 :: bx (rb + 1) #[.int .i64 kind_, .int .i64 xid_, .string path_, .string data_, .slice aclA_ acl_.length aclC_, .int .i64 0, .int .i64 0, .bool false, .slice none 0 0, .slice none 0 0] 30 :: bx rb #[.int .i64 0, .int .i64 0, .string ⟨#[]⟩, .string ⟨#[]⟩, .slice none 0 0, .int .i64 0, .int .i64 0, .bool false, .slice none 0 0, .slice none 0 0] 30 :: sl 65 2 aclA_ acl_.length aclC_ (acl_.flatMap Acl.cells) :: grp (acl_.map fun x => grp (Acl.things x)) :: l) := hS
  have G0 := Lib.hid g0
  have G1 := Lib.hid g1
  clear g0 g1 e0 e1
  have e0 : w5.cell? ⟨sb4, 0, none⟩ = some (.int .i64 flags_) := (hS.slice 0 rfl).rd.valAt 0 G0.out
  have c0 := blk_cell (hS.box 2 rfl) 5 _ rfl
  have f0 := blk_free (hS.box 2 rfl) 5
  have z0 := heap_lt (hS.box 2 rfl)
  go_upto_region 10 with (fail)
  have hS := hS.set 2 rfl 5 (.int .i64 flags_)
  have hS : St w0 (w5.setCell ⟨rb + 1, 5, none⟩ (.int .i64 flags_)) (sl 3 1 (some ⟨sb4, 0, none⟩) 2 2 cs4 :: drt pb B s5 :: bx (rb + 1) #[.int .i64 kind_, .int .i64 xid_, .string path_, .string data_, .slice aclA_ acl_.length aclC_, .int .i64 flags_, .int .i64 0, .bool false, .slice none 0 0, .slice none 0 0] 30 :: bx rb #[.int .i64 0, .int .i64 0, .string ⟨#[]⟩, .string ⟨#[]⟩, .slice none 0 0, .int .i64 0, .int .i64 0, .bool false, .slice none 0 0, .slice none 0 0] 30 :: sl 65 2 aclA_ acl_.length aclC_ (acl_.flatMap Acl.cells) :: grp (acl_.map fun x => grp (Acl.things x)) :: l) := hS
  clear e0 c0 f0 z0
  generalize (w5.setCell ⟨rb + 1, 5, none⟩ (.int .i64 flags_)) = v4_0 at hS ⊢
  have e0 : v4_0.cell? ⟨sb4, 1, none⟩ = some (.int .i64 version_) := (hS.slice 0 rfl).rd.valAt 1 G1.out
  have c0 := blk_cell (hS.box 2 rfl) 6 _ rfl
  have f0 := blk_free (hS.box 2 rfl) 6
  have z0 := heap_lt (hS.box 2 rfl)
  go_upto_region 11 with (fail)
  have hS := hS.set 2 rfl 6 (.int .i64 version_)
  have hS : St w0 (v4_0.setCell ⟨rb + 1, 6, none⟩ (.int .i64 version_)) (sl 3 1 (some ⟨sb4, 0, none⟩) 2 2 cs4 :: drt pb B s5 :: bx (rb + 1) #[.int .i64 kind_, .int .i64 xid_, .string path_, .string data_, .slice aclA_ acl_.length aclC_, .int .i64 flags_, .int .i64 version_, .bool false, .slice none 0 0, .slice none 0 0] 30 :: bx rb #[.int .i64 0, .int .i64 0, .string ⟨#[]⟩, .string ⟨#[]⟩, .slice none 0 0, .int .i64 0, .int .i64 0, .bool false, .slice none 0 0, .slice none 0 0] 30 :: sl 65 2 aclA_ acl_.length aclC_ (acl_.flatMap Acl.cells) :: grp (acl_.map fun x => grp (Acl.things x)) :: l) := hS
  clear e0 c0 f0 z0
  generalize (v4_0.setCell ⟨rb + 1, 6, none⟩ (.int .i64 version_)) = v4_1 at hS ⊢
  have hS := hS.tail
  go_wp2_with fail
  refine (dtflag_st hS).mono ?_
  clear hS
  rintro e w6 ⟨watch_, s6, rfl, H6, hS⟩
  have c0 := blk_cell (hS.box 1 rfl) 7 _ rfl
  have f0 := blk_free (hS.box 1 rfl) 7
  have z0 := heap_lt (hS.box 1 rfl)
  have hS := hS.set 1 rfl 7 (.bool watch_)
  have hS : St w0 (w6.setCell ⟨rb + 1, 7, none⟩ (.bool watch_)) (drt pb B s6 :: bx (rb + 1) #[.int .i64 kind_, .int .i64 xid_, .string path_, .string data_, .slice aclA_ acl_.length aclC_, .int .i64 flags_, .int .i64 version_, .bool watch_, .slice none 0 0, .slice none 0 0] 30 :: bx rb #[.int .i64 0, .int .i64 0, .string ⟨#[]⟩, .string ⟨#[]⟩, .slice none 0 0, .int .i64 0, .int .i64 0, .bool false, .slice none 0 0, .slice none 0 0] 30 :: sl 65 2 aclA_ acl_.length aclC_ (acl_.flatMap Acl.cells) :: grp (acl_.map fun x => grp (Acl.things x)) :: l) := hS
  obtain ⟨X, hX⟩ : ∃ x : Op, x = ⟨kind_, xid_, path_, data_, acl_, aclA_, aclC_, flags_, version_, watch_, none, 0, 0, none, 0, 0⟩ := ⟨_, rfl⟩
  have HQ : Hid ((Op.fine X ∧ Op.bare X) ∧ s6 = qOp B.data.toList s ∧ Rel B.data.toList s s6 (Op.bytes X)) := by
    rw [hX]
    exact Lib.hid ⟨⟨⟨H1.out.1.1, H1.out.1.2, H5.out.1.1, H5.out.1.2, H4.out.1⟩, ⟨⟨rfl, rfl, rfl⟩, ⟨rfl, rfl, rfl⟩⟩⟩, by rw [H6.out.2.1, H5.out.2.1, H4.out.2.1, H3.out.2.1, H2.out.2.1, H1.out.2.1]; rfl, (((((H1.out.2.2.trans H2.out.2.2).trans H3.out.2.2).trans H4.out.2.2).trans H5.out.2.2).trans H6.out.2.2)⟩
  have hS : St w0 (w6.setCell ⟨rb + 1, 7, none⟩ (.bool watch_)) (drt pb B s6 :: bx (rb + 1) X.cells.toArray 30 :: bx rb #[.int .i64 0, .int .i64 0, .string ⟨#[]⟩, .string ⟨#[]⟩, .slice none 0 0, .int .i64 0, .int .i64 0, .bool false, .slice none 0 0, .slice none 0 0] 30 :: (Op.things X ++ l)) := by rw [hX]; exact hS
  clear hX H1 H2 H3 H4 H5 H6
  have z1 := heap_lt (hS.box 2 rfl)
  go_wp2_with (first | ((with_reducible refine at_list ?_); refine wpList_load_chunk 10 _ Tryz.underlying30 rfl sizeOp ⟨rb + 1, 0, none⟩ rfl X.cells rfl (box_chunk (hS.box 1 rfl)) ?_) | ((with_reducible refine at_list ?_); refine wpList_store_whole 10 sizeOp rb rfl _ _ (hS.box 2 rfl) rfl X.cells rfl rfl (by kernel_rfl) ?_; intro w30 hg4 hM4 hz4))
  refine bodyPost_ret (results_cell rfl _ w30 rb _ _ _ _ rfl hg4 Tryz.underlying30 rfl sizeOp) rfl ?_
  have hS := hS.rebox 2 rfl hg4 hM4
  exact ⟨X, s6, rfl, HQ, St.regrp1 (Op.things X) hS.tail2.tail2⟩
end Go.Proofs.YtmbkbkfcbloafaaGreat
