/-
  Things with lists taken up by the document.
  No condition: every law states its own.
-/
import Derived.Test.YtmbkbkfcbloafaaGreatWireY
import Derived.Test.YtmbkbkfcbloafaaGreatWireN3
import Derived.Test.YtmbkbkfcbloafaaGreatWireO2
import Derived.StillTailTactics
import Derived.Deep.Cut
namespace Go.Proofs.YtmbkbkfcbloafaaGreat
open Go.RowKit
set_option linter.unusedSectionVars false
set_option linter.unusedSimpArgs false
set_option linter.unusedVariables false
set_option maxRecDepth 100000

theorem row_end {α : Type} {f : α → List UInt8} {fine : α → Prop} {q : RS → RS} (hq : Sticky q) {bs : List UInt8} {s1 s2 s' : RS} {L : List α} {k n : Nat} (HL : Hid (L.length = k ∧ (∀ x ∈ L, fine x) ∧ s' = iter q s2 k ∧ Rel bs s2 s' (L.flatMap f)))
    (HN : Hid ((rcount bs 256 s1).1 = n)) (HT : Hid ((rcount bs 256 s1).2 = s2)) (hkn : k ≤ n) (hle : n ≤ 256) (hd : k = n ∨ ¬ s'.wr = 0) : Hid (((∀ x ∈ L, fine x) ∧ L.length ≤ 256) ∧ s' = qList bs q s1 ∧ Rel bs s1 s' (listB f L)) := by
  refine Lib.hid ⟨⟨HL.out.2.1, by rw [HL.out.1]; omega⟩, ?_, ?_⟩
  · unfold qList
    rw [HN.out, HT.out]
    rcases hd with h | h
    · rw [← h]; exact HL.out.2.2.1
    · exact iter_stop hq HL.out.2.2.1 h hkn
  · rcases hd with h | h
    · exact rel_list (by rw [HT.out]; exact HL.out.2.2.2) (by rw [HL.out.1, HN.out]; exact h)
    · exact rel_stuck h
theorem St.pack2 {w0 w : World} {a b1 c1 b2 c2 : Thing} (ts l : List Thing) (h : St w0 w (a :: b2 :: c2 :: b1 :: c1 :: grp ts :: l)) : St w0 w (a :: grp ((ts ++ [b1, c1]) ++ [b2, c2]) :: l) := by
  have h1 : St w0 w (a :: b1 :: c1 :: grp ts :: b2 :: c2 :: l) := h.perm (.cons _ (by
    show ([b2, c2] ++ ([b1, c1, grp ts] ++ l)).Perm ([b1, c1, grp ts] ++ ([b2, c2] ++ l))
    exact List.perm_append_comm_assoc _ _ _))
  have h2 := St.pack ts _ h1
  have h3 : St w0 w (a :: b2 :: c2 :: grp (ts ++ [b1, c1]) :: l) := h2.perm (.cons _ (List.perm_append_comm_assoc [_] [b2, c2] l))
  exact St.pack _ l h3

/-! ### Replies -/
def Rep.fine (x : Rep) : Prop := Ans.fine x.p ∧ (x.p.subsN = x.subs.length ∧ (∀ a ∈ x.subs, Ans.fine a) ∧ x.subs.length ≤ 256)
def Rep.things (x : Rep) : List Thing := Ans.things x.p ++ [sl 70 17 x.p.subsA x.p.subsN x.p.subsC (x.subs.flatMap Ans.cells), grp (x.subs.map fun x => grp (Ans.things x))]
def Rep.zero : Rep := ⟨⟨0, 0, 0, ⟨#[]⟩, ⟨#[]⟩, 0, 0, 0, 0, 0, 0, 0, 0, 0, [], none, 0, [], none, 0, none, 0, 0⟩, []⟩
theorem Rep.zero_fine : Rep.zero.fine := ⟨⟨by unfold i64 Rep.zero; simp, by unfold i64 Rep.zero; simp, by unfold i64 Rep.zero; simp, by unfold i64 Rep.zero; simp, by unfold i64 Rep.zero; simp, by unfold i64 Rep.zero; simp, by unfold i64 Rep.zero; simp, by unfold i64 Rep.zero; simp, by unfold i64 Rep.zero; simp, by unfold i64 Rep.zero; simp, by unfold i64 Rep.zero; simp, by unfold i64 Rep.zero; simp, ⟨fun a ha => absurd ha List.not_mem_nil, Nat.zero_le _⟩, Nat.zero_le _⟩, ⟨rfl, fun a ha => absurd ha List.not_mem_nil, Nat.zero_le _⟩⟩
theorem Rep.zero_st {w0 w : World} {l : List Thing} (h : St w0 w l) : St w0 w (grp (Rep.things Rep.zero) :: l) :=
  St.regrp (Rep.things Rep.zero) ((((((h.grp0).nilSlice 70 17).grp0).nilSlice 9 1).grp0).nilSlice 65 2)
def Ans.bare (x : Ans) : Prop := (x.subsA = none ∧ x.subsN = 0 ∧ x.subsC = 0)

set_option maxHeartbeats 4000000 in
theorem rtakeAnswer_st {w0 w : World} {l : List Thing} {pb : Nat} {B : ByteArray} {s : RS} (h : St w0 w (drt pb B s :: l)) :
    Calls Tryz.prog 60 #[.pointer (some ⟨pb, 0, none⟩)] w (DkG (fun x => Value.agg (Ans.cells x).toArray) (fun x => Ans.fine x ∧ Ans.bare x) Ans.things (qAns B.data.toList) Ans.bytes w0 pb B s l) := by
  have hS := (h.box2 #[.int .i64 0, .int .i64 0, .int .i64 0, .string ⟨#[]⟩, .string ⟨#[]⟩, .int .i64 0, .int .i64 0, .int .i64 0, .int .i64 0, .int .i64 0, .int .i64 0, .int .i64 0, .int .i64 0, .int .i64 0, .slice none 0 0, .slice none 0 0, .slice none 0 0] 70).box2 #[.int .i64 0, .int .i64 0, .int .i64 0, .string ⟨#[]⟩, .string ⟨#[]⟩, .int .i64 0, .int .i64 0, .int .i64 0, .int .i64 0, .int .i64 0, .int .i64 0, .int .i64 0, .int .i64 0, .int .i64 0, .slice none 0 0, .slice none 0 0, .slice none 0 0] 70
  simp only [World.size_alloc] at hS
  have HS := Lib.hid hS
  clear h hS
  go_enter Tryz.func60, Tryz.ntmps60
  go_wp2_with ((with_reducible refine at_list ?_); refine wpList_store_whole 17 sizeAns (w.heap.size + 1) rfl _ _ (HS.out.box 1 rfl) rfl [.int .i64 0, .int .i64 0, .int .i64 0, .string ⟨#[]⟩, .string ⟨#[]⟩, .int .i64 0, .int .i64 0, .int .i64 0, .int .i64 0, .int .i64 0, .int .i64 0, .int .i64 0, .int .i64 0, .int .i64 0, .slice none 0 0, .slice none 0 0, .slice none 0 0] rfl rfl (by kernel_rfl) ?_; intro w9 hg9 hM9 hz9)
  have hS := HS.out.rebox 1 rfl hg9 hM9
  simp only [List.set_cons_succ, List.set_cons_zero] at hS
  clear hg9 hM9 hz9 HS
  generalize w.heap.size = rb at *
  have hS : St w0 w9 (drt pb B s :: bx (rb + 1) #[.int .i64 0, .int .i64 0, .int .i64 0, .string ⟨#[]⟩, .string ⟨#[]⟩, .int .i64 0, .int .i64 0, .int .i64 0, .int .i64 0, .int .i64 0, .int .i64 0, .int .i64 0, .int .i64 0, .int .i64 0, .slice none 0 0, .slice none 0 0, .slice none 0 0] 70 :: bx rb #[.int .i64 0, .int .i64 0, .int .i64 0, .string ⟨#[]⟩, .string ⟨#[]⟩, .int .i64 0, .int .i64 0, .int .i64 0, .int .i64 0, .int .i64 0, .int .i64 0, .int .i64 0, .int .i64 0, .int .i64 0, .slice none 0 0, .slice none 0 0, .slice none 0 0] 70 :: l) := hS
  refine (rtake_st hS 0 rfl 3 3 rfl (by omega)).mono ?_
  have hok := hS.dok 0 rfl
  have KH1 : (i64 (rv B.data.toList s 0) ∧ i64 (rv B.data.toList s 1) ∧ i64 (rv B.data.toList s 2)) ∧ rs B.data.toList s 3 = rs B.data.toList s 3 ∧ Rel B.data.toList s (rs B.data.toList s 3) (numsB [rv B.data.toList s 0, rv B.data.toList s 1, rv B.data.toList s 2]) := ⟨⟨rv_i64 hok 0, rv_i64 hok 1, rv_i64 hok 2⟩, rfl, rel_nums 3⟩
  clear hS hok
  rintro e w1 ⟨sb0, rfl, hS⟩
  simp only [List.set_cons_zero] at hS
  have e0 : w1.cell? ⟨sb0, 0, none⟩ = some (.int .i64 (rv B.data.toList s 0)) := (hS.slice 0 rfl).rd.cellAt 0 (numsR_get _ _ (by omega))
  have e1 : w1.cell? ⟨sb0, 1, none⟩ = some (.int .i64 (rv B.data.toList s 1)) := (hS.slice 0 rfl).rd.cellAt 1 (numsR_get _ _ (by omega))
  have e2 : w1.cell? ⟨sb0, 2, none⟩ = some (.int .i64 (rv B.data.toList s 2)) := (hS.slice 0 rfl).rd.cellAt 2 (numsR_get _ _ (by omega))
  obtain ⟨cs0, hcs0⟩ : ∃ x, x = ic (numsR B.data.toList s 3) := ⟨_, rfl⟩
  rw [← hcs0] at hS
  have g0 : cs0[0]? = some (.int .i64 (rv B.data.toList s 0)) := by rw [hcs0]; simp [ic, numsR]
  have g1 : cs0[1]? = some (.int .i64 (rv B.data.toList s 1)) := by rw [hcs0]; simp [ic, numsR]
  have g2 : cs0[2]? = some (.int .i64 (rv B.data.toList s 2)) := by rw [hcs0]; simp [ic, numsR]
  clear hcs0
  generalize rv B.data.toList s 0 = xid_ at e0 g0 KH1
  generalize rv B.data.toList s 1 = zxid_ at e1 g1 KH1
  generalize rv B.data.toList s 2 = err_ at e2 g2 KH1
  obtain ⟨s1, hs1⟩ : ∃ x, x = rs B.data.toList s 3 := ⟨_, rfl⟩
  rw [← hs1] at hS
  have H1 : Hid ((i64 xid_ ∧ i64 zxid_ ∧ i64 err_) ∧ s1 = rs B.data.toList s 3 ∧ Rel B.data.toList s s1 (numsB [xid_, zxid_, err_])) := by rw [← hs1] at KH1; exact Lib.hid ⟨KH1.1, hs1, KH1.2.2⟩
  clear hs1 KH1
  have hS : St w0 w1 (sl 3 1 (some ⟨sb0, 0, none⟩) 3 3 cs0 :: drt pb B s1 :: bx (rb + 1) #[.int .i64 0, .int .i64 0, .int .i64 0, .string ⟨#[]⟩, .string ⟨#[]⟩, .int .i64 0, .int .i64 0, .int .i64 0, .int .i64 0, .int .i64 0, .int .i64 0, .int .i64 0, .int .i64 0, .int .i64 0, .slice none 0 0, .slice none 0 0, .slice none 0 0] 70 :: bx rb #[.int .i64 0, .int .i64 0, .int .i64 0, .string ⟨#[]⟩, .string ⟨#[]⟩, .int .i64 0, .int .i64 0, .int .i64 0, .int .i64 0, .int .i64 0, .int .i64 0, .int .i64 0, .int .i64 0, .int .i64 0, .slice none 0 0, .slice none 0 0, .slice none 0 0] 70 :: l) := hS
  have G0 := Lib.hid g0
  have G1 := Lib.hid g1
  have G2 := Lib.hid g2
  clear g0 g1 g2 e0 e1 e2
  have e0 : w1.cell? ⟨sb0, 0, none⟩ = some (.int .i64 xid_) := (hS.slice 0 rfl).rd.valAt 0 G0.out
  have c0 := blk_cell (hS.box 2 rfl) 0 _ rfl
  have f0 := blk_free (hS.box 2 rfl) 0
  have z0 := heap_lt (hS.box 2 rfl)
  go_upto_region 4 with (fail)
  have hS := hS.set 2 rfl 0 (.int .i64 xid_)
  have hS : St w0 (w1.setCell ⟨rb + 1, 0, none⟩ (.int .i64 xid_)) (sl 3 1 (some ⟨sb0, 0, none⟩) 3 3 cs0 :: drt pb B s1 :: bx (rb + 1) #[.int .i64 xid_, .int .i64 0, .int .i64 0, .string ⟨#[]⟩, .string ⟨#[]⟩, .int .i64 0, .int .i64 0, .int .i64 0, .int .i64 0, .int .i64 0, .int .i64 0, .int .i64 0, .int .i64 0, .int .i64 0, .slice none 0 0, .slice none 0 0, .slice none 0 0] 70 :: bx rb #[.int .i64 0, .int .i64 0, .int .i64 0, .string ⟨#[]⟩, .string ⟨#[]⟩, .int .i64 0, .int .i64 0, .int .i64 0, .int .i64 0, .int .i64 0, .int .i64 0, .int .i64 0, .int .i64 0, .int .i64 0, .slice none 0 0, .slice none 0 0, .slice none 0 0] 70 :: l) := hS
  clear e0 c0 f0 z0
  generalize (w1.setCell ⟨rb + 1, 0, none⟩ (.int .i64 xid_)) = v0_0 at hS ⊢
  have e0 : v0_0.cell? ⟨sb0, 1, none⟩ = some (.int .i64 zxid_) := (hS.slice 0 rfl).rd.valAt 1 G1.out
  have c0 := blk_cell (hS.box 2 rfl) 1 _ rfl
  have f0 := blk_free (hS.box 2 rfl) 1
  have z0 := heap_lt (hS.box 2 rfl)
  go_upto_region 5 with (fail)
  have hS := hS.set 2 rfl 1 (.int .i64 zxid_)
  have hS : St w0 (v0_0.setCell ⟨rb + 1, 1, none⟩ (.int .i64 zxid_)) (sl 3 1 (some ⟨sb0, 0, none⟩) 3 3 cs0 :: drt pb B s1 :: bx (rb + 1) #[.int .i64 xid_, .int .i64 zxid_, .int .i64 0, .string ⟨#[]⟩, .string ⟨#[]⟩, .int .i64 0, .int .i64 0, .int .i64 0, .int .i64 0, .int .i64 0, .int .i64 0, .int .i64 0, .int .i64 0, .int .i64 0, .slice none 0 0, .slice none 0 0, .slice none 0 0] 70 :: bx rb #[.int .i64 0, .int .i64 0, .int .i64 0, .string ⟨#[]⟩, .string ⟨#[]⟩, .int .i64 0, .int .i64 0, .int .i64 0, .int .i64 0, .int .i64 0, .int .i64 0, .int .i64 0, .int .i64 0, .int .i64 0, .slice none 0 0, .slice none 0 0, .slice none 0 0] 70 :: l) := hS
  clear e0 c0 f0 z0
  generalize (v0_0.setCell ⟨rb + 1, 1, none⟩ (.int .i64 zxid_)) = v0_1 at hS ⊢
  have e0 : v0_1.cell? ⟨sb0, 2, none⟩ = some (.int .i64 err_) := (hS.slice 0 rfl).rd.valAt 2 G2.out
  have c0 := blk_cell (hS.box 2 rfl) 2 _ rfl
  have f0 := blk_free (hS.box 2 rfl) 2
  have z0 := heap_lt (hS.box 2 rfl)
  go_upto_region 6 with (fail)
  have hS := hS.set 2 rfl 2 (.int .i64 err_)
  have hS : St w0 (v0_1.setCell ⟨rb + 1, 2, none⟩ (.int .i64 err_)) (sl 3 1 (some ⟨sb0, 0, none⟩) 3 3 cs0 :: drt pb B s1 :: bx (rb + 1) #[.int .i64 xid_, .int .i64 zxid_, .int .i64 err_, .string ⟨#[]⟩, .string ⟨#[]⟩, .int .i64 0, .int .i64 0, .int .i64 0, .int .i64 0, .int .i64 0, .int .i64 0, .int .i64 0, .int .i64 0, .int .i64 0, .slice none 0 0, .slice none 0 0, .slice none 0 0] 70 :: bx rb #[.int .i64 0, .int .i64 0, .int .i64 0, .string ⟨#[]⟩, .string ⟨#[]⟩, .int .i64 0, .int .i64 0, .int .i64 0, .int .i64 0, .int .i64 0, .int .i64 0, .int .i64 0, .int .i64 0, .int .i64 0, .slice none 0 0, .slice none 0 0, .slice none 0 0] 70 :: l) := hS
  clear e0 c0 f0 z0
  generalize (v0_1.setCell ⟨rb + 1, 2, none⟩ (.int .i64 err_)) = v0_2 at hS ⊢
  have hS := hS.tail
  go_wp2_with fail
  refine (dttext_st hS).mono ?_
  clear hS
  rintro e w2 ⟨path_, s2, rfl, H2, hS⟩
  have c0 := blk_cell (hS.box 1 rfl) 3 _ rfl
  have f0 := blk_free (hS.box 1 rfl) 3
  have z0 := heap_lt (hS.box 1 rfl)
  have hS := hS.set 1 rfl 3 (.string path_)
  have hS : St w0 (w2.setCell ⟨rb + 1, 3, none⟩ (.string path_)) (drt pb B s2 :: bx (rb + 1) #[.int .i64 xid_, .int .i64 zxid_, .int .i64 err_, .string path_, .string ⟨#[]⟩, .int .i64 0, .int .i64 0, .int .i64 0, .int .i64 0, .int .i64 0, .int .i64 0, .int .i64 0, .int .i64 0, .int .i64 0, .slice none 0 0, .slice none 0 0, .slice none 0 0] 70 :: bx rb #[.int .i64 0, .int .i64 0, .int .i64 0, .string ⟨#[]⟩, .string ⟨#[]⟩, .int .i64 0, .int .i64 0, .int .i64 0, .int .i64 0, .int .i64 0, .int .i64 0, .int .i64 0, .int .i64 0, .int .i64 0, .slice none 0 0, .slice none 0 0, .slice none 0 0] 70 :: l) := hS
  go_wp2_with fail
  refine (dttext_st hS).mono ?_
  clear hS c0 f0 z0
  rintro e w3 ⟨data_, s3, rfl, H3, hS⟩
  have c0 := blk_cell (hS.box 1 rfl) 4 _ rfl
  have f0 := blk_free (hS.box 1 rfl) 4
  have z0 := heap_lt (hS.box 1 rfl)
  have hS := hS.set 1 rfl 4 (.string data_)
  have hS : St w0 (w3.setCell ⟨rb + 1, 4, none⟩ (.string data_)) (drt pb B s3 :: bx (rb + 1) #[.int .i64 xid_, .int .i64 zxid_, .int .i64 err_, .string path_, .string data_, .int .i64 0, .int .i64 0, .int .i64 0, .int .i64 0, .int .i64 0, .int .i64 0, .int .i64 0, .int .i64 0, .int .i64 0, .slice none 0 0, .slice none 0 0, .slice none 0 0] 70 :: bx rb #[.int .i64 0, .int .i64 0, .int .i64 0, .string ⟨#[]⟩, .string ⟨#[]⟩, .int .i64 0, .int .i64 0, .int .i64 0, .int .i64 0, .int .i64 0, .int .i64 0, .int .i64 0, .int .i64 0, .int .i64 0, .slice none 0 0, .slice none 0 0, .slice none 0 0] 70 :: l) := hS
  go_wp2_with fail
  refine (rtake_st hS 0 rfl 9 9 rfl (by omega)).mono ?_
  have hok := hS.dok 0 rfl
  have KH4 : (i64 (rv B.data.toList s3 0) ∧ i64 (rv B.data.toList s3 1) ∧ i64 (rv B.data.toList s3 2) ∧ i64 (rv B.data.toList s3 3) ∧ i64 (rv B.data.toList s3 4) ∧ i64 (rv B.data.toList s3 5) ∧ i64 (rv B.data.toList s3 6) ∧ i64 (rv B.data.toList s3 7) ∧ i64 (rv B.data.toList s3 8)) ∧ rs B.data.toList s3 9 = rs B.data.toList s3 9 ∧ Rel B.data.toList s3 (rs B.data.toList s3 9) (numsB [rv B.data.toList s3 0, rv B.data.toList s3 1, rv B.data.toList s3 2, rv B.data.toList s3 3, rv B.data.toList s3 4, rv B.data.toList s3 5, rv B.data.toList s3 6, rv B.data.toList s3 7, rv B.data.toList s3 8]) := ⟨⟨rv_i64 hok 0, rv_i64 hok 1, rv_i64 hok 2, rv_i64 hok 3, rv_i64 hok 4, rv_i64 hok 5, rv_i64 hok 6, rv_i64 hok 7, rv_i64 hok 8⟩, rfl, rel_nums 9⟩
  clear hS hok c0 f0 z0
  rintro e w4 ⟨sb3, rfl, hS⟩
  simp only [List.set_cons_zero] at hS
  have e0 : w4.cell? ⟨sb3, 0, none⟩ = some (.int .i64 (rv B.data.toList s3 0)) := (hS.slice 0 rfl).rd.cellAt 0 (numsR_get _ _ (by omega))
  have e1 : w4.cell? ⟨sb3, 1, none⟩ = some (.int .i64 (rv B.data.toList s3 1)) := (hS.slice 0 rfl).rd.cellAt 1 (numsR_get _ _ (by omega))
  have e2 : w4.cell? ⟨sb3, 2, none⟩ = some (.int .i64 (rv B.data.toList s3 2)) := (hS.slice 0 rfl).rd.cellAt 2 (numsR_get _ _ (by omega))
  have e3 : w4.cell? ⟨sb3, 3, none⟩ = some (.int .i64 (rv B.data.toList s3 3)) := (hS.slice 0 rfl).rd.cellAt 3 (numsR_get _ _ (by omega))
  have e4 : w4.cell? ⟨sb3, 4, none⟩ = some (.int .i64 (rv B.data.toList s3 4)) := (hS.slice 0 rfl).rd.cellAt 4 (numsR_get _ _ (by omega))
  have e5 : w4.cell? ⟨sb3, 5, none⟩ = some (.int .i64 (rv B.data.toList s3 5)) := (hS.slice 0 rfl).rd.cellAt 5 (numsR_get _ _ (by omega))
  have e6 : w4.cell? ⟨sb3, 6, none⟩ = some (.int .i64 (rv B.data.toList s3 6)) := (hS.slice 0 rfl).rd.cellAt 6 (numsR_get _ _ (by omega))
  have e7 : w4.cell? ⟨sb3, 7, none⟩ = some (.int .i64 (rv B.data.toList s3 7)) := (hS.slice 0 rfl).rd.cellAt 7 (numsR_get _ _ (by omega))
  have e8 : w4.cell? ⟨sb3, 8, none⟩ = some (.int .i64 (rv B.data.toList s3 8)) := (hS.slice 0 rfl).rd.cellAt 8 (numsR_get _ _ (by omega))
  obtain ⟨cs3, hcs3⟩ : ∃ x, x = ic (numsR B.data.toList s3 9) := ⟨_, rfl⟩
  rw [← hcs3] at hS
  have g0 : cs3[0]? = some (.int .i64 (rv B.data.toList s3 0)) := by rw [hcs3]; simp [ic, numsR]
  have g1 : cs3[1]? = some (.int .i64 (rv B.data.toList s3 1)) := by rw [hcs3]; simp [ic, numsR]
  have g2 : cs3[2]? = some (.int .i64 (rv B.data.toList s3 2)) := by rw [hcs3]; simp [ic, numsR]
  have g3 : cs3[3]? = some (.int .i64 (rv B.data.toList s3 3)) := by rw [hcs3]; simp [ic, numsR]
  have g4 : cs3[4]? = some (.int .i64 (rv B.data.toList s3 4)) := by rw [hcs3]; simp [ic, numsR]
  have g5 : cs3[5]? = some (.int .i64 (rv B.data.toList s3 5)) := by rw [hcs3]; simp [ic, numsR]
  have g6 : cs3[6]? = some (.int .i64 (rv B.data.toList s3 6)) := by rw [hcs3]; simp [ic, numsR]
  have g7 : cs3[7]? = some (.int .i64 (rv B.data.toList s3 7)) := by rw [hcs3]; simp [ic, numsR]
  have g8 : cs3[8]? = some (.int .i64 (rv B.data.toList s3 8)) := by rw [hcs3]; simp [ic, numsR]
  clear hcs3
  generalize rv B.data.toList s3 0 = s0_ at e0 g0 KH4
  generalize rv B.data.toList s3 1 = s1_ at e1 g1 KH4
  generalize rv B.data.toList s3 2 = s2_ at e2 g2 KH4
  generalize rv B.data.toList s3 3 = s3_ at e3 g3 KH4
  generalize rv B.data.toList s3 4 = s4_ at e4 g4 KH4
  generalize rv B.data.toList s3 5 = s5_ at e5 g5 KH4
  generalize rv B.data.toList s3 6 = s6_ at e6 g6 KH4
  generalize rv B.data.toList s3 7 = s7_ at e7 g7 KH4
  generalize rv B.data.toList s3 8 = s8_ at e8 g8 KH4
  obtain ⟨s4, hs4⟩ : ∃ x, x = rs B.data.toList s3 9 := ⟨_, rfl⟩
  rw [← hs4] at hS
  have H4 : Hid ((i64 s0_ ∧ i64 s1_ ∧ i64 s2_ ∧ i64 s3_ ∧ i64 s4_ ∧ i64 s5_ ∧ i64 s6_ ∧ i64 s7_ ∧ i64 s8_) ∧ s4 = rs B.data.toList s3 9 ∧ Rel B.data.toList s3 s4 (numsB [s0_, s1_, s2_, s3_, s4_, s5_, s6_, s7_, s8_])) := by rw [← hs4] at KH4; exact Lib.hid ⟨KH4.1, hs4, KH4.2.2⟩
  clear hs4 KH4
  have hS : St w0 w4 (sl 3 1 (some ⟨sb3, 0, none⟩) 9 9 cs3 :: drt pb B s4 :: bx (rb + 1) #[.int .i64 xid_, .int .i64 zxid_, .int .i64 err_, .string path_, .string data_, .int .i64 0, .int .i64 0, .int .i64 0, .int .i64 0, .int .i64 0, .int .i64 0, .int .i64 0, .int .i64 0, .int .i64 0, .slice none 0 0, .slice none 0 0, .slice none 0 0] 70 :: bx rb #[.int .i64 0, .int .i64 0, .int .i64 0, .string ⟨#[]⟩, .string ⟨#[]⟩, .int .i64 0, .int .i64 0, .int .i64 0, .int .i64 0, .int .i64 0, .int .i64 0, .int .i64 0, .int .i64 0, .int .i64 0, .slice none 0 0, .slice none 0 0, .slice none 0 0] 70 :: l) := hS
  have G0 := Lib.hid g0
  have G1 := Lib.hid g1
  have G2 := Lib.hid g2
  have G3 := Lib.hid g3
  have G4 := Lib.hid g4
  have G5 := Lib.hid g5
  have G6 := Lib.hid g6
  have G7 := Lib.hid g7
  have G8 := Lib.hid g8
  clear g0 g1 g2 g3 g4 g5 g6 g7 g8 e0 e1 e2 e3 e4 e5 e6 e7 e8
  have e0 : w4.cell? ⟨sb3, 0, none⟩ = some (.int .i64 s0_) := (hS.slice 0 rfl).rd.valAt 0 G0.out
  have e1 : w4.cell? ⟨sb3, 1, none⟩ = some (.int .i64 s1_) := (hS.slice 0 rfl).rd.valAt 1 G1.out
  have e2 : w4.cell? ⟨sb3, 2, none⟩ = some (.int .i64 s2_) := (hS.slice 0 rfl).rd.valAt 2 G2.out
  have e3 : w4.cell? ⟨sb3, 3, none⟩ = some (.int .i64 s3_) := (hS.slice 0 rfl).rd.valAt 3 G3.out
  have e4 : w4.cell? ⟨sb3, 4, none⟩ = some (.int .i64 s4_) := (hS.slice 0 rfl).rd.valAt 4 G4.out
  have e5 : w4.cell? ⟨sb3, 5, none⟩ = some (.int .i64 s5_) := (hS.slice 0 rfl).rd.valAt 5 G5.out
  have e6 : w4.cell? ⟨sb3, 6, none⟩ = some (.int .i64 s6_) := (hS.slice 0 rfl).rd.valAt 6 G6.out
  have e7 : w4.cell? ⟨sb3, 7, none⟩ = some (.int .i64 s7_) := (hS.slice 0 rfl).rd.valAt 7 G7.out
  have e8 : w4.cell? ⟨sb3, 8, none⟩ = some (.int .i64 s8_) := (hS.slice 0 rfl).rd.valAt 8 G8.out
  go_upto_region 9 with (fail)
  go_still_tail 29, (by kernel_rfl)
  change wpList _ _ _ _ _ w4.drew
  have hS := hS.drew
  clear e0 e1 e2 e3 e4 e5 e6 e7 e8
  generalize w4.drew = V at hS ⊢
  have HS := Lib.hid hS
  clear hS
  go_wp2_with ((with_reducible refine at_list ?_); refine wpList_store_chunk 9 sizeStat (rb + 1) 5 rfl _ _ (HS.out.box 2 rfl) (.agg [.int .i64 s0_, .int .i64 s1_, .int .i64 s2_, .int .i64 s3_, .int .i64 s4_, .int .i64 s5_, .int .i64 s6_, .int .i64 s7_, .int .i64 s8_].toArray) rfl [.int .i64 s0_, .int .i64 s1_, .int .i64 s2_, .int .i64 s3_, .int .i64 s4_, .int .i64 s5_, .int .i64 s6_, .int .i64 s7_, .int .i64 s8_] rfl rfl (by show 5 + 9 ≤ 17; omega) (by intro u hu; simp only [List.mem_cons, List.not_mem_nil, or_false] at hu; rcases hu with rfl | rfl | rfl | rfl | rfl | rfl | rfl | rfl | rfl <;> rfl) ?_; intro v3 hg9 hM9 hz9)
  have hg9 : v3.heap[rb + 1]? = some (.cells #[.int .i64 xid_, .int .i64 zxid_, .int .i64 err_, .string path_, .string data_, .int .i64 s0_, .int .i64 s1_, .int .i64 s2_, .int .i64 s3_, .int .i64 s4_, .int .i64 s5_, .int .i64 s6_, .int .i64 s7_, .int .i64 s8_, .slice none 0 0, .slice none 0 0, .slice none 0 0] 70 (0, 0)) := hg9
  have hS := HS.out.rebox 2 rfl hg9 hM9
  have hS : St w0 v3 (sl 3 1 (some ⟨sb3, 0, none⟩) 9 9 cs3 :: drt pb B s4 :: bx (rb + 1) #[.int .i64 xid_, .int .i64 zxid_, .int .i64 err_, .string path_, .string data_, .int .i64 s0_, .int .i64 s1_, .int .i64 s2_, .int .i64 s3_, .int .i64 s4_, .int .i64 s5_, .int .i64 s6_, .int .i64 s7_, .int .i64 s8_, .slice none 0 0, .slice none 0 0, .slice none 0 0] 70 :: bx rb #[.int .i64 0, .int .i64 0, .int .i64 0, .string ⟨#[]⟩, .string ⟨#[]⟩, .int .i64 0, .int .i64 0, .int .i64 0, .int .i64 0, .int .i64 0, .int .i64 0, .int .i64 0, .int .i64 0, .int .i64 0, .slice none 0 0, .slice none 0 0, .slice none 0 0] 70 :: l) := hS
  clear HS hg9 hM9 hz9
  have hS := hS.tail
  refine (rTakeAcls_st hS).mono ?_
  clear hS
  rintro e w5 ⟨acl_, aclA_, aclC_, s5, rfl, H5, hS⟩
  have hS := hS.perm (.cons _ (List.perm_append_comm_assoc [_, _] [_, _] _))
  have c0 := blk_cell (hS.box 1 rfl) 14 _ rfl
  have f0 := blk_free (hS.box 1 rfl) 14
  have z0 := heap_lt (hS.box 1 rfl)
  have hS := hS.set 1 rfl 14 (.slice aclA_ acl_.length aclC_)
  have hS : St w0 (w5.setCell ⟨rb + 1, 14, none⟩ (.slice aclA_ acl_.length aclC_)) (drt pb B s5 :: bx (rb + 1) #[.int .i64 xid_, .int .i64 zxid_, .int .i64 err_, .string path_, .string data_, .int .i64 s0_, .int .i64 s1_, .int .i64 s2_, .int .i64 s3_, .int .i64 s4_, .int .i64 s5_, .int .i64 s6_, .int .i64 s7_, .int .i64 s8_, .slice aclA_ acl_.length aclC_, .slice none 0 0, .slice none 0 0] 70 :: bx rb #[.int .i64 0, .int .i64 0, .int .i64 0, .string ⟨#[]⟩, .string ⟨#[]⟩, .int .i64 0, .int .i64 0, .int .i64 0, .int .i64 0, .int .i64 0, .int .i64 0, .int .i64 0, .int .i64 0, .int .i64 0, .slice none 0 0, .slice none 0 0, .slice none 0 0] 70 :: sl 65 2 aclA_ acl_.length aclC_ (acl_.flatMap Acl.cells) :: grp (acl_.map fun x => grp (Acl.things x)) :: l) := hS
  go_wp2_with fail
  refine (rtakeTexts_st hS).mono ?_
  clear hS c0 f0 z0
  rintro e w6 ⟨kids_, kidsA_, kidsC_, s6, rfl, H6, hS⟩
  have hS := hS.perm (.cons _ (List.perm_append_comm_assoc [_, _] [_, _, _, _] _))
  have c0 := blk_cell (hS.box 1 rfl) 15 _ rfl
  have f0 := blk_free (hS.box 1 rfl) 15
  have z0 := heap_lt (hS.box 1 rfl)
  have hS := hS.set 1 rfl 15 (.slice kidsA_ kids_.length kidsC_)
  have hS : St w0 (w6.setCell ⟨rb + 1, 15, none⟩ (.slice kidsA_ kids_.length kidsC_)) (drt pb B s6 :: bx (rb + 1) #[.int .i64 xid_, .int .i64 zxid_, .int .i64 err_, .string path_, .string data_, .int .i64 s0_, .int .i64 s1_, .int .i64 s2_, .int .i64 s3_, .int .i64 s4_, .int .i64 s5_, .int .i64 s6_, .int .i64 s7_, .int .i64 s8_, .slice aclA_ acl_.length aclC_, .slice kidsA_ kids_.length kidsC_, .slice none 0 0] 70 :: bx rb #[.int .i64 0, .int .i64 0, .int .i64 0, .string ⟨#[]⟩, .string ⟨#[]⟩, .int .i64 0, .int .i64 0, .int .i64 0, .int .i64 0, .int .i64 0, .int .i64 0, .int .i64 0, .int .i64 0, .int .i64 0, .slice none 0 0, .slice none 0 0, .slice none 0 0] 70 :: sl 65 2 aclA_ acl_.length aclC_ (acl_.flatMap Acl.cells) :: grp (acl_.map fun x => grp (Acl.things x)) :: sl 9 1 kidsA_ kids_.length kidsC_ (kids_.flatMap strC) :: grp (kids_.map fun x => grp []) :: l) := hS
  obtain ⟨X, hX⟩ : ∃ x : Ans, x = ⟨xid_, zxid_, err_, path_, data_, s0_, s1_, s2_, s3_, s4_, s5_, s6_, s7_, s8_, acl_, aclA_, aclC_, kids_, kidsA_, kidsC_, none, 0, 0⟩ := ⟨_, rfl⟩
  have HQ : Hid ((Ans.fine X ∧ Ans.bare X) ∧ s6 = qAns B.data.toList s ∧ Rel B.data.toList s s6 (Ans.bytes X)) := by
    rw [hX]
    exact Lib.hid ⟨⟨⟨H1.out.1.1, H1.out.1.2.1, H1.out.1.2.2, H4.out.1.1, H4.out.1.2.1, H4.out.1.2.2.1, H4.out.1.2.2.2.1, H4.out.1.2.2.2.2.1, H4.out.1.2.2.2.2.2.1, H4.out.1.2.2.2.2.2.2.1, H4.out.1.2.2.2.2.2.2.2.1, H4.out.1.2.2.2.2.2.2.2.2, H5.out.1, H6.out.1.2⟩, ⟨rfl, rfl, rfl⟩⟩, by rw [H6.out.2.1, H5.out.2.1, H4.out.2.1, H3.out.2.1, H2.out.2.1, H1.out.2.1]; rfl, (((((H1.out.2.2.trans H2.out.2.2).trans H3.out.2.2).trans H4.out.2.2).trans H5.out.2.2).trans H6.out.2.2)⟩
  have hS : St w0 (w6.setCell ⟨rb + 1, 15, none⟩ (.slice kidsA_ kids_.length kidsC_)) (drt pb B s6 :: bx (rb + 1) X.cells.toArray 70 :: bx rb #[.int .i64 0, .int .i64 0, .int .i64 0, .string ⟨#[]⟩, .string ⟨#[]⟩, .int .i64 0, .int .i64 0, .int .i64 0, .int .i64 0, .int .i64 0, .int .i64 0, .int .i64 0, .int .i64 0, .int .i64 0, .slice none 0 0, .slice none 0 0, .slice none 0 0] 70 :: (Ans.things X ++ l)) := by rw [hX]; exact hS
  clear hX H1 H2 H3 H4 H5 H6
  have z1 := heap_lt (hS.box 2 rfl)
  go_wp2_with (first | ((with_reducible refine at_list ?_); refine wpList_load_chunk 17 _ Tryz.underlying70 rfl sizeAns ⟨rb + 1, 0, none⟩ rfl X.cells rfl (box_chunk (hS.box 1 rfl)) ?_) | ((with_reducible refine at_list ?_); refine wpList_store_whole 17 sizeAns rb rfl _ _ (hS.box 2 rfl) rfl X.cells rfl rfl (by kernel_rfl) ?_; intro w30 hg4 hM4 hz4))
  refine bodyPost_ret (results_cell rfl _ w30 rb _ _ _ _ rfl hg4 Tryz.underlying70 rfl sizeAns) rfl ?_
  have hS := hS.rebox 2 rfl hg4 hM4
  exact ⟨X, s6, rfl, HQ, St.regrp1 (Ans.things X) hS.tail2.tail2⟩
end Go.Proofs.YtmbkbkfcbloafaaGreat
