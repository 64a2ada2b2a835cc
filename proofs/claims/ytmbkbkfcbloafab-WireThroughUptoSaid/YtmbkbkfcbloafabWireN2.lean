/-
  Things with lists taken up by package wire.
  No condition: every law states its own.
-/
import Derived.Test.YtmbkbkfcbloafabWireN
namespace Go.Proofs.Ytmbkbkfcbloafab
open Go.RowKit
set_option linter.unusedSectionVars false
set_option linter.unusedSimpArgs false
set_option linter.unusedVariables false
set_option maxRecDepth 100000

def Op.fine (x : Op) : Prop := i64 x.kind ∧ i64 x.xid ∧ i64 x.flags ∧ i64 x.version ∧ ((∀ a ∈ x.acl, Acl.fine a) ∧ x.acl.length ≤ 256)
def Op.things (x : Op) : List Thing := [sl 146 2 x.aclA x.acl.length x.aclC (x.acl.flatMap Acl.cells), grp (x.acl.map fun a => grp (Acl.things a))]
theorem infoOp : (Try.prog.info? 34).map (fun i => (i.zero.map (·.cells.size), i.size, i.bytes)) = some (some 10, 10, 144) := by kernel_rfl
theorem Op.one (x : Op) : ∀ u ∈ x.cells, u.oneCell' = true := by
  intro u hu
  simp only [Op.cells, List.mem_cons, List.not_mem_nil, or_false] at hu
  rcases hu with rfl | rfl | rfl | rfl | rfl | rfl | rfl | rfl | rfl | rfl <;> rfl

set_option maxHeartbeats 4000000 in
theorem takeOp_st {w0 w : World} {l : List Thing} {pb : Nat} {bs : List UInt8} {s : RS} (h : St w0 w (rdt pb bs s :: l)) :
    Calls Try.prog 71 #[.pointer (some ⟨pb, 0, none⟩)] w (TkG (fun x => Value.agg (Op.cells x).toArray) Op.fine Op.things (qOp bs) Op.bytes w0 pb bs s l) := by
  have hS := (h.box2 #[.int .i64 0, .int .i64 0, .string ⟨#[]⟩, .string ⟨#[]⟩, .slice none 0 0, .int .i64 0, .int .i64 0, .bool false, .slice none 0 0, .slice none 0 0] 34).box2 #[.int .i64 0, .int .i64 0, .string ⟨#[]⟩, .string ⟨#[]⟩, .slice none 0 0, .int .i64 0, .int .i64 0, .bool false, .slice none 0 0, .slice none 0 0] 34
  simp only [World.size_alloc] at hS
  have hz0 : ((w.alloc (.cells #[.int .i64 0, .int .i64 0, .string ⟨#[]⟩, .string ⟨#[]⟩, .slice none 0 0, .int .i64 0, .int .i64 0, .bool false, .slice none 0 0, .slice none 0 0] 34)).alloc (.cells #[.int .i64 0, .int .i64 0, .string ⟨#[]⟩, .string ⟨#[]⟩, .slice none 0 0, .int .i64 0, .int .i64 0, .bool false, .slice none 0 0, .slice none 0 0] 34)).heap.size = w.heap.size + 1 + 1 := by simp only [World.size_alloc]
  clear h
  go_enter Try.func71, Try.ntmps71
  go_wp2_with fail
  generalize (w.alloc (.cells #[.int .i64 0, .int .i64 0, .string ⟨#[]⟩, .string ⟨#[]⟩, .slice none 0 0, .int .i64 0, .int .i64 0, .bool false, .slice none 0 0, .slice none 0 0] 34)).alloc (.cells #[.int .i64 0, .int .i64 0, .string ⟨#[]⟩, .string ⟨#[]⟩, .slice none 0 0, .int .i64 0, .int .i64 0, .bool false, .slice none 0 0, .slice none 0 0] 34) = W at *
  generalize w.heap.size = rb at *
  have hS := hS.slice2 #[.pointer (some ⟨rb + 1, 0, none⟩), .pointer (some ⟨rb + 1, 1, none⟩)] 118 1 2 rfl (by unfold maxLen; omega)
  rw [hz0] at hS
  refine (into_st (l := bx rb #[.int .i64 0, .int .i64 0, .string ⟨#[]⟩, .string ⟨#[]⟩, .slice none 0 0, .int .i64 0, .int .i64 0, .bool false, .slice none 0 0, .slice none 0 0] 34 :: l) [⟨rb + 1, #[.int .i64 0, .int .i64 0, .string ⟨#[]⟩, .string ⟨#[]⟩, .slice none 0 0, .int .i64 0, .int .i64 0, .bool false, .slice none 0 0, .slice none 0 0], 34⟩] [(0, 0), (0, 1)] hS rfl (by intro p hp; simp only [List.mem_cons, List.not_mem_nil, or_false] at hp; rcases hp with rfl | rfl <;> exact ⟨_, rfl, by simp⟩) (by omega)).mono ?_
  have hok := (hS.rok 0 rfl).1
  have KH1 : (i64 (rv bs s 0) ∧ i64 (rv bs s 1)) ∧ rs bs s 2 = rs bs s 2 ∧ Rel bs s (rs bs s 2) (numsB [rv bs s 0, rv bs s 1]) := ⟨⟨rv_i64 hok 0, rv_i64 hok 1⟩, rfl, rel_nums 2⟩
  clear hS hok hz0
  rintro e w1 ⟨rfl, hS⟩
  have hS : St w0 w1 (rdt pb bs (rs bs s 2) :: sl 118 1 (some ⟨rb + 1 + 1, 0, none⟩) 2 2 #[.pointer (some ⟨rb + 1, 0, none⟩), .pointer (some ⟨rb + 1, 1, none⟩)].toList :: bx (rb + 1) #[.int .i64 (rv bs s 0), .int .i64 (rv bs s 1), .string ⟨#[]⟩, .string ⟨#[]⟩, .slice none 0 0, .int .i64 0, .int .i64 0, .bool false, .slice none 0 0, .slice none 0 0] 34 :: bx rb #[.int .i64 0, .int .i64 0, .string ⟨#[]⟩, .string ⟨#[]⟩, .slice none 0 0, .int .i64 0, .int .i64 0, .bool false, .slice none 0 0, .slice none 0 0] 34 :: l) := hS
  have hS := hS.tail2
  generalize rv bs s 0 = kind_ at hS KH1
  generalize rv bs s 1 = xid_ at hS KH1
  obtain ⟨s1, hs1⟩ : ∃ x, x = rs bs s 2 := ⟨_, rfl⟩
  rw [← hs1] at hS
  have H1 : Hid ((i64 kind_ ∧ i64 xid_) ∧ s1 = rs bs s 2 ∧ Rel bs s s1 (numsB [kind_, xid_])) := by rw [← hs1] at KH1; exact Lib.hid ⟨KH1.1, hs1, KH1.2.2⟩
  clear hs1 KH1
  go_wp2_with fail
  refine (ttext_st hS).mono ?_
  clear hS
  rintro e w2 ⟨path_, s2, rfl, H2, hS⟩
  have c0 := blk_cell (hS.box 1 rfl) 2 _ rfl
  have f0 := blk_free (hS.box 1 rfl) 2
  have z0 := heap_lt (hS.box 1 rfl)
  have hS := hS.set 1 rfl 2 (.string path_)
  have hS : St w0 (w2.setCell ⟨rb + 1, 2, none⟩ (.string path_)) (rdt pb bs s2 :: bx (rb + 1) #[.int .i64 kind_, .int .i64 xid_, .string path_, .string ⟨#[]⟩, .slice none 0 0, .int .i64 0, .int .i64 0, .bool false, .slice none 0 0, .slice none 0 0] 34 :: bx rb #[.int .i64 0, .int .i64 0, .string ⟨#[]⟩, .string ⟨#[]⟩, .slice none 0 0, .int .i64 0, .int .i64 0, .bool false, .slice none 0 0, .slice none 0 0] 34 :: l) := hS
  go_wp2_with fail
  refine (ttext_st hS).mono ?_
  clear hS c0 f0 z0
  rintro e w3 ⟨data_, s3, rfl, H3, hS⟩
  have c0 := blk_cell (hS.box 1 rfl) 3 _ rfl
  have f0 := blk_free (hS.box 1 rfl) 3
  have z0 := heap_lt (hS.box 1 rfl)
  have hS := hS.set 1 rfl 3 (.string data_)
  have hS : St w0 (w3.setCell ⟨rb + 1, 3, none⟩ (.string data_)) (rdt pb bs s3 :: bx (rb + 1) #[.int .i64 kind_, .int .i64 xid_, .string path_, .string data_, .slice none 0 0, .int .i64 0, .int .i64 0, .bool false, .slice none 0 0, .slice none 0 0] 34 :: bx rb #[.int .i64 0, .int .i64 0, .string ⟨#[]⟩, .string ⟨#[]⟩, .slice none 0 0, .int .i64 0, .int .i64 0, .bool false, .slice none 0 0, .slice none 0 0] 34 :: l) := hS
  go_wp2_with fail
  refine (rowsAcl_st hS).mono ?_
  clear hS c0 f0 z0
  rintro e w4 ⟨acl_, aclA_, aclC_, s4, rfl, H4, hS⟩
  have hS := hS.perm (.cons _ (List.perm_append_comm_assoc [_, _] [_, _] _))
  have c0 := blk_cell (hS.box 1 rfl) 4 _ rfl
  have f0 := blk_free (hS.box 1 rfl) 4
  have z0 := heap_lt (hS.box 1 rfl)
  have hS := hS.set 1 rfl 4 (.slice aclA_ acl_.length aclC_)
  have hS : St w0 (w4.setCell ⟨rb + 1, 4, none⟩ (.slice aclA_ acl_.length aclC_)) (rdt pb bs s4 :: bx (rb + 1) #[.int .i64 kind_, .int .i64 xid_, .string path_, .string data_, .slice aclA_ acl_.length aclC_, .int .i64 0, .int .i64 0, .bool false, .slice none 0 0, .slice none 0 0] 34 :: bx rb #[.int .i64 0, .int .i64 0, .string ⟨#[]⟩, .string ⟨#[]⟩, .slice none 0 0, .int .i64 0, .int .i64 0, .bool false, .slice none 0 0, .slice none 0 0] 34 :: sl 146 2 aclA_ acl_.length aclC_ (acl_.flatMap Acl.cells) :: grp (acl_.map fun x => grp (Acl.things x)) :: l) := hS
  go_wp2_with fail
  have hS := hS.slice2 #[.pointer (some ⟨rb + 1, 5, none⟩), .pointer (some ⟨rb + 1, 6, none⟩)] 118 1 2 rfl (by unfold maxLen; omega)
  simp only [World.size_alloc, World.size_setCell] at hS
  generalize w4.heap.size = ab at hS ⊢
  refine (into_st (l := bx rb #[.int .i64 0, .int .i64 0, .string ⟨#[]⟩, .string ⟨#[]⟩, .slice none 0 0, .int .i64 0, .int .i64 0, .bool false, .slice none 0 0, .slice none 0 0] 34 :: sl 146 2 aclA_ acl_.length aclC_ (acl_.flatMap Acl.cells) :: grp (acl_.map fun x => grp (Acl.things x)) :: l) [⟨rb + 1, #[.int .i64 kind_, .int .i64 xid_, .string path_, .string data_, .slice aclA_ acl_.length aclC_, .int .i64 0, .int .i64 0, .bool false, .slice none 0 0, .slice none 0 0], 34⟩] [(0, 5), (0, 6)] hS rfl (by intro p hp; simp only [List.mem_cons, List.not_mem_nil, or_false] at hp; rcases hp with rfl | rfl <;> exact ⟨_, rfl, by simp⟩) (by omega)).mono ?_
  have hok := (hS.rok 0 rfl).1
  have KH5 : (i64 (rv bs s4 0) ∧ i64 (rv bs s4 1)) ∧ rs bs s4 2 = rs bs s4 2 ∧ Rel bs s4 (rs bs s4 2) (numsB [rv bs s4 0, rv bs s4 1]) := ⟨⟨rv_i64 hok 0, rv_i64 hok 1⟩, rfl, rel_nums 2⟩
  clear hS hok c0 f0 z0
  rintro e w5 ⟨rfl, hS⟩
  have hS : St w0 w5 (rdt pb bs (rs bs s4 2) :: sl 118 1 (some ⟨ab, 0, none⟩) 2 2 #[.pointer (some ⟨rb + 1, 5, none⟩), .pointer (some ⟨rb + 1, 6, none⟩)].toList :: bx (rb + 1) #[.int .i64 kind_, .int .i64 xid_, .string path_, .string data_, .slice aclA_ acl_.length aclC_, .int .i64 (rv bs s4 0), .int .i64 (rv bs s4 1), .bool false, .slice none 0 0, .slice none 0 0] 34 :: bx rb #[.int .i64 0, .int .i64 0, .string ⟨#[]⟩, .string ⟨#[]⟩, .slice none 0 0, .int .i64 0, .int .i64 0, .bool false, .slice none 0 0, .slice none 0 0] 34 :: sl 146 2 aclA_ acl_.length aclC_ (acl_.flatMap Acl.cells) :: grp (acl_.map fun x => grp (Acl.things x)) :: l) := hS
  have hS := hS.tail2
  generalize rv bs s4 0 = flags_ at hS KH5
  generalize rv bs s4 1 = version_ at hS KH5
  obtain ⟨s5, hs5⟩ : ∃ x, x = rs bs s4 2 := ⟨_, rfl⟩
  rw [← hs5] at hS
  have H5 : Hid ((i64 flags_ ∧ i64 version_) ∧ s5 = rs bs s4 2 ∧ Rel bs s4 s5 (numsB [flags_, version_])) := by rw [← hs5] at KH5; exact Lib.hid ⟨KH5.1, hs5, KH5.2.2⟩
  clear hs5 KH5
  go_wp2_with fail
  refine (tflag_st hS).mono ?_
  clear hS
  rintro e w6 ⟨watch_, s6, rfl, H6, hS⟩
  have c0 := blk_cell (hS.box 1 rfl) 7 _ rfl
  have f0 := blk_free (hS.box 1 rfl) 7
  have z0 := heap_lt (hS.box 1 rfl)
  have hS := hS.set 1 rfl 7 (.bool watch_)
  have hS : St w0 (w6.setCell ⟨rb + 1, 7, none⟩ (.bool watch_)) (rdt pb bs s6 :: bx (rb + 1) #[.int .i64 kind_, .int .i64 xid_, .string path_, .string data_, .slice aclA_ acl_.length aclC_, .int .i64 flags_, .int .i64 version_, .bool watch_, .slice none 0 0, .slice none 0 0] 34 :: bx rb #[.int .i64 0, .int .i64 0, .string ⟨#[]⟩, .string ⟨#[]⟩, .slice none 0 0, .int .i64 0, .int .i64 0, .bool false, .slice none 0 0, .slice none 0 0] 34 :: sl 146 2 aclA_ acl_.length aclC_ (acl_.flatMap Acl.cells) :: grp (acl_.map fun x => grp (Acl.things x)) :: l) := hS
  obtain ⟨X, hX⟩ : ∃ x : Op, x = ⟨kind_, xid_, path_, data_, acl_, aclA_, aclC_, flags_, version_, watch_, none, 0, 0, none, 0, 0⟩ := ⟨_, rfl⟩
  have HQ : Hid (Op.fine X ∧ s6 = qOp bs s ∧ Rel bs s s6 (Op.bytes X)) := by
    rw [hX]
    exact Lib.hid ⟨⟨H1.out.1.1, H1.out.1.2, H5.out.1.1, H5.out.1.2, H4.out.1⟩, by rw [H6.out.2.1, H5.out.2.1, H4.out.2.1, H3.out.2.1, H2.out.2.1, H1.out.2.1]; rfl, (((((H1.out.2.2.trans H2.out.2.2).trans H3.out.2.2).trans H4.out.2.2).trans H5.out.2.2).trans H6.out.2.2)⟩
  have hS : St w0 (w6.setCell ⟨rb + 1, 7, none⟩ (.bool watch_)) (rdt pb bs s6 :: bx (rb + 1) X.cells.toArray 34 :: bx rb #[.int .i64 0, .int .i64 0, .string ⟨#[]⟩, .string ⟨#[]⟩, .slice none 0 0, .int .i64 0, .int .i64 0, .bool false, .slice none 0 0, .slice none 0 0] 34 :: (Op.things X ++ l)) := by rw [hX]; exact hS
  clear hX H1 H2 H3 H4 H5 H6
  have z1 := heap_lt (hS.box 2 rfl)
  go_wp2_with (first | ((with_reducible refine at_list ?_); refine wpList_load_chunk 10 _ Try.underlying34 rfl sizeOp ⟨rb + 1, 0, none⟩ rfl X.cells rfl (box_chunk (hS.box 1 rfl)) ?_) | ((with_reducible refine at_list ?_); refine wpList_store_whole 10 sizeOp rb rfl _ _ (hS.box 2 rfl) rfl X.cells rfl rfl (by kernel_rfl) ?_; intro w30 hg4 hM4 hz4))
  refine bodyPost_ret (results_cell rfl _ w30 rb _ _ _ _ rfl hg4 Try.underlying34 rfl sizeOp) rfl ?_
  have hS := hS.rebox 2 rfl hg4 hM4
  exact ⟨X, s6, rfl, HQ, St.regrp1 (Op.things X) hS.tail2.tail2⟩

set_option maxHeartbeats 2000000 in
theorem rowsOp_st {w0 w : World} {l : List Thing} {pb : Nat} {bs : List UInt8} {s : RS} (h : St w0 w (rdt pb bs s :: l)) :
    Calls Try.prog 72 #[.pointer (some ⟨pb, 0, none⟩), .func (.func 71) #[] #[]] w (RowTk 34 10 Op.cells Op.fine Op.things (qOp bs) Op.bytes w0 pb bs s l) := by
  obtain ⟨ip, iz, hi1, hi2, hi3, hi4, hi5⟩ := info_row infoOp
  have HI := Lib.hid (And.intro hi1 (And.intro hi2 (And.intro hi3 (And.intro hi4 hi5))))
  have HS := Lib.hid h
  clear h hi1 hi2 hi3 hi4 hi5
  go_enter Try.func72, Try.ntmps72
  go_wp2_with fail
  refine (rcount_st HS.out 0 rfl 256 (by omega)).mono ?_
  rintro e w1 ⟨rfl, hS⟩
  simp only [List.set_cons_zero] at hS
  have hle : (rcount bs 256 s).1 ≤ 256 := (rcount_ok (most := 256) (HS.out.rok 0 rfl).1).2
  obtain ⟨n, hn⟩ : ∃ n, (rcount bs 256 s).1 = n := ⟨_, rfl⟩
  obtain ⟨s1, hs1⟩ : ∃ s1, (rcount bs 256 s).2 = s1 := ⟨_, rfl⟩
  rw [hn] at hle ⊢
  rw [hs1] at hS
  have hS := hS.rowStart 34 10
  have HN := Lib.hid hn
  have HT := Lib.hid hs1
  clear HS hn hs1
  have HS := Lib.hid hS
  clear hS
  go_wp2
  go_loopg [5, 8] n (fun g x y wr => ∃ (k : Nat) (L : List Op) (a : Option Addr) (cap : Nat) (s' : RS), k + g = n ∧ y = .int .i64 k ∧ x = .slice a k cap ∧ Hid (L.length = k ∧ (∀ x ∈ L, Op.fine x) ∧ s' = iter (qOp bs) s1 k ∧ Rel bs s1 s' (L.flatMap Op.bytes)) ∧ St w0 wr (rdt pb bs s' :: sl 34 10 a k cap (L.flatMap Op.cells) :: grp (L.map fun x => grp (Op.things x)) :: l))
  case atStart => exact ⟨0, [], none, 0, s1, by omega, rfl, rfl, Lib.hid ⟨rfl, fun _ h => absurd h List.not_mem_nil, rfl, Rel.refl⟩, HS.out⟩
  case round =>
    obtain ⟨k, L, a, cap, s', hkg, rfl, rfl, HL, hS⟩ := hrel
    by_cases hlt : k < n
    · go_wp2_with fail
      refine (takeOp_st hS).mono ?_
      clear hS
      rintro e w2 ⟨t, s2, rfl, HQ, hS⟩
      simp only [Op.cells]
      have hS := hS.absorb.slice1 #[.int .i64 t.kind, .int .i64 t.xid, .string t.path, .string t.data, .slice t.aclA t.acl.length t.aclC, .int .i64 t.flags, .int .i64 t.version, .bool t.watch, .slice t.subsA t.subsN t.subsC, .slice t.armedA t.armedN t.armedC] 34 10 1 rfl (by unfold maxLen; omega)
      have HR := Lib.hid (hS.slice 0 rfl).rd
      have HA := Lib.hid (hS.slice 2 rfl)
      have HS := Lib.hid hS
      clear hS
      go_wp2_with (at_builtin; refine wpList_append 34 ip iz 10 144 (by kernel_rfl) HI.out.1 HI.out.2.1 HI.out.2.2.1 HI.out.2.2.2.1 HI.out.2.2.2.2 a k cap (L.flatMap Op.cells) rfl HA.out (some ⟨w2.heap.size, 0, none⟩) 1 1 t.cells rfl HR.out (Op.one t) (by unfold maxLen; omega) (by omega) ?_; intro a6 cap6 w6 hS6 hM6 hF6 hN6 hR6; have hSA := (HS.out.regrow 2 rfl hS6 hM6 hF6).tail; have HSA := Lib.hid hSA; clear hN6 hR6 hSA hS6 hM6 hF6)
      go_roundg (gk - 1)
      case measure => omega
      case rel =>
        refine ⟨k + 1, L ++ [t], a6, cap6, s2, by omega, by simp, rfl, Lib.hid ⟨by simp [HL.out.1], list_snoc_all HL.out.2.1 HQ.out.1, HQ.out.2.1.trans (congrArg _ HL.out.2.2.1), by rw [flat_snoc]; exact HL.out.2.2.2.trans HQ.out.2.2⟩, ?_⟩
        rw [flat_snoc, List.map_append]
        exact HSA.out
    · have hk : k = n := by omega
      have HK := Lib.hid hk
      clear hkg hk
      go_wp2
      go_ret
      refine ⟨L, a, cap, s', by rw [HL.out.1]; rfl, Lib.hid ⟨⟨HL.out.2.1, by rw [HL.out.1, HK.out]; exact hle⟩, ?_, ?_⟩, ?_⟩
      · unfold qList
        rw [HN.out, HT.out, ← HK.out]
        exact HL.out.2.2.1
      · exact rel_list (by rw [HT.out]; exact HL.out.2.2.2) (by rw [HL.out.1, HN.out]; exact HK.out)
      · rw [HL.out.1]; exact hS

def Arm.fine (x : Arm) : Prop := i64 x.kind ∧ i64 x.czxid ∧ i64 x.mzxid ∧ i64 x.pzxid
def Arm.things (x : Arm) : List Thing := []
theorem infoArm : (Try.prog.info? 130).map (fun i => (i.zero.map (·.cells.size), i.size, i.bytes)) = some (some 5, 5, 48) := by kernel_rfl
theorem Arm.one (x : Arm) : ∀ u ∈ x.cells, u.oneCell' = true := by
  intro u hu
  simp only [Arm.cells, List.mem_cons, List.not_mem_nil, or_false] at hu
  rcases hu with rfl | rfl | rfl | rfl | rfl <;> rfl

set_option maxHeartbeats 4000000 in
theorem takeArmed_st {w0 w : World} {l : List Thing} {pb : Nat} {bs : List UInt8} {s : RS} (h : St w0 w (rdt pb bs s :: l)) :
    Calls Try.prog 74 #[.pointer (some ⟨pb, 0, none⟩)] w (TkG (fun x => Value.agg (Arm.cells x).toArray) Arm.fine Arm.things (qArm bs) Arm.bytes w0 pb bs s l) := by
  have hS := (h.box2 #[.int .i64 0, .string ⟨#[]⟩, .int .i64 0, .int .i64 0, .int .i64 0] 130).box2 #[.int .i64 0, .string ⟨#[]⟩, .int .i64 0, .int .i64 0, .int .i64 0] 130
  simp only [World.size_alloc] at hS
  have hz0 : ((w.alloc (.cells #[.int .i64 0, .string ⟨#[]⟩, .int .i64 0, .int .i64 0, .int .i64 0] 130)).alloc (.cells #[.int .i64 0, .string ⟨#[]⟩, .int .i64 0, .int .i64 0, .int .i64 0] 130)).heap.size = w.heap.size + 1 + 1 := by simp only [World.size_alloc]
  clear h
  go_enter Try.func74, Try.ntmps74
  go_wp2_with fail
  generalize (w.alloc (.cells #[.int .i64 0, .string ⟨#[]⟩, .int .i64 0, .int .i64 0, .int .i64 0] 130)).alloc (.cells #[.int .i64 0, .string ⟨#[]⟩, .int .i64 0, .int .i64 0, .int .i64 0] 130) = W at *
  generalize w.heap.size = rb at *
  refine (tnum_st hS).mono ?_
  clear hS
  rintro e w1 ⟨kind_, s1, rfl, H1, hS⟩
  have c0 := blk_cell (hS.box 1 rfl) 0 _ rfl
  have f0 := blk_free (hS.box 1 rfl) 0
  have z0 := heap_lt (hS.box 1 rfl)
  have hS := hS.set 1 rfl 0 (.int .i64 kind_)
  have hS : St w0 (w1.setCell ⟨rb + 1, 0, none⟩ (.int .i64 kind_)) (rdt pb bs s1 :: bx (rb + 1) #[.int .i64 kind_, .string ⟨#[]⟩, .int .i64 0, .int .i64 0, .int .i64 0] 130 :: bx rb #[.int .i64 0, .string ⟨#[]⟩, .int .i64 0, .int .i64 0, .int .i64 0] 130 :: l) := hS
  go_wp2_with fail
  refine (ttext_st hS).mono ?_
  clear hS c0 f0 z0
  rintro e w2 ⟨path_, s2, rfl, H2, hS⟩
  have c0 := blk_cell (hS.box 1 rfl) 1 _ rfl
  have f0 := blk_free (hS.box 1 rfl) 1
  have z0 := heap_lt (hS.box 1 rfl)
  have hS := hS.set 1 rfl 1 (.string path_)
  have hS : St w0 (w2.setCell ⟨rb + 1, 1, none⟩ (.string path_)) (rdt pb bs s2 :: bx (rb + 1) #[.int .i64 kind_, .string path_, .int .i64 0, .int .i64 0, .int .i64 0] 130 :: bx rb #[.int .i64 0, .string ⟨#[]⟩, .int .i64 0, .int .i64 0, .int .i64 0] 130 :: l) := hS
  go_wp2_with fail
  have hS := hS.slice2 #[.pointer (some ⟨rb + 1, 2, none⟩), .pointer (some ⟨rb + 1, 3, none⟩), .pointer (some ⟨rb + 1, 4, none⟩)] 118 1 3 rfl (by unfold maxLen; omega)
  simp only [World.size_alloc, World.size_setCell] at hS
  generalize w2.heap.size = ab at hS ⊢
  refine (into_st (l := bx rb #[.int .i64 0, .string ⟨#[]⟩, .int .i64 0, .int .i64 0, .int .i64 0] 130 :: l) [⟨rb + 1, #[.int .i64 kind_, .string path_, .int .i64 0, .int .i64 0, .int .i64 0], 130⟩] [(0, 2), (0, 3), (0, 4)] hS rfl (by intro p hp; simp only [List.mem_cons, List.not_mem_nil, or_false] at hp; rcases hp with rfl | rfl | rfl <;> exact ⟨_, rfl, by simp⟩) (by omega)).mono ?_
  have hok := (hS.rok 0 rfl).1
  have KH3 : (i64 (rv bs s2 0) ∧ i64 (rv bs s2 1) ∧ i64 (rv bs s2 2)) ∧ rs bs s2 3 = rs bs s2 3 ∧ Rel bs s2 (rs bs s2 3) (numsB [rv bs s2 0, rv bs s2 1, rv bs s2 2]) := ⟨⟨rv_i64 hok 0, rv_i64 hok 1, rv_i64 hok 2⟩, rfl, rel_nums 3⟩
  clear hS hok c0 f0 z0
  rintro e w3 ⟨rfl, hS⟩
  have hS : St w0 w3 (rdt pb bs (rs bs s2 3) :: sl 118 1 (some ⟨ab, 0, none⟩) 3 3 #[.pointer (some ⟨rb + 1, 2, none⟩), .pointer (some ⟨rb + 1, 3, none⟩), .pointer (some ⟨rb + 1, 4, none⟩)].toList :: bx (rb + 1) #[.int .i64 kind_, .string path_, .int .i64 (rv bs s2 0), .int .i64 (rv bs s2 1), .int .i64 (rv bs s2 2)] 130 :: bx rb #[.int .i64 0, .string ⟨#[]⟩, .int .i64 0, .int .i64 0, .int .i64 0] 130 :: l) := hS
  have hS := hS.tail2
  generalize rv bs s2 0 = czxid_ at hS KH3
  generalize rv bs s2 1 = mzxid_ at hS KH3
  generalize rv bs s2 2 = pzxid_ at hS KH3
  obtain ⟨s3, hs3⟩ : ∃ x, x = rs bs s2 3 := ⟨_, rfl⟩
  rw [← hs3] at hS
  have H3 : Hid ((i64 czxid_ ∧ i64 mzxid_ ∧ i64 pzxid_) ∧ s3 = rs bs s2 3 ∧ Rel bs s2 s3 (numsB [czxid_, mzxid_, pzxid_])) := by rw [← hs3] at KH3; exact Lib.hid ⟨KH3.1, hs3, KH3.2.2⟩
  clear hs3 KH3
  obtain ⟨X, hX⟩ : ∃ x : Arm, x = ⟨kind_, path_, czxid_, mzxid_, pzxid_⟩ := ⟨_, rfl⟩
  have HQ : Hid (Arm.fine X ∧ s3 = qArm bs s ∧ Rel bs s s3 (Arm.bytes X)) := by
    rw [hX]
    exact Lib.hid ⟨⟨H1.out.1, H3.out.1.1, H3.out.1.2.1, H3.out.1.2.2⟩, by rw [H3.out.2.1, H2.out.2.1, H1.out.2.1]; rfl, ((H1.out.2.2.trans H2.out.2.2).trans H3.out.2.2)⟩
  have hS : St w0 w3 (rdt pb bs s3 :: bx (rb + 1) X.cells.toArray 130 :: bx rb #[.int .i64 0, .string ⟨#[]⟩, .int .i64 0, .int .i64 0, .int .i64 0] 130 :: (Arm.things X ++ l)) := by rw [hX]; exact hS
  clear hX H1 H2 H3
  have z1 := heap_lt (hS.box 2 rfl)
  go_wp2_with (first | ((with_reducible refine at_list ?_); refine wpList_load_chunk 5 _ Try.underlying130 rfl sizeArm ⟨rb + 1, 0, none⟩ rfl X.cells rfl (box_chunk (hS.box 1 rfl)) ?_) | ((with_reducible refine at_list ?_); refine wpList_store_whole 5 sizeArm rb rfl _ _ (hS.box 2 rfl) rfl X.cells rfl rfl (by kernel_rfl) ?_; intro w30 hg4 hM4 hz4))
  refine bodyPost_ret (results_cell rfl _ w30 rb _ _ _ _ rfl hg4 Try.underlying130 rfl sizeArm) rfl ?_
  have hS := hS.rebox 2 rfl hg4 hM4
  exact ⟨X, s3, rfl, HQ, St.regrp1 (Arm.things X) hS.tail2.tail2⟩

set_option maxHeartbeats 2000000 in
theorem rowsArm_st {w0 w : World} {l : List Thing} {pb : Nat} {bs : List UInt8} {s : RS} (h : St w0 w (rdt pb bs s :: l)) :
    Calls Try.prog 73 #[.pointer (some ⟨pb, 0, none⟩), .func (.func 74) #[] #[]] w (RowTk 130 5 Arm.cells Arm.fine Arm.things (qArm bs) Arm.bytes w0 pb bs s l) := by
  obtain ⟨ip, iz, hi1, hi2, hi3, hi4, hi5⟩ := info_row infoArm
  have HI := Lib.hid (And.intro hi1 (And.intro hi2 (And.intro hi3 (And.intro hi4 hi5))))
  have HS := Lib.hid h
  clear h hi1 hi2 hi3 hi4 hi5
  go_enter Try.func73, Try.ntmps73
  go_wp2_with fail
  refine (rcount_st HS.out 0 rfl 256 (by omega)).mono ?_
  rintro e w1 ⟨rfl, hS⟩
  simp only [List.set_cons_zero] at hS
  have hle : (rcount bs 256 s).1 ≤ 256 := (rcount_ok (most := 256) (HS.out.rok 0 rfl).1).2
  obtain ⟨n, hn⟩ : ∃ n, (rcount bs 256 s).1 = n := ⟨_, rfl⟩
  obtain ⟨s1, hs1⟩ : ∃ s1, (rcount bs 256 s).2 = s1 := ⟨_, rfl⟩
  rw [hn] at hle ⊢
  rw [hs1] at hS
  have hS := hS.rowStart 130 5
  have HN := Lib.hid hn
  have HT := Lib.hid hs1
  clear HS hn hs1
  have HS := Lib.hid hS
  clear hS
  go_wp2
  go_loopg [5, 8] n (fun g x y wr => ∃ (k : Nat) (L : List Arm) (a : Option Addr) (cap : Nat) (s' : RS), k + g = n ∧ y = .int .i64 k ∧ x = .slice a k cap ∧ Hid (L.length = k ∧ (∀ x ∈ L, Arm.fine x) ∧ s' = iter (qArm bs) s1 k ∧ Rel bs s1 s' (L.flatMap Arm.bytes)) ∧ St w0 wr (rdt pb bs s' :: sl 130 5 a k cap (L.flatMap Arm.cells) :: grp (L.map fun x => grp (Arm.things x)) :: l))
  case atStart => exact ⟨0, [], none, 0, s1, by omega, rfl, rfl, Lib.hid ⟨rfl, fun _ h => absurd h List.not_mem_nil, rfl, Rel.refl⟩, HS.out⟩
  case round =>
    obtain ⟨k, L, a, cap, s', hkg, rfl, rfl, HL, hS⟩ := hrel
    by_cases hlt : k < n
    · go_wp2_with fail
      refine (takeArmed_st hS).mono ?_
      clear hS
      rintro e w2 ⟨t, s2, rfl, HQ, hS⟩
      simp only [Arm.cells]
      have hS := hS.absorb.slice1 #[.int .i64 t.kind, .string t.path, .int .i64 t.czxid, .int .i64 t.mzxid, .int .i64 t.pzxid] 130 5 1 rfl (by unfold maxLen; omega)
      have HR := Lib.hid (hS.slice 0 rfl).rd
      have HA := Lib.hid (hS.slice 2 rfl)
      have HS := Lib.hid hS
      clear hS
      go_wp2_with (at_builtin; refine wpList_append 130 ip iz 5 48 (by kernel_rfl) HI.out.1 HI.out.2.1 HI.out.2.2.1 HI.out.2.2.2.1 HI.out.2.2.2.2 a k cap (L.flatMap Arm.cells) rfl HA.out (some ⟨w2.heap.size, 0, none⟩) 1 1 t.cells rfl HR.out (Arm.one t) (by unfold maxLen; omega) (by omega) ?_; intro a6 cap6 w6 hS6 hM6 hF6 hN6 hR6; have hSA := (HS.out.regrow 2 rfl hS6 hM6 hF6).tail; have HSA := Lib.hid hSA; clear hN6 hR6 hSA hS6 hM6 hF6)
      go_roundg (gk - 1)
      case measure => omega
      case rel =>
        refine ⟨k + 1, L ++ [t], a6, cap6, s2, by omega, by simp, rfl, Lib.hid ⟨by simp [HL.out.1], list_snoc_all HL.out.2.1 HQ.out.1, HQ.out.2.1.trans (congrArg _ HL.out.2.2.1), by rw [flat_snoc]; exact HL.out.2.2.2.trans HQ.out.2.2⟩, ?_⟩
        rw [flat_snoc, List.map_append]
        exact HSA.out
    · have hk : k = n := by omega
      have HK := Lib.hid hk
      clear hkg hk
      go_wp2
      go_ret
      refine ⟨L, a, cap, s', by rw [HL.out.1]; rfl, Lib.hid ⟨⟨HL.out.2.1, by rw [HL.out.1, HK.out]; exact hle⟩, ?_, ?_⟩, ?_⟩
      · unfold qList
        rw [HN.out, HT.out, ← HK.out]
        exact HL.out.2.2.1
      · exact rel_list (by rw [HT.out]; exact HL.out.2.2.2) (by rw [HL.out.1, HN.out]; exact HK.out)
      · rw [HL.out.1]; exact hS
end Go.Proofs.Ytmbkbkfcbloafab
