/-
  Things with lists taken up by package wire.
  No condition: every law states its own.
-/
import Derived.Test.YtmbkbkfcbloafabWireM
namespace Go.Proofs.Ytmbkbkfcbloafab
open Go.RowKit
set_option linter.unusedSectionVars false
set_option linter.unusedSimpArgs false
set_option linter.unusedVariables false
set_option maxRecDepth 100000

theorem infoStr : (Try.prog.info? 9).map (fun i => (i.zero.map (·.cells.size), i.size, i.bytes)) = some (some 1, 1, 16) := by kernel_rfl

set_option maxHeartbeats 2000000 in
theorem rowsStr_st {w0 w : World} {l : List Thing} {pb : Nat} {bs : List UInt8} {s : RS} (h : St w0 w (rdt pb bs s :: l)) :
    Calls Try.prog 67 #[.pointer (some ⟨pb, 0, none⟩), .func (.func 68) #[] #[]] w (RowTk 9 1 strC (fun _ => True) (fun _ => []) (qTxt bs) txtB w0 pb bs s l) := by
  obtain ⟨ip, iz, hi1, hi2, hi3, hi4, hi5⟩ := info_row infoStr
  have HI := Lib.hid (And.intro hi1 (And.intro hi2 (And.intro hi3 (And.intro hi4 hi5))))
  have HS := Lib.hid h
  clear h hi1 hi2 hi3 hi4 hi5
  go_enter Try.func67, Try.ntmps67
  go_wp2_with fail
  refine (rcount_st HS.out 0 rfl 256 (by omega)).mono ?_
  rintro e w1 ⟨rfl, hS⟩
  simp only [List.set_cons_zero] at hS
  have hle : (rcount bs 256 s).1 ≤ 256 := (rcount_ok (most := 256) (HS.out.rok 0 rfl).1).2
  obtain ⟨n, hn⟩ : ∃ n, (rcount bs 256 s).1 = n := ⟨_, rfl⟩
  obtain ⟨s1, hs1⟩ : ∃ s1, (rcount bs 256 s).2 = s1 := ⟨_, rfl⟩
  rw [hn] at hle ⊢
  rw [hs1] at hS
  have hS := hS.rowStart 9 1
  have HN := Lib.hid hn
  have HT := Lib.hid hs1
  clear HS hn hs1
  have HS := Lib.hid hS
  clear hS
  go_wp2
  go_loopg [5, 8] n (fun g x y wr => ∃ (k : Nat) (L : List ByteArray) (a : Option Addr) (cap : Nat) (s' : RS), k + g = n ∧ y = .int .i64 k ∧ x = .slice a k cap ∧ Hid (L.length = k ∧ (∀ x ∈ L, (fun _ => True) x) ∧ s' = iter (qTxt bs) s1 k ∧ Rel bs s1 s' (L.flatMap txtB)) ∧ St w0 wr (rdt pb bs s' :: sl 9 1 a k cap (L.flatMap strC) :: grp (L.map fun x => grp ((fun _ => []) x)) :: l))
  case atStart => exact ⟨0, [], none, 0, s1, by omega, rfl, rfl, Lib.hid ⟨rfl, fun _ h => absurd h List.not_mem_nil, rfl, Rel.refl⟩, HS.out⟩
  case round =>
    obtain ⟨k, L, a, cap, s', hkg, rfl, rfl, HL, hS⟩ := hrel
    by_cases hlt : k < n
    · go_wp2_with fail
      refine (ttextg_st hS).mono ?_
      clear hS
      rintro e w2 ⟨t, s2, rfl, HQ, hS⟩
      have hS := hS.absorb.slice1 #[.string t] 9 1 1 rfl (by unfold maxLen; omega)
      have HR := Lib.hid (hS.slice 0 rfl).rd
      have HA := Lib.hid (hS.slice 2 rfl)
      have HS := Lib.hid hS
      clear hS
      go_wp2_with (at_builtin; refine wpList_append 9 ip iz 1 16 (by kernel_rfl) HI.out.1 HI.out.2.1 HI.out.2.2.1 HI.out.2.2.2.1 HI.out.2.2.2.2 a k cap (L.flatMap strC) rfl HA.out (some ⟨w2.heap.size, 0, none⟩) 1 1 [.string t] rfl HR.out (fun u hu => by rw [List.mem_singleton.1 hu]; rfl) (by unfold maxLen; omega) (by omega) ?_; intro a6 cap6 w6 hS6 hM6 hF6 hN6 hR6; have hSA := (HS.out.regrow 2 rfl hS6 hM6 hF6).tail; have HSA := Lib.hid hSA; clear hN6 hR6 hSA hS6 hM6 hF6)
      go_roundg (gk - 1)
      case measure => omega
      case rel =>
        refine ⟨k + 1, L ++ [t], a6, cap6, s2, by omega, by simp, rfl, Lib.hid ⟨by simp [HL.out.1], list_snoc_all HL.out.2.1 HQ.out.1, HQ.out.2.1.trans (congrArg _ HL.out.2.2.1), by rw [flat_snoc]; exact HL.out.2.2.2.trans HQ.out.2.2⟩, ?_⟩
        rw [flat_snoc, List.map_append]
        exact HSA.out
    · have hk : k = n := by omega
      have HK := Lib.hid hk
      clear hkg hk
      go_wp2
      go_ret
      refine ⟨L, a, cap, s', by rw [HL.out.1]; rfl, Lib.hid ⟨⟨HL.out.2.1, by rw [HL.out.1, HK.out]; exact hle⟩, ?_, ?_⟩, ?_⟩
      · unfold qList
        rw [HN.out, HT.out, ← HK.out]
        exact HL.out.2.2.1
      · exact rel_list (by rw [HT.out]; exact HL.out.2.2.2) (by rw [HL.out.1, HN.out]; exact HK.out)
      · rw [HL.out.1]; exact hS

def Acl.fine (x : Acl) : Prop := i64 x.perms
def Acl.things (x : Acl) : List Thing := []
theorem infoAcl : (Try.prog.info? 146).map (fun i => (i.zero.map (·.cells.size), i.size, i.bytes)) = some (some 2, 2, 24) := by kernel_rfl
theorem Acl.one (x : Acl) : ∀ u ∈ x.cells, u.oneCell' = true := by
  intro u hu
  simp only [Acl.cells, List.mem_cons, List.not_mem_nil, or_false] at hu
  rcases hu with rfl | rfl <;> rfl

set_option maxHeartbeats 4000000 in
theorem takeAcl_st {w0 w : World} {l : List Thing} {pb : Nat} {bs : List UInt8} {s : RS} (h : St w0 w (rdt pb bs s :: l)) :
    Calls Try.prog 94 #[.pointer (some ⟨pb, 0, none⟩)] w (TkG (fun x => Value.agg (Acl.cells x).toArray) Acl.fine Acl.things (qAcl bs) Acl.bytes w0 pb bs s l) := by
  have hS := h.box2 #[.int .i64 0, .string ⟨#[]⟩] 146
  clear h
  go_enter Try.func94, Try.ntmps94
  go_wp2_with fail
  generalize w.alloc (.cells #[.int .i64 0, .string ⟨#[]⟩] 146) = W at *
  generalize w.heap.size = rb at *
  refine (tnum_st hS).mono ?_
  clear hS
  rintro e w1 ⟨v1, s1, rfl, H1, hS⟩
  go_wp2_with fail
  refine (ttext_st hS).mono ?_
  clear hS
  rintro e w2 ⟨v2, s2, rfl, H2, hS⟩
  have z1 := heap_lt (hS.box 1 rfl)
  go_wp2_with (refine wpList_store_whole 2 sizeAcl rb rfl _ _ (hS.box 1 rfl) rfl (Acl.cells ⟨v1, v2⟩) rfl rfl (by kernel_rfl) ?_; intro w4 hg4 hM4 hz4)
  refine bodyPost_ret (results_cell rfl _ w4 rb _ _ _ _ rfl hg4 Try.underlying146 rfl sizeAcl) rfl ?_
  exact ⟨⟨v1, v2⟩, s2, rfl, Lib.hid ⟨H1.out.1, by rw [H2.out.2.1, H1.out.2.1]; rfl, H1.out.2.2.trans H2.out.2.2⟩, ((hS.rebox 1 rfl hg4 hM4).swap.tail).addNil⟩

set_option maxHeartbeats 2000000 in
theorem rowsAcl_st {w0 w : World} {l : List Thing} {pb : Nat} {bs : List UInt8} {s : RS} (h : St w0 w (rdt pb bs s :: l)) :
    Calls Try.prog 93 #[.pointer (some ⟨pb, 0, none⟩), .func (.func 94) #[] #[]] w (RowTk 146 2 Acl.cells Acl.fine Acl.things (qAcl bs) Acl.bytes w0 pb bs s l) := by
  obtain ⟨ip, iz, hi1, hi2, hi3, hi4, hi5⟩ := info_row infoAcl
  have HI := Lib.hid (And.intro hi1 (And.intro hi2 (And.intro hi3 (And.intro hi4 hi5))))
  have HS := Lib.hid h
  clear h hi1 hi2 hi3 hi4 hi5
  go_enter Try.func93, Try.ntmps93
  go_wp2_with fail
  refine (rcount_st HS.out 0 rfl 256 (by omega)).mono ?_
  rintro e w1 ⟨rfl, hS⟩
  simp only [List.set_cons_zero] at hS
  have hle : (rcount bs 256 s).1 ≤ 256 := (rcount_ok (most := 256) (HS.out.rok 0 rfl).1).2
  obtain ⟨n, hn⟩ : ∃ n, (rcount bs 256 s).1 = n := ⟨_, rfl⟩
  obtain ⟨s1, hs1⟩ : ∃ s1, (rcount bs 256 s).2 = s1 := ⟨_, rfl⟩
  rw [hn] at hle ⊢
  rw [hs1] at hS
  have hS := hS.rowStart 146 2
  have HN := Lib.hid hn
  have HT := Lib.hid hs1
  clear HS hn hs1
  have HS := Lib.hid hS
  clear hS
  go_wp2
  go_loopg [5, 8] n (fun g x y wr => ∃ (k : Nat) (L : List Acl) (a : Option Addr) (cap : Nat) (s' : RS), k + g = n ∧ y = .int .i64 k ∧ x = .slice a k cap ∧ Hid (L.length = k ∧ (∀ x ∈ L, Acl.fine x) ∧ s' = iter (qAcl bs) s1 k ∧ Rel bs s1 s' (L.flatMap Acl.bytes)) ∧ St w0 wr (rdt pb bs s' :: sl 146 2 a k cap (L.flatMap Acl.cells) :: grp (L.map fun x => grp (Acl.things x)) :: l))
  case atStart => exact ⟨0, [], none, 0, s1, by omega, rfl, rfl, Lib.hid ⟨rfl, fun _ h => absurd h List.not_mem_nil, rfl, Rel.refl⟩, HS.out⟩
  case round =>
    obtain ⟨k, L, a, cap, s', hkg, rfl, rfl, HL, hS⟩ := hrel
    by_cases hlt : k < n
    · go_wp2_with fail
      refine (takeAcl_st hS).mono ?_
      clear hS
      rintro e w2 ⟨t, s2, rfl, HQ, hS⟩
      simp only [Acl.cells]
      have hS := hS.absorb.slice1 #[.int .i64 t.perms, .string t.id] 146 2 1 rfl (by unfold maxLen; omega)
      have HR := Lib.hid (hS.slice 0 rfl).rd
      have HA := Lib.hid (hS.slice 2 rfl)
      have HS := Lib.hid hS
      clear hS
      go_wp2_with (at_builtin; refine wpList_append 146 ip iz 2 24 (by kernel_rfl) HI.out.1 HI.out.2.1 HI.out.2.2.1 HI.out.2.2.2.1 HI.out.2.2.2.2 a k cap (L.flatMap Acl.cells) rfl HA.out (some ⟨w2.heap.size, 0, none⟩) 1 1 t.cells rfl HR.out (Acl.one t) (by unfold maxLen; omega) (by omega) ?_; intro a6 cap6 w6 hS6 hM6 hF6 hN6 hR6; have hSA := (HS.out.regrow 2 rfl hS6 hM6 hF6).tail; have HSA := Lib.hid hSA; clear hN6 hR6 hSA hS6 hM6 hF6)
      go_roundg (gk - 1)
      case measure => omega
      case rel =>
        refine ⟨k + 1, L ++ [t], a6, cap6, s2, by omega, by simp, rfl, Lib.hid ⟨by simp [HL.out.1], list_snoc_all HL.out.2.1 HQ.out.1, HQ.out.2.1.trans (congrArg _ HL.out.2.2.1), by rw [flat_snoc]; exact HL.out.2.2.2.trans HQ.out.2.2⟩, ?_⟩
        rw [flat_snoc, List.map_append]
        exact HSA.out
    · have hk : k = n := by omega
      have HK := Lib.hid hk
      clear hkg hk
      go_wp2
      go_ret
      refine ⟨L, a, cap, s', by rw [HL.out.1]; rfl, Lib.hid ⟨⟨HL.out.2.1, by rw [HL.out.1, HK.out]; exact hle⟩, ?_, ?_⟩, ?_⟩
      · unfold qList
        rw [HN.out, HT.out, ← HK.out]
        exact HL.out.2.2.1
      · exact rel_list (by rw [HT.out]; exact HL.out.2.2.2) (by rw [HL.out.1, HN.out]; exact HK.out)
      · rw [HL.out.1]; exact hS

def Txn.fine (x : Txn) : Prop := i64 x.kind ∧ i64 x.owner ∧ i64 x.number ∧ i64 x.err ∧ ((∀ a ∈ x.acl, Acl.fine a) ∧ x.acl.length ≤ 256)
def Txn.things (x : Txn) : List Thing := [sl 146 2 x.aclA x.acl.length x.aclC (x.acl.flatMap Acl.cells), grp (x.acl.map fun a => grp (Acl.things a))]
theorem infoTxn : (Try.prog.info? 26).map (fun i => (i.zero.map (·.cells.size), i.size, i.bytes)) = some (some 8, 8, 112) := by kernel_rfl
theorem Txn.one (x : Txn) : ∀ u ∈ x.cells, u.oneCell' = true := by
  intro u hu
  simp only [Txn.cells, List.mem_cons, List.not_mem_nil, or_false] at hu
  rcases hu with rfl | rfl | rfl | rfl | rfl | rfl | rfl | rfl <;> rfl

set_option maxHeartbeats 4000000 in
theorem takePart_st {w0 w : World} {l : List Thing} {pb : Nat} {bs : List UInt8} {s : RS} (h : St w0 w (rdt pb bs s :: l)) :
    Calls Try.prog 69 #[.pointer (some ⟨pb, 0, none⟩)] w (TkG (fun x => Value.agg (Txn.cells x).toArray) Txn.fine Txn.things (qTxn bs) Txn.bytes w0 pb bs s l) := by
  have hS := (h.box2 #[.int .i64 0, .string ⟨#[]⟩, .string ⟨#[]⟩, .slice none 0 0, .int .i64 0, .int .i64 0, .int .i64 0, .slice none 0 0] 26).box2 #[.int .i64 0, .string ⟨#[]⟩, .string ⟨#[]⟩, .slice none 0 0, .int .i64 0, .int .i64 0, .int .i64 0, .slice none 0 0] 26
  simp only [World.size_alloc] at hS
  have hz0 : ((w.alloc (.cells #[.int .i64 0, .string ⟨#[]⟩, .string ⟨#[]⟩, .slice none 0 0, .int .i64 0, .int .i64 0, .int .i64 0, .slice none 0 0] 26)).alloc (.cells #[.int .i64 0, .string ⟨#[]⟩, .string ⟨#[]⟩, .slice none 0 0, .int .i64 0, .int .i64 0, .int .i64 0, .slice none 0 0] 26)).heap.size = w.heap.size + 1 + 1 := by simp only [World.size_alloc]
  clear h
  go_enter Try.func69, Try.ntmps69
  go_wp2_with fail
  generalize (w.alloc (.cells #[.int .i64 0, .string ⟨#[]⟩, .string ⟨#[]⟩, .slice none 0 0, .int .i64 0, .int .i64 0, .int .i64 0, .slice none 0 0] 26)).alloc (.cells #[.int .i64 0, .string ⟨#[]⟩, .string ⟨#[]⟩, .slice none 0 0, .int .i64 0, .int .i64 0, .int .i64 0, .slice none 0 0] 26) = W at *
  generalize w.heap.size = rb at *
  refine (tnum_st hS).mono ?_
  clear hS
  rintro e w1 ⟨kind_, s1, rfl, H1, hS⟩
  have c0 := blk_cell (hS.box 1 rfl) 0 _ rfl
  have f0 := blk_free (hS.box 1 rfl) 0
  have z0 := heap_lt (hS.box 1 rfl)
  have hS := hS.set 1 rfl 0 (.int .i64 kind_)
  have hS : St w0 (w1.setCell ⟨rb + 1, 0, none⟩ (.int .i64 kind_)) (rdt pb bs s1 :: bx (rb + 1) #[.int .i64 kind_, .string ⟨#[]⟩, .string ⟨#[]⟩, .slice none 0 0, .int .i64 0, .int .i64 0, .int .i64 0, .slice none 0 0] 26 :: bx rb #[.int .i64 0, .string ⟨#[]⟩, .string ⟨#[]⟩, .slice none 0 0, .int .i64 0, .int .i64 0, .int .i64 0, .slice none 0 0] 26 :: l) := hS
  go_wp2_with fail
  refine (ttext_st hS).mono ?_
  clear hS c0 f0 z0
  rintro e w2 ⟨path_, s2, rfl, H2, hS⟩
  have c0 := blk_cell (hS.box 1 rfl) 1 _ rfl
  have f0 := blk_free (hS.box 1 rfl) 1
  have z0 := heap_lt (hS.box 1 rfl)
  have hS := hS.set 1 rfl 1 (.string path_)
  have hS : St w0 (w2.setCell ⟨rb + 1, 1, none⟩ (.string path_)) (rdt pb bs s2 :: bx (rb + 1) #[.int .i64 kind_, .string path_, .string ⟨#[]⟩, .slice none 0 0, .int .i64 0, .int .i64 0, .int .i64 0, .slice none 0 0] 26 :: bx rb #[.int .i64 0, .string ⟨#[]⟩, .string ⟨#[]⟩, .slice none 0 0, .int .i64 0, .int .i64 0, .int .i64 0, .slice none 0 0] 26 :: l) := hS
  go_wp2_with fail
  refine (ttext_st hS).mono ?_
  clear hS c0 f0 z0
  rintro e w3 ⟨data_, s3, rfl, H3, hS⟩
  have c0 := blk_cell (hS.box 1 rfl) 2 _ rfl
  have f0 := blk_free (hS.box 1 rfl) 2
  have z0 := heap_lt (hS.box 1 rfl)
  have hS := hS.set 1 rfl 2 (.string data_)
  have hS : St w0 (w3.setCell ⟨rb + 1, 2, none⟩ (.string data_)) (rdt pb bs s3 :: bx (rb + 1) #[.int .i64 kind_, .string path_, .string data_, .slice none 0 0, .int .i64 0, .int .i64 0, .int .i64 0, .slice none 0 0] 26 :: bx rb #[.int .i64 0, .string ⟨#[]⟩, .string ⟨#[]⟩, .slice none 0 0, .int .i64 0, .int .i64 0, .int .i64 0, .slice none 0 0] 26 :: l) := hS
  go_wp2_with fail
  refine (rowsAcl_st hS).mono ?_
  clear hS c0 f0 z0
  rintro e w4 ⟨acl_, aclA_, aclC_, s4, rfl, H4, hS⟩
  have hS := hS.perm (.cons _ (List.perm_append_comm_assoc [_, _] [_, _] _))
  have c0 := blk_cell (hS.box 1 rfl) 3 _ rfl
  have f0 := blk_free (hS.box 1 rfl) 3
  have z0 := heap_lt (hS.box 1 rfl)
  have hS := hS.set 1 rfl 3 (.slice aclA_ acl_.length aclC_)
  have hS : St w0 (w4.setCell ⟨rb + 1, 3, none⟩ (.slice aclA_ acl_.length aclC_)) (rdt pb bs s4 :: bx (rb + 1) #[.int .i64 kind_, .string path_, .string data_, .slice aclA_ acl_.length aclC_, .int .i64 0, .int .i64 0, .int .i64 0, .slice none 0 0] 26 :: bx rb #[.int .i64 0, .string ⟨#[]⟩, .string ⟨#[]⟩, .slice none 0 0, .int .i64 0, .int .i64 0, .int .i64 0, .slice none 0 0] 26 :: sl 146 2 aclA_ acl_.length aclC_ (acl_.flatMap Acl.cells) :: grp (acl_.map fun x => grp (Acl.things x)) :: l) := hS
  go_wp2_with fail
  have hS := (hS.box2 #[.int .i64 0] 3).perm (.cons _ (.swap _ _ _))
  have hS := hS.slice2 #[.pointer (some ⟨rb + 1, 4, none⟩), .pointer (some ⟨rb + 1, 5, none⟩), .pointer (some ⟨w4.heap.size, 0, none⟩)] 118 1 3 rfl (by unfold maxLen; omega)
  simp only [World.size_alloc, World.size_setCell] at hS
  generalize w4.heap.size = eb at hS ⊢
  refine (into_st (l := bx rb #[.int .i64 0, .string ⟨#[]⟩, .string ⟨#[]⟩, .slice none 0 0, .int .i64 0, .int .i64 0, .int .i64 0, .slice none 0 0] 26 :: sl 146 2 aclA_ acl_.length aclC_ (acl_.flatMap Acl.cells) :: grp (acl_.map fun x => grp (Acl.things x)) :: l) [⟨rb + 1, #[.int .i64 kind_, .string path_, .string data_, .slice aclA_ acl_.length aclC_, .int .i64 0, .int .i64 0, .int .i64 0, .slice none 0 0], 26⟩, ⟨eb, #[.int .i64 0], 3⟩] [(0, 4), (0, 5), (1, 0)] hS rfl (by intro p hp; simp only [List.mem_cons, List.not_mem_nil, or_false] at hp; rcases hp with rfl | rfl | rfl <;> exact ⟨_, rfl, by simp⟩) (by omega)).mono ?_
  have hok := (hS.rok 0 rfl).1
  have KH5 : (i64 (rv bs s4 0) ∧ i64 (rv bs s4 1) ∧ i64 (rv bs s4 2)) ∧ rs bs s4 3 = rs bs s4 3 ∧ Rel bs s4 (rs bs s4 3) (numsB [rv bs s4 0, rv bs s4 1, rv bs s4 2]) := ⟨⟨rv_i64 hok 0, rv_i64 hok 1, rv_i64 hok 2⟩, rfl, rel_nums 3⟩
  clear hS hok c0 f0 z0
  rintro e w5 ⟨rfl, hS⟩
  have hS : St w0 w5 (rdt pb bs (rs bs s4 3) :: sl 118 1 (some ⟨eb + 1, 0, none⟩) 3 3 #[.pointer (some ⟨rb + 1, 4, none⟩), .pointer (some ⟨rb + 1, 5, none⟩), .pointer (some ⟨eb, 0, none⟩)].toList :: bx (rb + 1) #[.int .i64 kind_, .string path_, .string data_, .slice aclA_ acl_.length aclC_, .int .i64 (rv bs s4 0), .int .i64 (rv bs s4 1), .int .i64 0, .slice none 0 0] 26 :: bx eb #[.int .i64 (rv bs s4 2)] 3 :: bx rb #[.int .i64 0, .string ⟨#[]⟩, .string ⟨#[]⟩, .slice none 0 0, .int .i64 0, .int .i64 0, .int .i64 0, .slice none 0 0] 26 :: sl 146 2 aclA_ acl_.length aclC_ (acl_.flatMap Acl.cells) :: grp (acl_.map fun x => grp (Acl.things x)) :: l) := hS
  have hS := hS.tail2
  generalize rv bs s4 0 = owner_ at hS KH5
  generalize rv bs s4 1 = number_ at hS KH5
  generalize rv bs s4 2 = err_ at hS KH5
  obtain ⟨s5, hs5⟩ : ∃ x, x = rs bs s4 3 := ⟨_, rfl⟩
  rw [← hs5] at hS
  have H5 : Hid ((i64 owner_ ∧ i64 number_ ∧ i64 err_) ∧ s5 = rs bs s4 3 ∧ Rel bs s4 s5 (numsB [owner_, number_, err_])) := by rw [← hs5] at KH5; exact Lib.hid ⟨KH5.1, hs5, KH5.2.2⟩
  clear hs5 KH5
  have ce := blk_cell (hS.box 2 rfl) 0 _ rfl
  have ze := heap_lt (hS.box 2 rfl)
  have c0 := blk_cell (hS.box 1 rfl) 6 _ rfl
  have f0 := blk_free (hS.box 1 rfl) 6
  have z0 := heap_lt (hS.box 1 rfl)
  have hS := hS.set 1 rfl 6 (.int .i64 err_)
  have hS : St w0 (w5.setCell ⟨rb + 1, 6, none⟩ (.int .i64 err_)) (rdt pb bs s5 :: bx (rb + 1) #[.int .i64 kind_, .string path_, .string data_, .slice aclA_ acl_.length aclC_, .int .i64 owner_, .int .i64 number_, .int .i64 err_, .slice none 0 0] 26 :: bx eb #[.int .i64 err_] 3 :: bx rb #[.int .i64 0, .string ⟨#[]⟩, .string ⟨#[]⟩, .slice none 0 0, .int .i64 0, .int .i64 0, .int .i64 0, .slice none 0 0] 26 :: sl 146 2 aclA_ acl_.length aclC_ (acl_.flatMap Acl.cells) :: grp (acl_.map fun x => grp (Acl.things x)) :: l) := hS
  obtain ⟨X, hX⟩ : ∃ x : Txn, x = ⟨kind_, path_, data_, acl_, aclA_, aclC_, owner_, number_, err_, none, 0, 0⟩ := ⟨_, rfl⟩
  have HQ : Hid (Txn.fine X ∧ s5 = qTxn bs s ∧ Rel bs s s5 (Txn.bytes X)) := by
    rw [hX]
    exact Lib.hid ⟨⟨H1.out.1, H5.out.1.1, H5.out.1.2.1, H5.out.1.2.2, H4.out.1⟩, by rw [H5.out.2.1, H4.out.2.1, H3.out.2.1, H2.out.2.1, H1.out.2.1]; rfl, ((((H1.out.2.2.trans H2.out.2.2).trans H3.out.2.2).trans H4.out.2.2).trans H5.out.2.2)⟩
  have hS : St w0 (w5.setCell ⟨rb + 1, 6, none⟩ (.int .i64 err_)) (rdt pb bs s5 :: bx (rb + 1) X.cells.toArray 26 :: bx eb #[.int .i64 err_] 3 :: bx rb #[.int .i64 0, .string ⟨#[]⟩, .string ⟨#[]⟩, .slice none 0 0, .int .i64 0, .int .i64 0, .int .i64 0, .slice none 0 0] 26 :: (Txn.things X ++ l)) := by rw [hX]; exact hS
  clear hX H1 H2 H3 H4 H5
  have z1 := heap_lt (hS.box 3 rfl)
  go_wp2_with (first | ((with_reducible refine at_list ?_); refine wpList_load_chunk 8 _ Try.underlying26 rfl sizeTxn ⟨rb + 1, 0, none⟩ rfl X.cells rfl (box_chunk (hS.box 1 rfl)) ?_) | ((with_reducible refine at_list ?_); refine wpList_store_whole 8 sizeTxn rb rfl _ _ (hS.box 3 rfl) rfl X.cells rfl rfl (by kernel_rfl) ?_; intro w30 hg4 hM4 hz4))
  refine bodyPost_ret (results_cell rfl _ w30 rb _ _ _ _ rfl hg4 Try.underlying26 rfl sizeTxn) rfl ?_
  have hS := hS.rebox 3 rfl hg4 hM4
  exact ⟨X, s5, rfl, HQ, St.regrp1 (Txn.things X) hS.tail2.tail2.tail2⟩

set_option maxHeartbeats 2000000 in
theorem rowsTxn_st {w0 w : World} {l : List Thing} {pb : Nat} {bs : List UInt8} {s : RS} (h : St w0 w (rdt pb bs s :: l)) :
    Calls Try.prog 70 #[.pointer (some ⟨pb, 0, none⟩), .func (.func 69) #[] #[]] w (RowTk 26 8 Txn.cells Txn.fine Txn.things (qTxn bs) Txn.bytes w0 pb bs s l) := by
  obtain ⟨ip, iz, hi1, hi2, hi3, hi4, hi5⟩ := info_row infoTxn
  have HI := Lib.hid (And.intro hi1 (And.intro hi2 (And.intro hi3 (And.intro hi4 hi5))))
  have HS := Lib.hid h
  clear h hi1 hi2 hi3 hi4 hi5
  go_enter Try.func70, Try.ntmps70
  go_wp2_with fail
  refine (rcount_st HS.out 0 rfl 256 (by omega)).mono ?_
  rintro e w1 ⟨rfl, hS⟩
  simp only [List.set_cons_zero] at hS
  have hle : (rcount bs 256 s).1 ≤ 256 := (rcount_ok (most := 256) (HS.out.rok 0 rfl).1).2
  obtain ⟨n, hn⟩ : ∃ n, (rcount bs 256 s).1 = n := ⟨_, rfl⟩
  obtain ⟨s1, hs1⟩ : ∃ s1, (rcount bs 256 s).2 = s1 := ⟨_, rfl⟩
  rw [hn] at hle ⊢
  rw [hs1] at hS
  have hS := hS.rowStart 26 8
  have HN := Lib.hid hn
  have HT := Lib.hid hs1
  clear HS hn hs1
  have HS := Lib.hid hS
  clear hS
  go_wp2
  go_loopg [5, 8] n (fun g x y wr => ∃ (k : Nat) (L : List Txn) (a : Option Addr) (cap : Nat) (s' : RS), k + g = n ∧ y = .int .i64 k ∧ x = .slice a k cap ∧ Hid (L.length = k ∧ (∀ x ∈ L, Txn.fine x) ∧ s' = iter (qTxn bs) s1 k ∧ Rel bs s1 s' (L.flatMap Txn.bytes)) ∧ St w0 wr (rdt pb bs s' :: sl 26 8 a k cap (L.flatMap Txn.cells) :: grp (L.map fun x => grp (Txn.things x)) :: l))
  case atStart => exact ⟨0, [], none, 0, s1, by omega, rfl, rfl, Lib.hid ⟨rfl, fun _ h => absurd h List.not_mem_nil, rfl, Rel.refl⟩, HS.out⟩
  case round =>
    obtain ⟨k, L, a, cap, s', hkg, rfl, rfl, HL, hS⟩ := hrel
    by_cases hlt : k < n
    · go_wp2_with fail
      refine (takePart_st hS).mono ?_
      clear hS
      rintro e w2 ⟨t, s2, rfl, HQ, hS⟩
      simp only [Txn.cells]
      have hS := hS.absorb.slice1 #[.int .i64 t.kind, .string t.path, .string t.data, .slice t.aclA t.acl.length t.aclC, .int .i64 t.owner, .int .i64 t.number, .int .i64 t.err, .slice t.subsA t.subsN t.subsC] 26 8 1 rfl (by unfold maxLen; omega)
      have HR := Lib.hid (hS.slice 0 rfl).rd
      have HA := Lib.hid (hS.slice 2 rfl)
      have HS := Lib.hid hS
      clear hS
      go_wp2_with (at_builtin; refine wpList_append 26 ip iz 8 112 (by kernel_rfl) HI.out.1 HI.out.2.1 HI.out.2.2.1 HI.out.2.2.2.1 HI.out.2.2.2.2 a k cap (L.flatMap Txn.cells) rfl HA.out (some ⟨w2.heap.size, 0, none⟩) 1 1 t.cells rfl HR.out (Txn.one t) (by unfold maxLen; omega) (by omega) ?_; intro a6 cap6 w6 hS6 hM6 hF6 hN6 hR6; have hSA := (HS.out.regrow 2 rfl hS6 hM6 hF6).tail; have HSA := Lib.hid hSA; clear hN6 hR6 hSA hS6 hM6 hF6)
      go_roundg (gk - 1)
      case measure => omega
      case rel =>
        refine ⟨k + 1, L ++ [t], a6, cap6, s2, by omega, by simp, rfl, Lib.hid ⟨by simp [HL.out.1], list_snoc_all HL.out.2.1 HQ.out.1, HQ.out.2.1.trans (congrArg _ HL.out.2.2.1), by rw [flat_snoc]; exact HL.out.2.2.2.trans HQ.out.2.2⟩, ?_⟩
        rw [flat_snoc, List.map_append]
        exact HSA.out
    · have hk : k = n := by omega
      have HK := Lib.hid hk
      clear hkg hk
      go_wp2
      go_ret
      refine ⟨L, a, cap, s', by rw [HL.out.1]; rfl, Lib.hid ⟨⟨HL.out.2.1, by rw [HL.out.1, HK.out]; exact hle⟩, ?_, ?_⟩, ?_⟩
      · unfold qList
        rw [HN.out, HT.out, ← HK.out]
        exact HL.out.2.2.1
      · exact rel_list (by rw [HT.out]; exact HL.out.2.2.2) (by rw [HL.out.1, HN.out]; exact HK.out)
      · rw [HL.out.1]; exact hS
end Go.Proofs.Ytmbkbkfcbloafab
