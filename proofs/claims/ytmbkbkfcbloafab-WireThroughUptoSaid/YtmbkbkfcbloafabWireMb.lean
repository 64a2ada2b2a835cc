/-
  Messages: package wire's GetMessage.
  Conditions: the bytes fit.
-/
import Derived.Test.YtmbkbkfcbloafabWireMa
import Derived.Test.YtmbkbkfcbloafabWireZ
import Derived.Test.YtmbkbkfcbloafabWireRq
import Derived.Test.YtmbkbkfcbloafabWireN3
namespace Go.Proofs.Ytmbkbkfcbloafab
open Go.RowKit
set_option linter.unusedSectionVars false
set_option linter.unusedSimpArgs false
set_option linter.unusedVariables false
set_option maxRecDepth 100000

def qBig (bs : List UInt8) (s : RS) : RS := (rtext bs 65536 s).2
def qMsg (bs : List UInt8) (s : RS) : RS := qList bs (qTxt bs) (qReq bs (qList bs (qEnt bs) (qBig bs (qList bs (qNum bs) (rs bs s 5)))))
def Msg.fine (x : Msg) : Prop := (i64 x.kind ∧ i64 x.epoch ∧ i64 x.zxid ∧ i64 x.number ∧ i64 x.session) ∧ ((∀ t ∈ x.marks, i64 t) ∧ x.marks.length ≤ 256) ∧ ((∀ t ∈ x.ents, Ent.fine t) ∧ x.ents.length ≤ 256) ∧ x.q.fine ∧ x.ids.length ≤ 256
def Msg.things (x : Msg) : List Thing := [sl 9 1 x.idsA x.ids.length x.idsC (x.ids.flatMap strC), grp (x.ids.map fun x => grp ((fun _ => []) x)), grp (Req.things x.q), sl 28 11 x.entsA x.ents.length x.entsC (x.ents.flatMap Ent.cells), grp (x.ents.map fun x => grp (Ent.things x)), sl 3 1 x.marksA x.marks.length x.marksC (x.marks.flatMap intC), grp (x.marks.map fun x => grp ((fun _ => []) x))]
def Msg.zero : Msg := ⟨0, 0, 0, 0, 0, [], none, 0, ⟨#[]⟩, [], none, 0, Req.zero, [], none, 0⟩
theorem Msg.zero_fine : Msg.zero.fine := ⟨⟨by unfold i64 Msg.zero; simp, by unfold i64 Msg.zero; simp, by unfold i64 Msg.zero; simp, by unfold i64 Msg.zero; simp, by unfold i64 Msg.zero; simp⟩, ⟨fun a ha => absurd ha List.not_mem_nil, Nat.zero_le _⟩, ⟨fun a ha => absurd ha List.not_mem_nil, Nat.zero_le _⟩, Req.zero_fine, Nat.zero_le _⟩
theorem Msg.zero_st {w0 w : World} {l : List Thing} (h : St w0 w l) : St w0 w (grp (Msg.things Msg.zero) :: l) :=
  St.regrp (Msg.things Msg.zero) (((Req.zero_st ((((h.grp0).nilSlice 3 1).grp0).nilSlice 28 11)).grp0).nilSlice 9 1)
theorem infoIntW : (Try.prog.info? 3).map (fun i => (i.zero.map (·.cells.size), i.size, i.bytes)) = some (some 1, 1, 8) := by kernel_rfl
theorem infoEnt : (Try.prog.info? 28).map (fun i => (i.zero.map (·.cells.size), i.size, i.bytes)) = some (some 11, 11, 136) := by kernel_rfl
theorem Ent.one (x : Ent) : ∀ u ∈ x.cells, u.oneCell' = true := by
  intro u hu
  simp only [Ent.cells, List.mem_cons, List.not_mem_nil, or_false] at hu
  rcases hu with rfl | rfl | rfl | rfl | rfl | rfl | rfl | rfl | rfl | rfl | rfl <;> rfl
theorem iter_succ (q : RS → RS) (s : RS) (k : Nat) : iter q s (k + 1) = q (iter q s k) := rfl
theorem takeNumg_st {w0 w : World} {l : List Thing} {pb : Nat} {bs : List UInt8} {s : RS} (h : St w0 w (rdt pb bs s :: l)) :
    Calls Try.prog 64 #[.pointer (some ⟨pb, 0, none⟩)] w (TkG (Value.int .i64) i64 (fun _ => []) (qNum bs) numB w0 pb bs s l) := by
  go_enter Try.func64, Try.ntmps64
  go_wp2_with fail
  refine (tnum_st h).mono ?_
  rintro e w1 ⟨v, s', rfl, H, hS⟩
  go_wp2
  go_ret
  exact ⟨v, s', rfl, H, hS.addNil⟩

set_option maxHeartbeats 2000000 in
theorem rowsInt_st {w0 w : World} {l : List Thing} {pb : Nat} {bs : List UInt8} {s : RS} (h : St w0 w (rdt pb bs s :: l)) :
    Calls Try.prog 63 #[.pointer (some ⟨pb, 0, none⟩), .func (.func 64) #[] #[]] w (RowTk 3 1 intC i64 (fun _ => []) (qNum bs) numB w0 pb bs s l) := by
  obtain ⟨ip, iz, hi1, hi2, hi3, hi4, hi5⟩ := info_row infoIntW
  have HI := Lib.hid (And.intro hi1 (And.intro hi2 (And.intro hi3 (And.intro hi4 hi5))))
  have HS := Lib.hid h
  clear h hi1 hi2 hi3 hi4 hi5
  go_enter Try.func63, Try.ntmps63
  go_wp2_with fail
  refine (rcount_st HS.out 0 rfl 256 (by omega)).mono ?_
  rintro e w1 ⟨rfl, hS⟩
  simp only [List.set_cons_zero] at hS
  have hle : (rcount bs 256 s).1 ≤ 256 := (rcount_ok (most := 256) (HS.out.rok 0 rfl).1).2
  obtain ⟨n, hn⟩ : ∃ n, (rcount bs 256 s).1 = n := ⟨_, rfl⟩
  obtain ⟨s1, hs1⟩ : ∃ s1, (rcount bs 256 s).2 = s1 := ⟨_, rfl⟩
  rw [hn] at hle ⊢
  rw [hs1] at hS
  have hS := hS.rowStart 3 1
  have HN := Lib.hid hn
  have HT := Lib.hid hs1
  clear HS hn hs1
  have HS := Lib.hid hS
  clear hS
  go_wp2
  go_loopg [5, 8] n (fun g x y wr => ∃ (k : Nat) (L : List Int) (a : Option Addr) (cap : Nat) (s' : RS), k + g = n ∧ y = .int .i64 k ∧ x = .slice a k cap ∧ Hid (L.length = k ∧ (∀ x ∈ L, i64 x) ∧ s' = iter (qNum bs) s1 k ∧ Rel bs s1 s' (L.flatMap numB)) ∧ St w0 wr (rdt pb bs s' :: sl 3 1 a k cap (L.flatMap intC) :: grp (L.map fun x => grp ((fun _ => []) x)) :: l))
  case atStart => exact ⟨0, [], none, 0, s1, by omega, rfl, rfl, Lib.hid ⟨rfl, fun _ h => absurd h List.not_mem_nil, rfl, Rel.refl⟩, HS.out⟩
  case round =>
    obtain ⟨k, L, a, cap, s', hkg, rfl, rfl, HL, hS⟩ := hrel
    by_cases hlt : k < n
    · go_wp2_with fail
      refine (takeNumg_st hS).mono ?_
      clear hS
      rintro e w2 ⟨t, s2, rfl, HQ, hS⟩
      have hS := hS.absorb.slice1 #[.int .i64 t] 3 1 1 rfl (by unfold maxLen; omega)
      have HR := Lib.hid (hS.slice 0 rfl).rd
      have HA := Lib.hid (hS.slice 2 rfl)
      have HS := Lib.hid hS
      clear hS
      go_wp2_with (at_builtin; refine wpList_append 3 ip iz 1 8 (by kernel_rfl) HI.out.1 HI.out.2.1 HI.out.2.2.1 HI.out.2.2.2.1 HI.out.2.2.2.2 a k cap (L.flatMap intC) rfl HA.out (some ⟨w2.heap.size, 0, none⟩) 1 1 [.int .i64 t] rfl HR.out (fun u hu => by rw [List.mem_singleton.1 hu]; rfl) (by unfold maxLen; omega) (by omega) ?_; intro a6 cap6 w6 hS6 hM6 hF6 hN6 hR6; have hSA := (HS.out.regrow 2 rfl hS6 hM6 hF6).tail; have HSA := Lib.hid hSA; clear hN6 hR6 hSA hS6 hM6 hF6)
      go_roundg (gk - 1)
      case measure => omega
      case rel =>
        refine ⟨k + 1, L ++ [t], a6, cap6, s2, by omega, by simp, rfl, Lib.hid ⟨by simp [HL.out.1], list_snoc_all HL.out.2.1 HQ.out.1, HQ.out.2.1.trans (congrArg _ HL.out.2.2.1), by rw [flat_snoc]; exact HL.out.2.2.2.trans HQ.out.2.2⟩, ?_⟩
        rw [flat_snoc, List.map_append]
        exact HSA.out
    · have hk : k = n := by omega
      have HK := Lib.hid hk
      clear hkg hk
      go_wp2
      go_ret
      refine ⟨L, a, cap, s', by rw [HL.out.1]; rfl, Lib.hid ⟨⟨HL.out.2.1, by rw [HL.out.1, HK.out]; exact hle⟩, ?_, ?_⟩, ?_⟩
      · unfold qList
        rw [HN.out, HT.out, ← HK.out]
        exact HL.out.2.2.1
      · exact rel_list (by rw [HT.out]; exact HL.out.2.2.2) (by rw [HL.out.1, HN.out]; exact HK.out)
      · rw [HL.out.1]; exact hS

set_option maxHeartbeats 2000000 in
theorem rowsEnt_st {w0 w : World} {l : List Thing} {pb : Nat} {bs : List UInt8} {s : RS} (h : St w0 w (rdt pb bs s :: l)) :
    Calls Try.prog 66 #[.pointer (some ⟨pb, 0, none⟩), .func (.func 28) #[] #[]] w (RowTk 28 11 Ent.cells Ent.fine Ent.things (qEnt bs) Ent.bytes w0 pb bs s l) := by
  obtain ⟨ip, iz, hi1, hi2, hi3, hi4, hi5⟩ := info_row infoEnt
  have HI := Lib.hid (And.intro hi1 (And.intro hi2 (And.intro hi3 (And.intro hi4 hi5))))
  have HS := Lib.hid h
  clear h hi1 hi2 hi3 hi4 hi5
  go_enter Try.func66, Try.ntmps66
  go_wp2_with fail
  refine (rcount_st HS.out 0 rfl 256 (by omega)).mono ?_
  rintro e w1 ⟨rfl, hS⟩
  simp only [List.set_cons_zero] at hS
  have hle : (rcount bs 256 s).1 ≤ 256 := (rcount_ok (most := 256) (HS.out.rok 0 rfl).1).2
  obtain ⟨n, hn⟩ : ∃ n, (rcount bs 256 s).1 = n := ⟨_, rfl⟩
  obtain ⟨s1, hs1⟩ : ∃ s1, (rcount bs 256 s).2 = s1 := ⟨_, rfl⟩
  rw [hn] at hle ⊢
  rw [hs1] at hS
  have hS := hS.rowStart 28 11
  have HN := Lib.hid hn
  have HT := Lib.hid hs1
  clear HS hn hs1
  have HS := Lib.hid hS
  clear hS
  go_wp2
  go_loopg [5, 8] n (fun g x y wr => ∃ (k : Nat) (L : List Ent) (a : Option Addr) (cap : Nat) (s' : RS), k + g = n ∧ y = .int .i64 k ∧ x = .slice a k cap ∧ Hid (L.length = k ∧ (∀ x ∈ L, Ent.fine x) ∧ s' = iter (qEnt bs) s1 k ∧ Rel bs s1 s' (L.flatMap Ent.bytes)) ∧ St w0 wr (rdt pb bs s' :: sl 28 11 a k cap (L.flatMap Ent.cells) :: grp (L.map fun x => grp (Ent.things x)) :: l))
  case atStart => exact ⟨0, [], none, 0, s1, by omega, rfl, rfl, Lib.hid ⟨rfl, fun _ h => absurd h List.not_mem_nil, rfl, Rel.refl⟩, HS.out⟩
  case round =>
    obtain ⟨k, L, a, cap, s', hkg, rfl, rfl, HL, hS⟩ := hrel
    by_cases hlt : k < n
    · go_wp2_with fail
      refine (takeEntry_st hS).mono ?_
      clear hS
      rintro e w2 ⟨t, s2, rfl, HQ, hS⟩
      simp only [Ent.cells]
      have hS := hS.absorb.slice1 #[.int .i64 t.zxid, .int .i64 t.session, .int .i64 t.xid, .int .i64 t.t.kind, .string t.t.path, .string t.t.data, .slice t.t.aclA t.t.acl.length t.t.aclC, .int .i64 t.t.owner, .int .i64 t.t.number, .int .i64 t.t.err, .slice t.t.subsA t.t.subsN t.t.subsC] 28 11 1 rfl (by unfold maxLen; omega)
      have HR := Lib.hid (hS.slice 0 rfl).rd
      have HA := Lib.hid (hS.slice 2 rfl)
      have HS := Lib.hid hS
      clear hS
      go_wp2_with (at_builtin; refine wpList_append 28 ip iz 11 136 (by kernel_rfl) HI.out.1 HI.out.2.1 HI.out.2.2.1 HI.out.2.2.2.1 HI.out.2.2.2.2 a k cap (L.flatMap Ent.cells) rfl HA.out (some ⟨w2.heap.size, 0, none⟩) 1 1 t.cells rfl HR.out (Ent.one t) (by unfold maxLen; omega) (by omega) ?_; intro a6 cap6 w6 hS6 hM6 hF6 hN6 hR6; have hSA := (HS.out.regrow 2 rfl hS6 hM6 hF6).tail; have HSA := Lib.hid hSA; clear hN6 hR6 hSA hS6 hM6 hF6)
      go_roundg (gk - 1)
      case measure => omega
      case rel =>
        refine ⟨k + 1, L ++ [t], a6, cap6, s2, by omega, by simp, rfl, Lib.hid ⟨by simp [HL.out.1], list_snoc_all HL.out.2.1 HQ.out.1, (HQ.out.2.1.trans (congrArg (qEnt bs) HL.out.2.2.1)).trans (iter_succ (qEnt bs) s1 k).symm, by rw [flat_snoc]; exact HL.out.2.2.2.trans HQ.out.2.2⟩, ?_⟩
        rw [flat_snoc, List.map_append]
        exact HSA.out
    · have hk : k = n := by omega
      have HK := Lib.hid hk
      clear hkg hk
      go_wp2
      go_ret
      refine ⟨L, a, cap, s', by rw [HL.out.1]; rfl, Lib.hid ⟨⟨HL.out.2.1, by rw [HL.out.1, HK.out]; exact hle⟩, ?_, ?_⟩, ?_⟩
      · unfold qList
        rw [HN.out, HT.out, ← HK.out]
        exact HL.out.2.2.1
      · exact rel_list (by rw [HT.out]; exact HL.out.2.2.2) (by rw [HL.out.1, HN.out]; exact HK.out)
      · rw [HL.out.1]; exact hS

theorem fill5m (a0 a1 a2 a3 a4 b0 b1 b2 c0 c1 c2 c3 c4 c5 c6 c7 c8 c9 d0 : Value) (f : Nat → Value) :
    cfill #[a0, a1, a2, a3, a4, b0, b1, b2, c0, c1, c2, c3, c4, c5, c6, c7, c8, c9, d0] [(0, 0), (0, 1), (0, 2), (0, 3), (0, 4)] f 5 = #[f 0, f 1, f 2, f 3, f 4, b0, b1, b2, c0, c1, c2, c3, c4, c5, c6, c7, c8, c9, d0] := by
  simp only [cfill, List.getD_cons_zero, List.getD_cons_succ, List.setIfInBounds_toArray, List.set_cons_succ, List.set_cons_zero]


set_option maxHeartbeats 16000000 in
theorem takeMessage_st {w0 w : World} {l : List Thing} {pb : Nat} {bs : List UInt8} {s : RS} (h : St w0 w (rdt pb bs s :: l)) :
    Calls Try.prog 26 #[.pointer (some ⟨pb, 0, none⟩)] w (TkG (fun x => Value.agg (Msg.cells x).toArray) Msg.fine Msg.things (qMsg bs) Msg.bytes w0 pb bs s l) := by
  have hS := (h.box2 #[.int .i64 0, .int .i64 0, .int .i64 0, .int .i64 0, .int .i64 0, .slice none 0 0, .string ⟨#[]⟩, .slice none 0 0, .int .i64 0, .int .i64 0, .string ⟨#[]⟩, .string ⟨#[]⟩, .slice none 0 0, .int .i64 0, .int .i64 0, .bool false, .slice none 0 0, .slice none 0 0, .slice none 0 0] 37).box2 #[.int .i64 0, .int .i64 0, .int .i64 0, .int .i64 0, .int .i64 0, .slice none 0 0, .string ⟨#[]⟩, .slice none 0 0, .int .i64 0, .int .i64 0, .string ⟨#[]⟩, .string ⟨#[]⟩, .slice none 0 0, .int .i64 0, .int .i64 0, .bool false, .slice none 0 0, .slice none 0 0, .slice none 0 0] 37
  simp only [World.size_alloc] at hS
  have hz0 : ((w.alloc (.cells #[.int .i64 0, .int .i64 0, .int .i64 0, .int .i64 0, .int .i64 0, .slice none 0 0, .string ⟨#[]⟩, .slice none 0 0, .int .i64 0, .int .i64 0, .string ⟨#[]⟩, .string ⟨#[]⟩, .slice none 0 0, .int .i64 0, .int .i64 0, .bool false, .slice none 0 0, .slice none 0 0, .slice none 0 0] 37)).alloc (.cells #[.int .i64 0, .int .i64 0, .int .i64 0, .int .i64 0, .int .i64 0, .slice none 0 0, .string ⟨#[]⟩, .slice none 0 0, .int .i64 0, .int .i64 0, .string ⟨#[]⟩, .string ⟨#[]⟩, .slice none 0 0, .int .i64 0, .int .i64 0, .bool false, .slice none 0 0, .slice none 0 0, .slice none 0 0] 37)).heap.size = w.heap.size + 1 + 1 := by simp only [World.size_alloc]
  clear h
  go_enter Try.func26, Try.ntmps26
  go_wp2_with fail
  generalize (w.alloc (.cells #[.int .i64 0, .int .i64 0, .int .i64 0, .int .i64 0, .int .i64 0, .slice none 0 0, .string ⟨#[]⟩, .slice none 0 0, .int .i64 0, .int .i64 0, .string ⟨#[]⟩, .string ⟨#[]⟩, .slice none 0 0, .int .i64 0, .int .i64 0, .bool false, .slice none 0 0, .slice none 0 0, .slice none 0 0] 37)).alloc (.cells #[.int .i64 0, .int .i64 0, .int .i64 0, .int .i64 0, .int .i64 0, .slice none 0 0, .string ⟨#[]⟩, .slice none 0 0, .int .i64 0, .int .i64 0, .string ⟨#[]⟩, .string ⟨#[]⟩, .slice none 0 0, .int .i64 0, .int .i64 0, .bool false, .slice none 0 0, .slice none 0 0, .slice none 0 0] 37) = W at *
  generalize w.heap.size = rb at *
  have hS := hS.slice2 #[.pointer (some ⟨rb + 1, 0, none⟩), .pointer (some ⟨rb + 1, 1, none⟩), .pointer (some ⟨rb + 1, 2, none⟩), .pointer (some ⟨rb + 1, 3, none⟩), .pointer (some ⟨rb + 1, 4, none⟩)] 118 1 5 rfl (by unfold maxLen; omega)
  rw [hz0] at hS
  refine (into_st (l := bx rb #[.int .i64 0, .int .i64 0, .int .i64 0, .int .i64 0, .int .i64 0, .slice none 0 0, .string ⟨#[]⟩, .slice none 0 0, .int .i64 0, .int .i64 0, .string ⟨#[]⟩, .string ⟨#[]⟩, .slice none 0 0, .int .i64 0, .int .i64 0, .bool false, .slice none 0 0, .slice none 0 0, .slice none 0 0] 37 :: l) [⟨rb + 1, #[.int .i64 0, .int .i64 0, .int .i64 0, .int .i64 0, .int .i64 0, .slice none 0 0, .string ⟨#[]⟩, .slice none 0 0, .int .i64 0, .int .i64 0, .string ⟨#[]⟩, .string ⟨#[]⟩, .slice none 0 0, .int .i64 0, .int .i64 0, .bool false, .slice none 0 0, .slice none 0 0, .slice none 0 0], 37⟩] [(0, 0), (0, 1), (0, 2), (0, 3), (0, 4)] hS rfl (by intro p hp; simp only [List.mem_cons, List.not_mem_nil, or_false] at hp; rcases hp with rfl | rfl | rfl | rfl | rfl <;> exact ⟨_, rfl, by simp⟩) (by omega)).mono ?_
  have hok := (hS.rok 0 rfl).1
  have KH1 : (i64 (rv bs s 0) ∧ i64 (rv bs s 1) ∧ i64 (rv bs s 2) ∧ i64 (rv bs s 3) ∧ i64 (rv bs s 4)) ∧ rs bs s 5 = rs bs s 5 ∧ Rel bs s (rs bs s 5) (numsB [rv bs s 0, rv bs s 1, rv bs s 2, rv bs s 3, rv bs s 4]) := ⟨⟨rv_i64 hok 0, rv_i64 hok 1, rv_i64 hok 2, rv_i64 hok 3, rv_i64 hok 4⟩, rfl, rel_nums 5⟩
  clear hS hok hz0
  rintro e w1 ⟨rfl, hS⟩
  rw [vfill_one _ _ _ _ _ rfl, fill5m] at hS
  have hS : St w0 w1 (rdt pb bs (rs bs s 5) :: sl 118 1 (some ⟨rb + 1 + 1, 0, none⟩) 5 5 #[.pointer (some ⟨rb + 1, 0, none⟩), .pointer (some ⟨rb + 1, 1, none⟩), .pointer (some ⟨rb + 1, 2, none⟩), .pointer (some ⟨rb + 1, 3, none⟩), .pointer (some ⟨rb + 1, 4, none⟩)].toList :: bx (rb + 1) #[.int .i64 (rv bs s 0), .int .i64 (rv bs s 1), .int .i64 (rv bs s 2), .int .i64 (rv bs s 3), .int .i64 (rv bs s 4), .slice none 0 0, .string ⟨#[]⟩, .slice none 0 0, .int .i64 0, .int .i64 0, .string ⟨#[]⟩, .string ⟨#[]⟩, .slice none 0 0, .int .i64 0, .int .i64 0, .bool false, .slice none 0 0, .slice none 0 0, .slice none 0 0] 37 :: bx rb #[.int .i64 0, .int .i64 0, .int .i64 0, .int .i64 0, .int .i64 0, .slice none 0 0, .string ⟨#[]⟩, .slice none 0 0, .int .i64 0, .int .i64 0, .string ⟨#[]⟩, .string ⟨#[]⟩, .slice none 0 0, .int .i64 0, .int .i64 0, .bool false, .slice none 0 0, .slice none 0 0, .slice none 0 0] 37 :: l) := hS
  have hS := hS.tail2
  generalize rv bs s 0 = v0 at hS KH1
  generalize rv bs s 1 = v1 at hS KH1
  generalize rv bs s 2 = v2 at hS KH1
  generalize rv bs s 3 = v3 at hS KH1
  generalize rv bs s 4 = v4 at hS KH1
  obtain ⟨s1, hs1⟩ : ∃ x, x = rs bs s 5 := ⟨_, rfl⟩
  rw [← hs1] at hS
  have H1 : Hid ((i64 v0 ∧ i64 v1 ∧ i64 v2 ∧ i64 v3 ∧ i64 v4) ∧ s1 = rs bs s 5 ∧ Rel bs s s1 (numsB [v0, v1, v2, v3, v4])) := by rw [← hs1] at KH1; exact Lib.hid ⟨KH1.1, hs1, KH1.2.2⟩
  clear hs1 KH1
  go_wp2_with fail
  refine (rowsInt_st hS).mono ?_
  clear hS
  rintro e w2 ⟨L1, a1, cap1, s2, rfl, H2, hS⟩
  have c0 := blk_cell (hS.box 3 rfl) 5 _ rfl
  have f0 := blk_free (hS.box 3 rfl) 5
  have z0 := heap_lt (hS.box 3 rfl)
  have hS := hS.set 3 rfl 5 (.slice a1 L1.length cap1)
  have hS : St w0 (w2.setCell ⟨rb + 1, 5, none⟩ (.slice a1 L1.length cap1)) (rdt pb bs s2 :: sl 3 1 a1 L1.length cap1 (L1.flatMap intC) :: grp (L1.map fun x => grp ((fun _ => []) x)) :: bx (rb + 1) #[.int .i64 v0, .int .i64 v1, .int .i64 v2, .int .i64 v3, .int .i64 v4, .slice a1 L1.length cap1, .string ⟨#[]⟩, .slice none 0 0, .int .i64 0, .int .i64 0, .string ⟨#[]⟩, .string ⟨#[]⟩, .slice none 0 0, .int .i64 0, .int .i64 0, .bool false, .slice none 0 0, .slice none 0 0, .slice none 0 0] 37 :: bx rb #[.int .i64 0, .int .i64 0, .int .i64 0, .int .i64 0, .int .i64 0, .slice none 0 0, .string ⟨#[]⟩, .slice none 0 0, .int .i64 0, .int .i64 0, .string ⟨#[]⟩, .string ⟨#[]⟩, .slice none 0 0, .int .i64 0, .int .i64 0, .bool false, .slice none 0 0, .slice none 0 0, .slice none 0 0] 37 :: l) := hS
  have HS := Lib.hid hS
  clear hS
  go_wp2_with fail
  refine (rtext_st HS.out 0 rfl 65536 (by omega)).mono ?_
  have hok := (HS.out.rok 0 rfl).1
  have KH3 : (rtext bs 65536 s2).2 = qBig bs s2 ∧ Rel bs s2 (rtext bs 65536 s2).2 (txtB ⟨(rtext bs 65536 s2).1.toArray⟩) := ⟨rfl, rel_snap 65536 hok⟩
  clear hok c0 f0 z0 HS
  rintro e w3 ⟨rfl, hS⟩
  simp only [List.set_cons_zero] at hS
  obtain ⟨s3, hs3⟩ : ∃ x, x = (rtext bs 65536 s2).2 := ⟨_, rfl⟩
  rw [← hs3] at hS KH3
  generalize (⟨(rtext bs 65536 s2).1.toArray⟩ : ByteArray) = d at *
  have H3 := Lib.hid KH3
  clear hs3 KH3
  have c0 := blk_cell (hS.box 3 rfl) 6 _ rfl
  have f0 := blk_free (hS.box 3 rfl) 6
  have z0 := heap_lt (hS.box 3 rfl)
  have hS := hS.set 3 rfl 6 (.string d)
  have hS : St w0 (w3.setCell ⟨rb + 1, 6, none⟩ (.string d)) (rdt pb bs s3 :: sl 3 1 a1 L1.length cap1 (L1.flatMap intC) :: grp (L1.map fun x => grp ((fun _ => []) x)) :: bx (rb + 1) #[.int .i64 v0, .int .i64 v1, .int .i64 v2, .int .i64 v3, .int .i64 v4, .slice a1 L1.length cap1, .string d, .slice none 0 0, .int .i64 0, .int .i64 0, .string ⟨#[]⟩, .string ⟨#[]⟩, .slice none 0 0, .int .i64 0, .int .i64 0, .bool false, .slice none 0 0, .slice none 0 0, .slice none 0 0] 37 :: bx rb #[.int .i64 0, .int .i64 0, .int .i64 0, .int .i64 0, .int .i64 0, .slice none 0 0, .string ⟨#[]⟩, .slice none 0 0, .int .i64 0, .int .i64 0, .string ⟨#[]⟩, .string ⟨#[]⟩, .slice none 0 0, .int .i64 0, .int .i64 0, .bool false, .slice none 0 0, .slice none 0 0, .slice none 0 0] 37 :: l) := hS
  have HS := Lib.hid hS
  clear hS
  go_wp2_with fail
  refine (rowsEnt_st HS.out).mono ?_
  clear c0 f0 z0 HS
  rintro e w4 ⟨L2, a2, cap2, s4, rfl, H4, hS⟩
  have c0 := blk_cell (hS.box 5 rfl) 7 _ rfl
  have f0 := blk_free (hS.box 5 rfl) 7
  have z0 := heap_lt (hS.box 5 rfl)
  have hS := hS.set 5 rfl 7 (.slice a2 L2.length cap2)
  have hS : St w0 (w4.setCell ⟨rb + 1, 7, none⟩ (.slice a2 L2.length cap2)) (rdt pb bs s4 :: sl 28 11 a2 L2.length cap2 (L2.flatMap Ent.cells) :: grp (L2.map fun x => grp (Ent.things x)) :: sl 3 1 a1 L1.length cap1 (L1.flatMap intC) :: grp (L1.map fun x => grp ((fun _ => []) x)) :: bx (rb + 1) #[.int .i64 v0, .int .i64 v1, .int .i64 v2, .int .i64 v3, .int .i64 v4, .slice a1 L1.length cap1, .string d, .slice a2 L2.length cap2, .int .i64 0, .int .i64 0, .string ⟨#[]⟩, .string ⟨#[]⟩, .slice none 0 0, .int .i64 0, .int .i64 0, .bool false, .slice none 0 0, .slice none 0 0, .slice none 0 0] 37 :: bx rb #[.int .i64 0, .int .i64 0, .int .i64 0, .int .i64 0, .int .i64 0, .slice none 0 0, .string ⟨#[]⟩, .slice none 0 0, .int .i64 0, .int .i64 0, .string ⟨#[]⟩, .string ⟨#[]⟩, .slice none 0 0, .int .i64 0, .int .i64 0, .bool false, .slice none 0 0, .slice none 0 0, .slice none 0 0] 37 :: l) := hS
  have HS := Lib.hid hS
  clear hS
  go_wp2_with fail
  refine (takeRequest_st HS.out).mono ?_
  clear c0 f0 z0 HS
  rintro e w5 ⟨q, s5, rfl, H5, hS⟩
  have HS := Lib.hid hS
  clear hS
  simp only [Req.cells, Op.cells]
  go_upto_region 7 with ((with_reducible refine at_list ?_); refine wpList_store_chunk 10 sizeOp (rb + 1) 8 rfl _ _ (HS.out.box 6 rfl) (.agg [.int .i64 q.q.kind, .int .i64 q.q.xid, .string q.q.path, .string q.q.data, .slice q.q.aclA q.q.acl.length q.q.aclC, .int .i64 q.q.flags, .int .i64 q.q.version, .bool q.q.watch, .slice q.q.subsA q.q.subsN q.q.subsC, .slice q.q.armedA q.q.armedN q.q.armedC].toArray) rfl [.int .i64 q.q.kind, .int .i64 q.q.xid, .string q.q.path, .string q.q.data, .slice q.q.aclA q.q.acl.length q.q.aclC, .int .i64 q.q.flags, .int .i64 q.q.version, .bool q.q.watch, .slice q.q.subsA q.q.subsN q.q.subsC, .slice q.q.armedA q.q.armedN q.q.armedC] rfl rfl (by show 8 + 10 ≤ 19; omega) (by intro u hu; simp only [List.mem_cons, List.not_mem_nil, or_false] at hu; rcases hu with rfl | rfl | rfl | rfl | rfl | rfl | rfl | rfl | rfl | rfl <;> rfl) ?_; intro w6 hg9 hM9 hz9)
  have hg9 : w6.heap[rb + 1]? = some (.cells #[.int .i64 v0, .int .i64 v1, .int .i64 v2, .int .i64 v3, .int .i64 v4, .slice a1 L1.length cap1, .string d, .slice a2 L2.length cap2, .int .i64 q.q.kind, .int .i64 q.q.xid, .string q.q.path, .string q.q.data, .slice q.q.aclA q.q.acl.length q.q.aclC, .int .i64 q.q.flags, .int .i64 q.q.version, .bool q.q.watch, .slice q.q.subsA q.q.subsN q.q.subsC, .slice q.q.armedA q.q.armedN q.q.armedC, .slice none 0 0] 37 (0, 0)) := hg9
  have hS := HS.out.rebox 6 rfl hg9 hM9
  have hS : St w0 w6 (rdt pb bs s5 :: grp (Req.things q) :: sl 28 11 a2 L2.length cap2 (L2.flatMap Ent.cells) :: grp (L2.map fun x => grp (Ent.things x)) :: sl 3 1 a1 L1.length cap1 (L1.flatMap intC) :: grp (L1.map fun x => grp ((fun _ => []) x)) :: bx (rb + 1) #[.int .i64 v0, .int .i64 v1, .int .i64 v2, .int .i64 v3, .int .i64 v4, .slice a1 L1.length cap1, .string d, .slice a2 L2.length cap2, .int .i64 q.q.kind, .int .i64 q.q.xid, .string q.q.path, .string q.q.data, .slice q.q.aclA q.q.acl.length q.q.aclC, .int .i64 q.q.flags, .int .i64 q.q.version, .bool q.q.watch, .slice q.q.subsA q.q.subsN q.q.subsC, .slice q.q.armedA q.q.armedN q.q.armedC, .slice none 0 0] 37 :: bx rb #[.int .i64 0, .int .i64 0, .int .i64 0, .int .i64 0, .int .i64 0, .slice none 0 0, .string ⟨#[]⟩, .slice none 0 0, .int .i64 0, .int .i64 0, .string ⟨#[]⟩, .string ⟨#[]⟩, .slice none 0 0, .int .i64 0, .int .i64 0, .bool false, .slice none 0 0, .slice none 0 0, .slice none 0 0] 37 :: l) := hS
  clear HS hg9 hM9 hz9
  go_wp2_with fail
  refine (rowsStr_st hS).mono ?_
  clear hS
  rintro e w7 ⟨L3, a3, cap3, s6, rfl, H6, hS⟩
  have c0 := blk_cell (hS.box 8 rfl) 18 _ rfl
  have f0 := blk_free (hS.box 8 rfl) 18
  have z0 := heap_lt (hS.box 8 rfl)
  have hS := hS.set 8 rfl 18 (.slice a3 L3.length cap3)
  have hS : St w0 (w7.setCell ⟨rb + 1, 18, none⟩ (.slice a3 L3.length cap3)) (rdt pb bs s6 :: sl 9 1 a3 L3.length cap3 (L3.flatMap strC) :: grp (L3.map fun x => grp ((fun _ => []) x)) :: grp (Req.things q) :: sl 28 11 a2 L2.length cap2 (L2.flatMap Ent.cells) :: grp (L2.map fun x => grp (Ent.things x)) :: sl 3 1 a1 L1.length cap1 (L1.flatMap intC) :: grp (L1.map fun x => grp ((fun _ => []) x)) :: bx (rb + 1) #[.int .i64 v0, .int .i64 v1, .int .i64 v2, .int .i64 v3, .int .i64 v4, .slice a1 L1.length cap1, .string d, .slice a2 L2.length cap2, .int .i64 q.q.kind, .int .i64 q.q.xid, .string q.q.path, .string q.q.data, .slice q.q.aclA q.q.acl.length q.q.aclC, .int .i64 q.q.flags, .int .i64 q.q.version, .bool q.q.watch, .slice q.q.subsA q.q.subsN q.q.subsC, .slice q.q.armedA q.q.armedN q.q.armedC, .slice a3 L3.length cap3] 37 :: bx rb #[.int .i64 0, .int .i64 0, .int .i64 0, .int .i64 0, .int .i64 0, .slice none 0 0, .string ⟨#[]⟩, .slice none 0 0, .int .i64 0, .int .i64 0, .string ⟨#[]⟩, .string ⟨#[]⟩, .slice none 0 0, .int .i64 0, .int .i64 0, .bool false, .slice none 0 0, .slice none 0 0, .slice none 0 0] 37 :: l) := hS
  have z1 := heap_lt (hS.box 9 rfl)
  have HS := Lib.hid hS
  clear hS
  go_wp2_with (first | ((with_reducible refine at_list ?_); refine wpList_load_chunk 19 _ Try.underlying37 rfl sizeMsg ⟨rb + 1, 0, none⟩ rfl [.int .i64 v0, .int .i64 v1, .int .i64 v2, .int .i64 v3, .int .i64 v4, .slice a1 L1.length cap1, .string d, .slice a2 L2.length cap2, .int .i64 q.q.kind, .int .i64 q.q.xid, .string q.q.path, .string q.q.data, .slice q.q.aclA q.q.acl.length q.q.aclC, .int .i64 q.q.flags, .int .i64 q.q.version, .bool q.q.watch, .slice q.q.subsA q.q.subsN q.q.subsC, .slice q.q.armedA q.q.armedN q.q.armedC, .slice a3 L3.length cap3] rfl (box_chunk (cs := [.int .i64 v0, .int .i64 v1, .int .i64 v2, .int .i64 v3, .int .i64 v4, .slice a1 L1.length cap1, .string d, .slice a2 L2.length cap2, .int .i64 q.q.kind, .int .i64 q.q.xid, .string q.q.path, .string q.q.data, .slice q.q.aclA q.q.acl.length q.q.aclC, .int .i64 q.q.flags, .int .i64 q.q.version, .bool q.q.watch, .slice q.q.subsA q.q.subsN q.q.subsC, .slice q.q.armedA q.q.armedN q.q.armedC, .slice a3 L3.length cap3]) (HS.out.box 8 rfl)) ?_) | ((with_reducible refine at_list ?_); refine wpList_store_whole 19 sizeMsg rb rfl _ _ (HS.out.box 9 rfl) rfl [.int .i64 v0, .int .i64 v1, .int .i64 v2, .int .i64 v3, .int .i64 v4, .slice a1 L1.length cap1, .string d, .slice a2 L2.length cap2, .int .i64 q.q.kind, .int .i64 q.q.xid, .string q.q.path, .string q.q.data, .slice q.q.aclA q.q.acl.length q.q.aclC, .int .i64 q.q.flags, .int .i64 q.q.version, .bool q.q.watch, .slice q.q.subsA q.q.subsN q.q.subsC, .slice q.q.armedA q.q.armedN q.q.armedC, .slice a3 L3.length cap3] rfl rfl (by kernel_rfl) ?_; intro w30 hg4 hM4 hz4))
  refine bodyPost_ret (results_cell rfl _ w30 rb _ _ _ _ rfl hg4 Try.underlying37 rfl sizeMsg) rfl ?_
  have hS := HS.out.rebox 9 rfl hg4 hM4
  have hS : St w0 w30 (rdt pb bs s6 :: sl 9 1 a3 L3.length cap3 (L3.flatMap strC) :: grp (L3.map fun x => grp ((fun _ => []) x)) :: grp (Req.things q) :: sl 28 11 a2 L2.length cap2 (L2.flatMap Ent.cells) :: grp (L2.map fun x => grp (Ent.things x)) :: sl 3 1 a1 L1.length cap1 (L1.flatMap intC) :: grp (L1.map fun x => grp ((fun _ => []) x)) :: bx (rb + 1) _ _ :: bx rb _ _ :: l) := hS
  refine ⟨⟨v0, v1, v2, v3, v4, L1, a1, cap1, d, L2, a2, cap2, q, L3, a3, cap3⟩, s6, rfl, Lib.hid ⟨⟨H1.out.1, H2.out.1, H4.out.1, H5.out.1, H6.out.1.2⟩, ?_, ?_⟩, ?_⟩
  · rw [H6.out.2.1, H5.out.2.1, H4.out.2.1, H3.out.1, H2.out.2.1, H1.out.2.1]; rfl
  · exact ((((H1.out.2.2.trans H2.out.2.2).trans H3.out.2).trans H4.out.2.2).trans H5.out.2.2).trans H6.out.2.2
  · exact (St.regrp1 (Msg.things ⟨v0, v1, v2, v3, v4, L1, a1, cap1, d, L2, a2, cap2, q, L3, a3, cap3⟩) hS).drop2

set_option maxHeartbeats 8000000 in
theorem getMessage_st {w0 w : World} {l : List Thing} (S : ByteArray) (hf : bfits S.size) (h : St w0 w l) :
    Calls Try.prog 25 #[.string S, .func (.func 26) #[] #[]] w (GetG Msg.cells Msg.fine Msg.things (qMsg S.data.toList) Msg.bytes Msg.zero S w0 l) := by
  have hS := h.box1 #[.int .i64 0, .int .i64 0, .int .i64 0, .int .i64 0, .int .i64 0, .slice none 0 0, .string ⟨#[]⟩, .slice none 0 0, .int .i64 0, .int .i64 0, .string ⟨#[]⟩, .string ⟨#[]⟩, .slice none 0 0, .int .i64 0, .int .i64 0, .bool false, .slice none 0 0, .slice none 0 0, .slice none 0 0] 37
  have HF := Lib.hid hf
  clear h hf
  go_enter Try.func25, Try.ntmps25
  go_wp2_with fail
  generalize w.alloc (.cells #[.int .i64 0, .int .i64 0, .int .i64 0, .int .i64 0, .int .i64 0, .slice none 0 0, .string ⟨#[]⟩, .slice none 0 0, .int .i64 0, .int .i64 0, .string ⟨#[]⟩, .string ⟨#[]⟩, .slice none 0 0, .int .i64 0, .int .i64 0, .bool false, .slice none 0 0, .slice none 0 0, .slice none 0 0] 37) = W at *
  generalize w.heap.size = rb at *
  refine (rread_st hS S HF.out).mono ?_
  clear hS
  rintro e w9 ⟨pb, rfl, hS⟩
  go_wp2_with fail
  refine (takeMessage_st hS).mono ?_
  clear hS
  rintro e w1 ⟨x, s', rfl, HX, hS⟩
  have HS := Lib.hid (hS.box2 #[.int .i64 0, .int .i64 0, .int .i64 0, .int .i64 0, .int .i64 0, .slice none 0 0, .string ⟨#[]⟩, .slice none 0 0, .int .i64 0, .int .i64 0, .string ⟨#[]⟩, .string ⟨#[]⟩, .slice none 0 0, .int .i64 0, .int .i64 0, .bool false, .slice none 0 0, .slice none 0 0, .slice none 0 0] 37)
  have hok := (hS.rok 0 rfl).1
  have HOK := Lib.hid hok
  clear hS hok
  go_wp2_with ((with_reducible refine at_list ?_); refine wpList_store_whole 19 sizeMsg w1.heap.size rfl _ _ (HS.out.box 1 rfl) rfl x.cells rfl rfl (by kernel_rfl) ?_; intro w2 hg2 hM2 hz2)
  have hS := HS.out.rebox 1 rfl hg2 hM2
  simp only [List.set_cons_succ, List.set_cons_zero] at hS
  clear HS hg2 hM2 hz2
  generalize w1.heap.size = tb at *
  refine (rend_st hS 0 rfl).mono ?_
  clear hS
  rintro e w3 ⟨rfl, hS⟩
  simp only [List.set_cons_zero] at hS
  have HS := Lib.hid hS
  clear hS
  by_cases hq : (rend S.data.toList s').wr = 0
  · have HQ := Lib.hid hq
    obtain ⟨z, hz⟩ : ∃ z, (rend S.data.toList s').wr = z := ⟨_, rfl⟩
    rw [hz] at hq ⊢
    subst hq
    clear hz
    go_wp2_with (first | ((with_reducible refine at_list ?_); refine wpList_load_chunk 19 _ Try.underlying37 rfl sizeMsg ⟨tb, 0, none⟩ rfl x.cells rfl (box_chunk (HS.out.box 1 rfl)) ?_) | ((with_reducible refine at_list ?_); refine wpList_store_whole 19 sizeMsg rb rfl _ _ (HS.out.box 3 rfl) rfl x.cells rfl rfl (by kernel_rfl) ?_; intro w5 hg5 hM5 hz5))
    refine bodyPost_ret (results_cell_tmp rfl _ w5 rb _ _ _ _ rfl hg5 Try.underlying37 rfl sizeMsg) rfl ?_
    exact ⟨x, 0, rfl, Lib.hid ⟨HX.out.1, .inl ⟨rfl, by rw [← HX.out.2.1]; exact HQ.out, rel_start HX.out.2.2 HOK.out HQ.out⟩⟩, (HS.out.rebox 3 rfl hg5 hM5).tail.tail.tail2⟩
  · have hb : ((rend S.data.toList s').wr == 0) = false := by simpa using hq
    have HQ := Lib.hid hq
    clear hq
    generalize (rend S.data.toList s').wr = z at hb ⊢
    have HS2 := Lib.hid (HS.out.box2 #[.int .i64 0, .int .i64 0, .int .i64 0, .int .i64 0, .int .i64 0, .slice none 0 0, .string ⟨#[]⟩, .slice none 0 0, .int .i64 0, .int .i64 0, .string ⟨#[]⟩, .string ⟨#[]⟩, .slice none 0 0, .int .i64 0, .int .i64 0, .bool false, .slice none 0 0, .slice none 0 0, .slice none 0 0] 37)
    clear HS
    go_wp2_with (first | ((with_reducible refine at_list ?_); refine wpList_load_chunk 19 _ Try.underlying37 rfl sizeMsg ⟨w3.heap.size, 0, none⟩ rfl Msg.zero.cells rfl (box_chunk (HS2.out.box 1 rfl)) ?_) | ((with_reducible refine at_list ?_); refine wpList_store_whole 19 sizeMsg rb rfl _ _ (HS2.out.box 4 rfl) rfl Msg.zero.cells rfl rfl (by kernel_rfl) ?_; intro w5 hg5 hM5 hz5))
    refine bodyPost_ret (results_cell_tmp rfl _ w5 rb _ _ _ _ rfl hg5 Try.underlying37 rfl sizeMsg) rfl ?_
    exact ⟨Msg.zero, 120, rfl, Lib.hid ⟨Msg.zero_fine, .inr ⟨rfl, by rw [← HX.out.2.1]; exact HQ.out, rfl⟩⟩, Msg.zero_st (HS2.out.rebox 4 rfl hg5 hM5).tail.tail.tail.tail.tail⟩

set_option maxHeartbeats 4000000 in
theorem GetMessage_st {w0 w : World} {l : List Thing} (S : ByteArray) (hf : bfits S.size) (h : St w0 w l) :
    Calls Try.prog 9 #[.string S] w (GetG Msg.cells Msg.fine Msg.things (qMsg S.data.toList) Msg.bytes Msg.zero S w0 l) := by
  have hS := h.box1 #[.int .i64 0, .int .i64 0, .int .i64 0, .int .i64 0, .int .i64 0, .slice none 0 0, .string ⟨#[]⟩, .slice none 0 0, .int .i64 0, .int .i64 0, .string ⟨#[]⟩, .string ⟨#[]⟩, .slice none 0 0, .int .i64 0, .int .i64 0, .bool false, .slice none 0 0, .slice none 0 0, .slice none 0 0] 37
  have HF := Lib.hid hf
  clear h hf
  go_enter Try.func9, Try.ntmps9
  go_wp2_with fail
  generalize w.alloc (.cells #[.int .i64 0, .int .i64 0, .int .i64 0, .int .i64 0, .int .i64 0, .slice none 0 0, .string ⟨#[]⟩, .slice none 0 0, .int .i64 0, .int .i64 0, .string ⟨#[]⟩, .string ⟨#[]⟩, .slice none 0 0, .int .i64 0, .int .i64 0, .bool false, .slice none 0 0, .slice none 0 0, .slice none 0 0] 37) = W at *
  generalize w.heap.size = rb at *
  refine (getMessage_st S HF.out hS).mono ?_
  clear hS
  rintro e w1 ⟨x, E, rfl, HX, hS⟩
  have HS := Lib.hid hS
  clear hS
  go_wp2_with ((with_reducible refine at_list ?_); refine wpList_store_whole 19 sizeMsg rb rfl _ _ (HS.out.box 1 rfl) rfl x.cells rfl rfl (by kernel_rfl) ?_; intro w2 hg2 hM2 hz2)
  refine bodyPost_ret (results_cell_tmp rfl _ w2 rb _ _ _ _ rfl hg2 Try.underlying37 rfl sizeMsg) rfl ?_
  exact ⟨x, E, rfl, HX, (HS.out.rebox 1 rfl hg2 hM2).tail2⟩
end Go.Proofs.Ytmbkbkfcbloafab
