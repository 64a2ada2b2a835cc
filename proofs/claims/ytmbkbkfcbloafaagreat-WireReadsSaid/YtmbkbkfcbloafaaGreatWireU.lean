/-
  Lists taken up by the document.
  No condition: every law states its own.
-/
import Derived.Test.YtmbkbkfcbloafaaGreatWireN
import Derived.Test.YtmbkbkfcbloafaaGreatJsmall
namespace Go.Proofs.YtmbkbkfcbloafaaGreat
open Go.RowKit
set_option linter.unusedSectionVars false
set_option linter.unusedSimpArgs false
set_option linter.unusedVariables false
set_option maxRecDepth 100000

section
variable {w0 w : World} {l : List Thing} {pb : Nat} {B : ByteArray} {s : RS}
theorem St.dok (h : St w0 w l) (i : Nat) (hi : l[i]? = some (drt pb B s)) : s.ok B.data.toList.length := by
  obtain ⟨F1, ⟨hw, hF⟩, _⟩ := h.at i hi
  have := hw.2.1
  rwa [← toList_size] at this
theorem St.dwr (h : St w0 w l) (i : Nat) (hi : l[i]? = some (drt pb B s)) : w.cell? ⟨pb, 2, none⟩ = some (.int .i64 s.wr) := by
  obtain ⟨F1, ⟨hw, hF⟩, _⟩ := h.at i hi
  exact hw.cells.2.2.1
theorem St.dlt (h : St w0 w l) (i : Nat) (hi : l[i]? = some (drt pb B s)) : pb < w.heap.size := by
  obtain ⟨F1, ⟨hw, hF⟩, _⟩ := h.at i hi
  exact heap_lt hw.1
/-- The document's reader's answer v and its state s' behind the call. -/
def Dk {α : Type} (val : α → Value) (fine : α → Prop) (q : RS → RS) (bytes : α → List UInt8) (w0 : World) (pb : Nat) (B : ByteArray) (s : RS) (l : List Thing) (e : Ending) (w' : World) : Prop :=
  ∃ (v : α) (s' : RS), e = .returned (val v) ∧ Hid (fine v ∧ s' = q s ∧ Rel B.data.toList s s' (bytes v)) ∧ St w0 w' (drt pb B s' :: l)
def DkG {α : Type} (val : α → Value) (fine : α → Prop) (things : α → List Thing) (q : RS → RS) (bytes : α → List UInt8) (w0 : World) (pb : Nat) (B : ByteArray) (s : RS) (l : List Thing) (e : Ending) (w' : World) : Prop :=
  ∃ (v : α) (s' : RS), e = .returned (val v) ∧ Hid (fine v ∧ s' = q s ∧ Rel B.data.toList s s' (bytes v)) ∧ St w0 w' (drt pb B s' :: grp (things v) :: l)
def RowDk {α : Type} (T K : Nat) (cells : α → List Value) (fine : α → Prop) (things : α → List Thing) (q : RS → RS) (bytes : α → List UInt8) (w0 : World) (pb : Nat) (B : ByteArray) (s : RS) (l : List Thing) (e : Ending) (w' : World) : Prop :=
  ∃ (L : List α) (a : Option Addr) (cap : Nat) (s' : RS), e = .returned (.slice a L.length cap) ∧ Hid (((∀ x ∈ L, fine x) ∧ L.length ≤ 256) ∧ s' = qList B.data.toList q s ∧ Rel B.data.toList s s' (listB bytes L)) ∧
    St w0 w' (drt pb B s' :: sl T K a L.length cap (L.flatMap cells) :: grp (L.map fun x => grp (things x)) :: l)

theorem dtnum_st (h : St w0 w (drt pb B s :: l)) : Calls Tryz.prog 74 #[.pointer (some ⟨pb, 0, none⟩)] w (Dk (Value.int .i64) i64 (qNum B.data.toList) numB w0 pb B s l) := by
  refine (dnum_st h 0 rfl).mono ?_
  rintro e w' ⟨rfl, hS⟩
  exact ⟨_, _, rfl, Lib.hid ⟨rnum_i64 (h.dok 0 rfl), rfl, rel_num⟩, hS⟩
theorem dttext_st (h : St w0 w (drt pb B s :: l)) : Calls Tryz.prog 66 #[.pointer (some ⟨pb, 0, none⟩), .int .i64 4096] w (Dk Value.string (fun _ => True) (qTxt B.data.toList) txtB w0 pb B s l) := by
  refine (dtext_st h 0 rfl 4096 (by omega)).mono ?_
  rintro e w' ⟨rfl, hS⟩
  exact ⟨_, _, rfl, Lib.hid ⟨trivial, rfl, rel_text (h.dok 0 rfl)⟩, hS⟩
theorem dtflag_st (h : St w0 w (drt pb B s :: l)) : Calls Tryz.prog 133 #[.pointer (some ⟨pb, 0, none⟩)] w (Dk Value.bool (fun _ => True) (qFlag B.data.toList) flagB w0 pb B s l) := by
  refine (h.dr 0 rfl fun hw => dflag_any pb B s w hw).mono ?_
  rintro e w' ⟨rfl, hS⟩
  exact ⟨_, _, rfl, Lib.hid ⟨trivial, rfl, rel_flag⟩, hS⟩
end
theorem iter_stop {q : RS → RS} (hq : Sticky q) {s s' : RS} {k n : Nat} (hs : s' = iter q s k) (hw : ¬ s'.wr = 0) (hk : k ≤ n) : s' = iter q s n := by
  subst hs; exact (iter_stuck hq hw hk).symm
theorem numsR_get (bs : List UInt8) (s : RS) {n i : Nat} (h : i < n) : (numsR bs s n)[i]? = some (rv bs s i) := by simp [numsR, h]

theorem rcount2_st {w0 w : World} {l : List Thing} {pb : Nat} {B : ByteArray} {s : RS} (h : St w0 w (drt pb B s :: l)) :
    Calls Tryz.prog 61 #[.pointer (some ⟨pb, 0, none⟩)] w (StPost (.int .i64 (rcount B.data.toList 256 s).1) w0 (drt pb B (rcount B.data.toList 256 s).2 :: l)) := by
  have HS := Lib.hid h
  clear h
  go_enter Tryz.func61, Tryz.ntmps61
  go_wp2_with fail
  refine (dcount_st HS.out 0 rfl 256 (by omega)).mono ?_
  rintro e w1 ⟨rfl, hS⟩
  go_wp2
  go_ret
  exact ⟨rfl, hS⟩

set_option maxHeartbeats 4000000 in
theorem rTakeAcls_st {w0 w : World} {l : List Thing} {pb : Nat} {B : ByteArray} {s : RS} (h : St w0 w (drt pb B s :: l)) :
    Calls Tryz.prog 106 #[.pointer (some ⟨pb, 0, none⟩)] w (RowDk 65 2 Acl.cells Acl.fine Acl.things (qAcl B.data.toList) Acl.bytes w0 pb B s l) := by
  obtain ⟨ip, iz, hi1, hi2, hi3, hi4, hi5⟩ := info_row infoAcl
  have HI := Lib.hid (And.intro hi1 (And.intro hi2 (And.intro hi3 (And.intro hi4 hi5))))
  obtain ⟨bs, hbs⟩ : ∃ bs, bs = B.data.toList := ⟨_, rfl⟩
  have HBS := Lib.hid hbs
  have HS := Lib.hid h
  clear h hi1 hi2 hi3 hi4 hi5 hbs
  go_enter Tryz.func106, Tryz.ntmps106
  go_wp2_with fail
  refine (rcount2_st HS.out).mono ?_
  rintro e w1 ⟨rfl, hS⟩
  have hle : (rcount B.data.toList 256 s).1 ≤ 256 := (rcount_ok (most := 256) (HS.out.dok 0 rfl)).2
  obtain ⟨n, hn⟩ : ∃ n, (rcount B.data.toList 256 s).1 = n := ⟨_, rfl⟩
  obtain ⟨s1, hs1⟩ : ∃ s1, (rcount B.data.toList 256 s).2 = s1 := ⟨_, rfl⟩
  rw [hn] at hle ⊢
  rw [hs1] at hS
  have hS := hS.rowStart 65 2
  have HN := Lib.hid hn
  have HT := Lib.hid hs1
  clear HS hn hs1
  have HS := Lib.hid hS
  clear hS
  go_wp2
  go_loopg [3, 5, 6, 7] n (fun g x y p i_ wr => ∃ (k : Nat) (L : List Acl) (a : Option Addr) (cap : Nat) (s' : RS), k + g = n ∧ y = .int .i64 k ∧ x = .slice a k cap ∧ Hid (L.length = k ∧ (∀ x ∈ L, Acl.fine x) ∧ s' = iter (qAcl B.data.toList) s1 k ∧ Rel B.data.toList s1 s' (L.flatMap Acl.bytes)) ∧ St w0 wr (drt pb B s' :: sl 65 2 a k cap (L.flatMap Acl.cells) :: grp (L.map fun x => grp (Acl.things x)) :: l))
  case atStart => exact ⟨0, [], none, 0, s1, by omega, rfl, rfl, Lib.hid ⟨rfl, fun _ h => absurd h List.not_mem_nil, rfl, Rel.refl⟩, HS.out⟩
  case round =>
    obtain ⟨k, L, a, cap, s', hkg, rfl, rfl, HL, hS⟩ := hrel
    have ce := hS.dwr 0 rfl
    have ze := hS.dlt 0 rfl
    by_cases hlt : k < n
    · by_cases hw : s'.wr = 0
      · rw [hw] at ce
        go_wp2_with fail
        refine (dtnum_st hS).mono ?_
        clear hS
        rintro e w2 ⟨t, s1_, rfl, H1, hS⟩
        go_wp2_with fail
        refine (dttext_st hS).mono ?_
        clear hS
        rintro e w3 ⟨u, s2, rfl, H2, hS⟩
        have HQ : Hid (Acl.fine ⟨t, u⟩ ∧ s2 = qAcl B.data.toList s' ∧ Rel B.data.toList s' s2 (Acl.bytes ⟨t, u⟩)) := Lib.hid ⟨H1.out.1, by rw [H2.out.2.1, H1.out.2.1]; rfl, H1.out.2.2.trans H2.out.2.2⟩
        clear H1 H2
        have hS := hS.addNil
        have hS := hS.absorb.slice1 #[.int .i64 t, .string u] 65 2 1 rfl (by unfold maxLen; omega)
        have HR := Lib.hid (hS.slice 0 rfl).rd
        have HA := Lib.hid (hS.slice 2 rfl)
        have HS := Lib.hid hS
        clear hS ce
        go_wp2_with (at_builtin; refine wpList_append 65 ip iz 2 24 (by kernel_rfl) HI.out.1 HI.out.2.1 HI.out.2.2.1 HI.out.2.2.2.1 HI.out.2.2.2.2 a k cap (L.flatMap Acl.cells) rfl HA.out (some ⟨w3.heap.size, 0, none⟩) 1 1 (Acl.cells ⟨t, u⟩) rfl HR.out (Acl.one ⟨t, u⟩) (by unfold maxLen; omega) (by omega) ?_; intro a6 cap6 w6 hS6 hM6 hF6 hN6 hR6; have hSA := (HS.out.regrow 2 rfl hS6 hM6 hF6).tail; have HSA := Lib.hid hSA; clear hN6 hR6 hSA hS6 hM6 hF6)
        go_roundg (gk - 1)
        case measure => omega
        case rel =>
          refine ⟨k + 1, L ++ [(⟨t, u⟩ : Acl)], a6, cap6, s2, by omega, by simp, rfl, Lib.hid ⟨by simp [HL.out.1], list_snoc_all HL.out.2.1 HQ.out.1, HQ.out.2.1.trans (congrArg _ HL.out.2.2.1), by rw [flat_snoc]; exact HL.out.2.2.2.trans HQ.out.2.2⟩, ?_⟩
          rw [flat_snoc, List.map_append]
          exact HSA.out
      · obtain ⟨z, hz⟩ : ∃ z, s'.wr = z := ⟨_, rfl⟩
        rw [hz] at ce
        have hzb : (z == 0) = false := by rw [← hz]; simpa using hw
        have HW := Lib.hid hw
        clear hw hz
        go_wp2
        go_ret
        refine ⟨L, a, cap, s', by rw [HL.out.1]; rfl, Lib.hid ⟨⟨HL.out.2.1, by rw [HL.out.1]; omega⟩, ?_, ?_⟩, ?_⟩
        · unfold qList
          rw [HN.out, HT.out]
          exact iter_stop (sticky_qAcl _) HL.out.2.2.1 HW.out (by omega)
        · exact rel_stuck HW.out
        · rw [HL.out.1]; exact hS
    · have hk : k = n := by omega
      have HK := Lib.hid hk
      clear hkg hk
      go_wp2
      go_ret
      refine ⟨L, a, cap, s', by rw [HL.out.1]; rfl, Lib.hid ⟨⟨HL.out.2.1, by rw [HL.out.1, HK.out]; exact hle⟩, ?_, ?_⟩, ?_⟩
      · unfold qList
        rw [HN.out, HT.out, ← HK.out]
        exact HL.out.2.2.1
      · exact rel_list (by rw [HT.out]; exact HL.out.2.2.2) (by rw [HL.out.1, HN.out]; exact HK.out)
      · rw [HL.out.1]; exact hS

set_option maxHeartbeats 4000000 in
theorem rtakeTexts_st {w0 w : World} {l : List Thing} {pb : Nat} {B : ByteArray} {s : RS} (h : St w0 w (drt pb B s :: l)) :
    Calls Tryz.prog 67 #[.pointer (some ⟨pb, 0, none⟩)] w (RowDk 9 1 strC (fun _ => True) (fun _ => []) (qTxt B.data.toList) txtB w0 pb B s l) := by
  obtain ⟨ip, iz, hi1, hi2, hi3, hi4, hi5⟩ := info_row infoStr
  have HI := Lib.hid (And.intro hi1 (And.intro hi2 (And.intro hi3 (And.intro hi4 hi5))))
  obtain ⟨bs, hbs⟩ : ∃ bs, bs = B.data.toList := ⟨_, rfl⟩
  have HBS := Lib.hid hbs
  have HS := Lib.hid h
  clear h hi1 hi2 hi3 hi4 hi5 hbs
  go_enter Tryz.func67, Tryz.ntmps67
  go_wp2_with fail
  refine (rcount2_st HS.out).mono ?_
  rintro e w1 ⟨rfl, hS⟩
  have hle : (rcount B.data.toList 256 s).1 ≤ 256 := (rcount_ok (most := 256) (HS.out.dok 0 rfl)).2
  obtain ⟨n, hn⟩ : ∃ n, (rcount B.data.toList 256 s).1 = n := ⟨_, rfl⟩
  obtain ⟨s1, hs1⟩ : ∃ s1, (rcount B.data.toList 256 s).2 = s1 := ⟨_, rfl⟩
  rw [hn] at hle ⊢
  rw [hs1] at hS
  have hS := hS.rowStart 9 1
  have HN := Lib.hid hn
  have HT := Lib.hid hs1
  clear HS hn hs1
  have HS := Lib.hid hS
  clear hS
  go_wp2
  go_loopg [3, 5, 6] n (fun g x y p wr => ∃ (k : Nat) (L : List ByteArray) (a : Option Addr) (cap : Nat) (s' : RS), k + g = n ∧ y = .int .i64 k ∧ x = .slice a k cap ∧ Hid (L.length = k ∧ (∀ x ∈ L, (fun _ => True) x) ∧ s' = iter (qTxt B.data.toList) s1 k ∧ Rel B.data.toList s1 s' (L.flatMap txtB)) ∧ St w0 wr (drt pb B s' :: sl 9 1 a k cap (L.flatMap strC) :: grp (L.map fun x => grp ((fun _ => []) x)) :: l))
  case atStart => exact ⟨0, [], none, 0, s1, by omega, rfl, rfl, Lib.hid ⟨rfl, fun _ h => absurd h List.not_mem_nil, rfl, Rel.refl⟩, HS.out⟩
  case round =>
    obtain ⟨k, L, a, cap, s', hkg, rfl, rfl, HL, hS⟩ := hrel
    have ce := hS.dwr 0 rfl
    have ze := hS.dlt 0 rfl
    by_cases hlt : k < n
    · by_cases hw : s'.wr = 0
      · rw [hw] at ce
        go_wp2_with fail
        refine (dttext_st hS).mono ?_
        clear hS
        rintro e w3 ⟨t, s2, rfl, HQ, hS⟩
        have hS := hS.addNil
        have hS := hS.absorb.slice1 #[.string t] 9 1 1 rfl (by unfold maxLen; omega)
        have HR := Lib.hid (hS.slice 0 rfl).rd
        have HA := Lib.hid (hS.slice 2 rfl)
        have HS := Lib.hid hS
        clear hS ce
        go_wp2_with (at_builtin; refine wpList_append 9 ip iz 1 16 (by kernel_rfl) HI.out.1 HI.out.2.1 HI.out.2.2.1 HI.out.2.2.2.1 HI.out.2.2.2.2 a k cap (L.flatMap strC) rfl HA.out (some ⟨w3.heap.size, 0, none⟩) 1 1 [.string t] rfl HR.out (fun u hu => by rw [List.mem_singleton.1 hu]; rfl) (by unfold maxLen; omega) (by omega) ?_; intro a6 cap6 w6 hS6 hM6 hF6 hN6 hR6; have hSA := (HS.out.regrow 2 rfl hS6 hM6 hF6).tail; have HSA := Lib.hid hSA; clear hN6 hR6 hSA hS6 hM6 hF6)
        go_roundg (gk - 1)
        case measure => omega
        case rel =>
          refine ⟨k + 1, L ++ [t], a6, cap6, s2, by omega, by simp, rfl, Lib.hid ⟨by simp [HL.out.1], list_snoc_all HL.out.2.1 HQ.out.1, HQ.out.2.1.trans (congrArg _ HL.out.2.2.1), by rw [flat_snoc]; exact HL.out.2.2.2.trans HQ.out.2.2⟩, ?_⟩
          rw [flat_snoc, List.map_append]
          exact HSA.out
      · obtain ⟨z, hz⟩ : ∃ z, s'.wr = z := ⟨_, rfl⟩
        rw [hz] at ce
        have hzb : (z == 0) = false := by rw [← hz]; simpa using hw
        have HW := Lib.hid hw
        clear hw hz
        go_wp2
        go_ret
        refine ⟨L, a, cap, s', by rw [HL.out.1]; rfl, Lib.hid ⟨⟨HL.out.2.1, by rw [HL.out.1]; omega⟩, ?_, ?_⟩, ?_⟩
        · unfold qList
          rw [HN.out, HT.out]
          exact iter_stop (sticky_qTxt _) HL.out.2.2.1 HW.out (by omega)
        · exact rel_stuck HW.out
        · rw [HL.out.1]; exact hS
    · have hk : k = n := by omega
      have HK := Lib.hid hk
      clear hkg hk
      go_wp2
      go_ret
      refine ⟨L, a, cap, s', by rw [HL.out.1]; rfl, Lib.hid ⟨⟨HL.out.2.1, by rw [HL.out.1, HK.out]; exact hle⟩, ?_, ?_⟩, ?_⟩
      · unfold qList
        rw [HN.out, HT.out, ← HK.out]
        exact HL.out.2.2.1
      · exact rel_list (by rw [HT.out]; exact HL.out.2.2.2) (by rw [HL.out.1, HN.out]; exact HK.out)
      · rw [HL.out.1]; exact hS
end Go.Proofs.YtmbkbkfcbloafaaGreat
