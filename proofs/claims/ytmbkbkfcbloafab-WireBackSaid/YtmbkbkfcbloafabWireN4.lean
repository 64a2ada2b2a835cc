/-
  Things with lists taken up by package wire.
  No condition: every law states its own.
-/
import Derived.Test.YtmbkbkfcbloafabWireN3
namespace Go.Proofs.Ytmbkbkfcbloafab
open Go.RowKit
set_option linter.unusedSectionVars false
set_option linter.unusedSimpArgs false
set_option linter.unusedVariables false
set_option maxRecDepth 100000

set_option maxHeartbeats 16000000 in
theorem rowsAns_st {w0 w : World} {l : List Thing} {pb : Nat} {bs : List UInt8} {s : RS} (h : St w0 w (rdt pb bs s :: l)) :
    Calls Try.prog 76 #[.pointer (some ⟨pb, 0, none⟩), .func (.func 75) #[] #[]] w (RowTk 53 17 Ans.cells Ans.fine Ans.things (qAns bs) Ans.bytes w0 pb bs s l) := by
  obtain ⟨ip, iz, hi1, hi2, hi3, hi4, hi5⟩ := info_row infoAns
  have HI := Lib.hid (And.intro hi1 (And.intro hi2 (And.intro hi3 (And.intro hi4 hi5))))
  have HS := Lib.hid h
  clear h hi1 hi2 hi3 hi4 hi5
  go_enter Try.func76, Try.ntmps76
  go_wp2_with fail
  refine (rcount_st HS.out 0 rfl 256 (by omega)).mono ?_
  rintro e w1 ⟨rfl, hS⟩
  simp only [List.set_cons_zero] at hS
  have hle : (rcount bs 256 s).1 ≤ 256 := (rcount_ok (most := 256) (HS.out.rok 0 rfl).1).2
  obtain ⟨n, hn⟩ : ∃ n, (rcount bs 256 s).1 = n := ⟨_, rfl⟩
  obtain ⟨s1, hs1⟩ : ∃ s1, (rcount bs 256 s).2 = s1 := ⟨_, rfl⟩
  rw [hn] at hle ⊢
  rw [hs1] at hS
  have hS := hS.rowStart 53 17
  have HN := Lib.hid hn
  have HT := Lib.hid hs1
  clear HS hn hs1
  have HS := Lib.hid hS
  clear hS
  go_wp2
  go_loopg [5, 8] n (fun g x y wr => ∃ (k : Nat) (L : List Ans) (a : Option Addr) (cap : Nat) (s' : RS), k + g = n ∧ y = .int .i64 k ∧ x = .slice a k cap ∧ Hid (L.length = k ∧ (∀ x ∈ L, Ans.fine x) ∧ s' = iter (qAns bs) s1 k ∧ Rel bs s1 s' (L.flatMap Ans.bytes)) ∧ St w0 wr (rdt pb bs s' :: sl 53 17 a k cap (L.flatMap Ans.cells) :: grp (L.map fun x => grp (Ans.things x)) :: l))
  case atStart => exact ⟨0, [], none, 0, s1, by omega, rfl, rfl, Lib.hid ⟨rfl, fun _ h => absurd h List.not_mem_nil, rfl, Rel.refl⟩, HS.out⟩
  case round =>
    obtain ⟨k, L, a, cap, s', hkg, rfl, rfl, HL, hS⟩ := hrel
    by_cases hlt : k < n
    · go_wp2_with fail
      refine (takeAnswer_st hS).mono ?_
      clear hS
      rintro e w2 ⟨t, s2, rfl, HQ, hS⟩
      simp only [Ans.cells]
      have hS := hS.absorb.slice1 #[.int .i64 t.xid, .int .i64 t.zxid, .int .i64 t.err, .string t.path, .string t.data, .int .i64 t.s0, .int .i64 t.s1, .int .i64 t.s2, .int .i64 t.s3, .int .i64 t.s4, .int .i64 t.s5, .int .i64 t.s6, .int .i64 t.s7, .int .i64 t.s8, .slice t.aclA t.acl.length t.aclC, .slice t.kidsA t.kids.length t.kidsC, .slice t.subsA t.subsN t.subsC] 53 17 1 rfl (by unfold maxLen; omega)
      have HR := Lib.hid (hS.slice 0 rfl).rd
      have HA := Lib.hid (hS.slice 2 rfl)
      have HS := Lib.hid hS
      clear hS
      go_wp2_with (at_builtin; refine wpList_append 53 ip iz 17 200 (by kernel_rfl) HI.out.1 HI.out.2.1 HI.out.2.2.1 HI.out.2.2.2.1 HI.out.2.2.2.2 a k cap (L.flatMap Ans.cells) rfl HA.out (some ⟨w2.heap.size, 0, none⟩) 1 1 t.cells rfl HR.out (Ans.one t) (by unfold maxLen; omega) (by omega) ?_; intro a6 cap6 w6 hS6 hM6 hF6 hN6 hR6; have hSA := (HS.out.regrow 2 rfl hS6 hM6 hF6).tail; have HSA := Lib.hid hSA; clear hN6 hR6 hSA hS6 hM6 hF6)
      go_roundg (gk - 1)
      case measure => omega
      case rel =>
        refine ⟨k + 1, L ++ [t], a6, cap6, s2, by omega, by simp, rfl, Lib.hid ⟨by simp [HL.out.1], list_snoc_all HL.out.2.1 HQ.out.1, HQ.out.2.1.trans (congrArg _ HL.out.2.2.1), by rw [flat_snoc]; exact HL.out.2.2.2.trans HQ.out.2.2⟩, ?_⟩
        rw [flat_snoc, List.map_append]
        exact HSA.out
    · have hk : k = n := by omega
      have HK := Lib.hid hk
      clear hkg hk
      go_wp2
      go_ret
      refine ⟨L, a, cap, s', by rw [HL.out.1]; rfl, Lib.hid ⟨⟨HL.out.2.1, by rw [HL.out.1, HK.out]; exact hle⟩, ?_, ?_⟩, ?_⟩
      · unfold qList
        rw [HN.out, HT.out, ← HK.out]
        exact HL.out.2.2.1
      · exact rel_list (by rw [HT.out]; exact HL.out.2.2.2) (by rw [HL.out.1, HN.out]; exact HK.out)
      · rw [HL.out.1]; exact hS
end Go.Proofs.Ytmbkbkfcbloafab
