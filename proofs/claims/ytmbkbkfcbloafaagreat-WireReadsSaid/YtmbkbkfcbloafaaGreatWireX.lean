/-
  Whole things taken up by the document.
  No condition: every law states its own.
-/
import Derived.Test.YtmbkbkfcbloafaaGreatWireV
namespace Go.Proofs.YtmbkbkfcbloafaaGreat
open Go.RowKit
set_option linter.unusedSectionVars false
set_option linter.unusedSimpArgs false
set_option linter.unusedVariables false
set_option maxRecDepth 100000

theorem St.absorbN {w0 w : World} {a kb t : Thing} (ps ts l : List Thing) (h : St w0 w (a :: kb :: t :: (ps ++ grp ts :: l))) : St w0 w (a :: (ps ++ grp (ts ++ [t]) :: l)) := by
  have h1 : St w0 w (grp ts :: t :: kb :: a :: (ps ++ l)) := h.perm (by
    have e : a :: kb :: t :: (ps ++ grp ts :: l) = (a :: kb :: t :: ps) ++ ([grp ts] ++ l) := by simp
    rw [e]
    refine (List.perm_append_comm_assoc (a :: kb :: t :: ps) [grp ts] l).trans (.cons _ ?_)
    show (a :: kb :: t :: (ps ++ l)).Perm (t :: kb :: a :: (ps ++ l))
    refine (List.perm_append_comm_assoc [a, kb] [t] (ps ++ l)).trans (.cons _ (.swap _ _ _)))
  have h2 : St w0 w ((ts ++ [t]) ++ (kb :: a :: (ps ++ l))) := by rw [List.append_assoc]; exact h1.ungrp
  have h3 : St w0 w (kb :: grp (ts ++ [t]) :: a :: (ps ++ l)) := h2.regrp.swap
  have h4 := h3.tail
  refine h4.perm ?_
  have e : a :: (ps ++ grp (ts ++ [t]) :: l) = (a :: ps) ++ ([grp (ts ++ [t])] ++ l) := by simp
  rw [e]
  exact List.perm_append_comm_assoc [grp (ts ++ [t])] (a :: ps) l
theorem St.rowStartN {w0 w : World} {a : Thing} (ps l : List Thing) (h : St w0 w (a :: (ps ++ l))) (E k : Nat) : St w0 w (a :: (ps ++ sl E k none 0 0 [] :: grp [] :: l)) := by
  have h1 := h.rowStart E k
  refine h1.perm (.cons _ ?_)
  have e : ps ++ sl E k none 0 0 [] :: grp [] :: l = ps ++ ([sl E k none 0 0 [], grp []] ++ l) := by simp
  rw [e]
  exact List.perm_append_comm_assoc [_, _] ps l
theorem St.pack {w0 w : World} {a b c : Thing} (ts l : List Thing) (h : St w0 w (a :: b :: c :: grp ts :: l)) : St w0 w (a :: grp (ts ++ [b, c]) :: l) := by
  have h1 : St w0 w (grp ts :: b :: c :: a :: l) := h.perm (by
    refine (List.perm_append_comm_assoc [a, b, c] [grp ts] l).trans (.cons _ ?_)
    exact List.perm_append_comm_assoc [a] [b, c] l)
  have h2 : St w0 w ((ts ++ [b, c]) ++ (a :: l)) := by rw [List.append_assoc]; exact h1.ungrp
  exact h2.regrp.swap

/-! ### A thing and the list in it -/
def TxnW.fine (p : Txn × List Txn) : Prop := p.1.fine ∧ p.1.subsN = p.2.length ∧ (∀ a ∈ p.2, Txn.fine a) ∧ p.2.length ≤ 256
def TxnW.things (p : Txn × List Txn) : List Thing := Txn.things p.1 ++ [sl 37 8 p.1.subsA p.1.subsN p.1.subsC (p.2.flatMap Txn.cells), grp (p.2.map fun a => grp (Txn.things a))]
def TxnW.bytes (p : Txn × List Txn) : List UInt8 := p.1.bytes ++ listB Txn.bytes p.2
def qTxnW (bs : List UInt8) (s : RS) : RS := qList bs (qTxn bs) (qTxn bs s)
theorem TxnW.mk {e : Ending} {w0 w' : World} {l : List Thing} {pb : Nat} {B : ByteArray} {s s1 s2 s' : RS} {X : Txn} {L : List Txn} {a : Option Addr} {k cap n : Nat}
    (he : e = .returned (.agg #[.int .i64 X.kind, .string X.path, .string X.data, .slice X.aclA X.acl.length X.aclC, .int .i64 X.owner, .int .i64 X.number, .int .i64 X.err, .slice a k cap]))
    (HX : Hid ((X.fine ∧ X.bare) ∧ s1 = qTxn B.data.toList s ∧ Rel B.data.toList s s1 X.bytes))
    (HL : Hid (L.length = k ∧ (∀ x ∈ L, Txn.fine x) ∧ s' = iter (qTxn B.data.toList) s2 k ∧ Rel B.data.toList s2 s' (L.flatMap Txn.bytes)))
    (HN : Hid ((rcount B.data.toList 256 s1).1 = n)) (HT : Hid ((rcount B.data.toList 256 s1).2 = s2)) (hkn : k ≤ n) (hle : n ≤ 256) (hd : k = n ∨ ¬ s'.wr = 0)
    (hS : St w0 w' (drt pb B s' :: sl 37 8 a k cap (L.flatMap Txn.cells) :: grp (L.map fun x => grp (Txn.things x)) :: grp (Txn.things X) :: l)) :
    DkG (fun x : Txn × List Txn => Value.agg (Txn.cells x.1).toArray) TxnW.fine TxnW.things (qTxnW B.data.toList) TxnW.bytes w0 pb B s l e w' := by
  refine ⟨({ X with subsA := a, subsN := k, subsC := cap }, L), s', by rw [he]; rfl, Lib.hid ⟨⟨HX.out.1.1, HL.out.1.symm, HL.out.2.1, by show L.length ≤ 256; rw [HL.out.1]; omega⟩, ?_, ?_⟩, St.pack _ _ hS⟩
  · unfold qTxnW qList
    rw [← HX.out.2.1, HN.out, HT.out]
    rcases hd with h | h
    · rw [← h]; exact HL.out.2.2.1
    · exact iter_stop (sticky_qTxn _) HL.out.2.2.1 h hkn
  · refine HX.out.2.2.trans ?_
    rcases hd with h | h
    · exact rel_list (by rw [HT.out]; exact HL.out.2.2.2) (by rw [HL.out.1, HN.out]; exact h)
    · exact rel_stuck h

set_option maxHeartbeats 8000000 in
theorem rTakeTxn_st {w0 w : World} {l : List Thing} {pb : Nat} {B : ByteArray} {s : RS} (h : St w0 w (drt pb B s :: l)) :
    Calls Tryz.prog 92 #[.pointer (some ⟨pb, 0, none⟩)] w (DkG (fun x : Txn × List Txn => Value.agg (Txn.cells x.1).toArray) TxnW.fine TxnW.things (qTxnW B.data.toList) TxnW.bytes w0 pb B s l) := by
  obtain ⟨ip, iz, hi1, hi2, hi3, hi4, hi5⟩ := info_row infoTxn
  have HI := Lib.hid (And.intro hi1 (And.intro hi2 (And.intro hi3 (And.intro hi4 hi5))))
  have hS := h.box2 #[.int .i64 0, .string ⟨#[]⟩, .string ⟨#[]⟩, .slice none 0 0, .int .i64 0, .int .i64 0, .int .i64 0, .slice none 0 0] 37
  clear h hi1 hi2 hi3 hi4 hi5
  go_enter Tryz.func92, Tryz.ntmps92
  go_wp2_with fail
  generalize w.alloc (.cells #[.int .i64 0, .string ⟨#[]⟩, .string ⟨#[]⟩, .slice none 0 0, .int .i64 0, .int .i64 0, .int .i64 0, .slice none 0 0] 37) = W at *
  generalize w.heap.size = rb at *
  refine (rtakePart_st hS).mono ?_
  clear hS
  rintro e w1 ⟨X, s1, rfl, HX, hS⟩
  have hS : St w0 w1 (drt pb B s1 :: bx rb #[.int .i64 0, .string ⟨#[]⟩, .string ⟨#[]⟩, .slice none 0 0, .int .i64 0, .int .i64 0, .int .i64 0, .slice none 0 0] 37 :: grp (Txn.things X) :: l) := hS.perm (.cons _ (.swap _ _ _))
  have hS := hS.box2 #[.int .i64 0, .string ⟨#[]⟩, .string ⟨#[]⟩, .slice none 0 0, .int .i64 0, .int .i64 0, .int .i64 0, .slice none 0 0] 37
  have HS := Lib.hid hS
  have hXs : Value.slice X.subsA X.subsN X.subsC = .slice none 0 0 := by rw [HX.out.1.2.1, HX.out.1.2.2.1, HX.out.1.2.2.2]
  have HXS := Lib.hid hXs
  simp only [Txn.cells, hXs]
  clear hS hXs
  go_wp2_with ((with_reducible refine at_list ?_); refine wpList_store_whole 8 sizeTxn w1.heap.size rfl _ _ (HS.out.box 1 rfl) rfl [.int .i64 X.kind, .string X.path, .string X.data, .slice X.aclA X.acl.length X.aclC, .int .i64 X.owner, .int .i64 X.number, .int .i64 X.err, .slice none 0 0] rfl rfl (by kernel_rfl) ?_; intro w2 hg2 hM2 hz2)
  have hS := HS.out.rebox 1 rfl hg2 hM2
  simp only [List.set_cons_succ, List.set_cons_zero] at hS
  clear HS hg2 hM2 hz2
  generalize w1.heap.size = tb at *
  refine (rcount2_st hS).mono ?_
  rintro e w3 ⟨rfl, hS3⟩
  have hle : (rcount B.data.toList 256 s1).1 ≤ 256 := (rcount_ok (most := 256) (hS.dok 0 rfl)).2
  obtain ⟨n, hn⟩ : ∃ n, (rcount B.data.toList 256 s1).1 = n := ⟨_, rfl⟩
  obtain ⟨s2, hs2⟩ : ∃ s2, (rcount B.data.toList 256 s1).2 = s2 := ⟨_, rfl⟩
  rw [hn] at hle ⊢
  rw [hs2] at hS3
  have hS4 : St w0 w3 (drt pb B s2 :: bx tb #[.int .i64 X.kind, .string X.path, .string X.data, .slice X.aclA X.acl.length X.aclC, .int .i64 X.owner, .int .i64 X.number, .int .i64 X.err, .slice none 0 0] 37 :: bx rb #[.int .i64 0, .string ⟨#[]⟩, .string ⟨#[]⟩, .slice none 0 0, .int .i64 0, .int .i64 0, .int .i64 0, .slice none 0 0] 37 :: sl 37 8 none 0 0 [] :: grp [] :: grp (Txn.things X) :: l) := St.rowStartN [_, _] _ hS3 37 8
  have HN := Lib.hid hn
  have HT := Lib.hid hs2
  have HS := Lib.hid hS4
  clear hn hs2 hS hS3 hS4
  go_wp2
  go_loopg [5, 6] n (fun g y kp wr => ∃ (k : Nat) (L : List Txn) (a : Option Addr) (cap : Nat) (s' : RS), k + g = n ∧ y = .int .i64 k ∧ Hid (L.length = k ∧ (∀ x ∈ L, Txn.fine x) ∧ s' = iter (qTxn B.data.toList) s2 k ∧ Rel B.data.toList s2 s' (L.flatMap Txn.bytes)) ∧ St w0 wr (drt pb B s' :: bx tb #[.int .i64 X.kind, .string X.path, .string X.data, .slice X.aclA X.acl.length X.aclC, .int .i64 X.owner, .int .i64 X.number, .int .i64 X.err, .slice a k cap] 37 :: bx rb #[.int .i64 0, .string ⟨#[]⟩, .string ⟨#[]⟩, .slice none 0 0, .int .i64 0, .int .i64 0, .int .i64 0, .slice none 0 0] 37 :: sl 37 8 a k cap (L.flatMap Txn.cells) :: grp (L.map fun x => grp (Txn.things x)) :: grp (Txn.things X) :: l))
  case atStart => exact ⟨0, [], none, 0, s2, by omega, rfl, Lib.hid ⟨rfl, fun _ h => absurd h List.not_mem_nil, rfl, Rel.refl⟩, HS.out⟩
  case round =>
    obtain ⟨k, L, a, cap, s', hkg, rfl, HL, hS⟩ := hrel
    clear HS
    have ce := hS.dwr 0 rfl
    have ze := hS.dlt 0 rfl
    by_cases hlt : k < n
    · by_cases hw : s'.wr = 0
      · rw [hw] at ce
        have HS0 := Lib.hid hS
        clear hS
        go_wp2_with fail
        refine (rtakePart_st HS0.out).mono ?_
        clear HS0 ce ze
        rintro e w4 ⟨t, s3, rfl, HQ, hS⟩
        have HS4 := Lib.hid (hS.box2 #[.int .i64 0, .string ⟨#[]⟩, .string ⟨#[]⟩, .slice none 0 0, .int .i64 0, .int .i64 0, .int .i64 0, .slice none 0 0] 37)
        simp only [Txn.cells]
        clear hS
        go_wp2_with (first
          | ((with_reducible refine at_list ?_); refine wpList_store_whole 8 sizeTxn w4.heap.size rfl _ _ (HS4.out.box 1 rfl) rfl [.int .i64 t.kind, .string t.path, .string t.data, .slice t.aclA t.acl.length t.aclC, .int .i64 t.owner, .int .i64 t.number, .int .i64 t.err, .slice t.subsA t.subsN t.subsC] rfl rfl (by kernel_rfl) ?_; intro w5 hg5 hM5 hz5; have hS5 := HS4.out.rebox 1 rfl hg5 hM5; simp only [List.set_cons_succ, List.set_cons_zero] at hS5; have c7 := blk_cell (hS5.box 3 rfl) 7 _ rfl; have z7 := heap_lt (hS5.box 3 rfl); have HS5 := Lib.hid hS5; have HS6 := Lib.hid (hS5.slice1 #[.int .i64 t.kind, .string t.path, .string t.data, .slice t.aclA t.acl.length t.aclC, .int .i64 t.owner, .int .i64 t.number, .int .i64 t.err, .slice t.subsA t.subsN t.subsC] 37 8 1 rfl (by unfold maxLen; omega)); clear hg5 hM5 hz5 hS5 HS4)
          | ((with_reducible refine at_list ?_); refine wpList_load_chunk 8 _ Tryz.underlying37 rfl sizeTxn ⟨w4.heap.size, 0, none⟩ rfl [.int .i64 t.kind, .string t.path, .string t.data, .slice t.aclA t.acl.length t.aclC, .int .i64 t.owner, .int .i64 t.number, .int .i64 t.err, .slice t.subsA t.subsN t.subsC] rfl (box_chunk (cs := [.int .i64 t.kind, .string t.path, .string t.data, .slice t.aclA t.acl.length t.aclC, .int .i64 t.owner, .int .i64 t.number, .int .i64 t.err, .slice t.subsA t.subsN t.subsC]) (HS5.out.box 1 rfl)) ?_)
          | (at_builtin; refine wpList_append 37 ip iz 8 112 (by kernel_rfl) HI.out.1 HI.out.2.1 HI.out.2.2.1 HI.out.2.2.2.1 HI.out.2.2.2.2 a k cap (L.flatMap Txn.cells) rfl (HS6.out.slice 6 rfl) (some ⟨w5.heap.size, 0, none⟩) 1 1 t.cells rfl (HS6.out.slice 0 rfl).rd (Txn.one t) (by unfold maxLen; omega) (by omega) ?_; intro a6 cap6 w6 hS6 hM6 hF6 hN6 hR6; have hSA := (HS6.out.regrow 6 rfl hS6 hM6 hF6).tail; have c0 := blk_cell (hSA.box 3 rfl) 7 _ rfl; have f0 := blk_free (hSA.box 3 rfl) 7; have z0 := heap_lt (hSA.box 3 rfl); have HSA := Lib.hid hSA; clear hN6 hR6 hSA hS6 hM6 hF6 c7 z7 HS6 HS5))
        go_roundg (gk - 1)
        case measure => omega
        case rel =>
          refine ⟨k + 1, L ++ [t], a6, cap6, s3, by omega, by simp, Lib.hid ⟨by simp [HL.out.1], list_snoc_all HL.out.2.1 HQ.out.1.1, HQ.out.2.1.trans (congrArg _ HL.out.2.2.1), by rw [flat_snoc]; exact HL.out.2.2.2.trans HQ.out.2.2⟩, ?_⟩
          rw [flat_snoc, List.map_append]
          have hS := HSA.out.set 3 rfl 7 (.slice a6 (k + 1) cap6)
          exact St.absorbN [_, _, _] _ _ hS
      · obtain ⟨z, hz⟩ : ∃ z, s'.wr = z := ⟨_, rfl⟩
        rw [hz] at ce
        have hzb : (z == 0) = false := by rw [← hz]; simpa using hw
        have HW := Lib.hid hw
        clear hw hz
        have HS0 := Lib.hid hS
        clear hS
        go_wp2_with (first
          | ((with_reducible refine at_list ?_); refine wpList_load_chunk 8 _ Tryz.underlying37 rfl sizeTxn ⟨tb, 0, none⟩ rfl [.int .i64 X.kind, .string X.path, .string X.data, .slice X.aclA X.acl.length X.aclC, .int .i64 X.owner, .int .i64 X.number, .int .i64 X.err, .slice a k cap] rfl (box_chunk (cs := [.int .i64 X.kind, .string X.path, .string X.data, .slice X.aclA X.acl.length X.aclC, .int .i64 X.owner, .int .i64 X.number, .int .i64 X.err, .slice a k cap]) (HS0.out.box 1 rfl)) ?_)
          | ((with_reducible refine at_list ?_); refine wpList_store_whole 8 sizeTxn rb rfl _ _ (HS0.out.box 2 rfl) rfl [.int .i64 X.kind, .string X.path, .string X.data, .slice X.aclA X.acl.length X.aclC, .int .i64 X.owner, .int .i64 X.number, .int .i64 X.err, .slice a k cap] rfl rfl (by kernel_rfl) ?_; intro w30 hg4 hM4 hz4))
        refine bodyPost_ret (results_cell rfl _ w30 rb _ _ _ _ rfl hg4 Tryz.underlying37 rfl sizeTxn) rfl ?_
        have hS := (HS0.out.rebox 2 rfl hg4 hM4).tail2.tail2
        exact TxnW.mk rfl HX HL HN HT (by omega) hle (.inr HW.out) hS
    · have hk : k = n := by omega
      have HK := Lib.hid hk
      clear hkg hk
      have HS0 := Lib.hid hS
      clear hS
      go_wp2_with (first
        | ((with_reducible refine at_list ?_); refine wpList_load_chunk 8 _ Tryz.underlying37 rfl sizeTxn ⟨tb, 0, none⟩ rfl [.int .i64 X.kind, .string X.path, .string X.data, .slice X.aclA X.acl.length X.aclC, .int .i64 X.owner, .int .i64 X.number, .int .i64 X.err, .slice a k cap] rfl (box_chunk (cs := [.int .i64 X.kind, .string X.path, .string X.data, .slice X.aclA X.acl.length X.aclC, .int .i64 X.owner, .int .i64 X.number, .int .i64 X.err, .slice a k cap]) (HS0.out.box 1 rfl)) ?_)
        | ((with_reducible refine at_list ?_); refine wpList_store_whole 8 sizeTxn rb rfl _ _ (HS0.out.box 2 rfl) rfl [.int .i64 X.kind, .string X.path, .string X.data, .slice X.aclA X.acl.length X.aclC, .int .i64 X.owner, .int .i64 X.number, .int .i64 X.err, .slice a k cap] rfl rfl (by kernel_rfl) ?_; intro w30 hg4 hM4 hz4))
      refine bodyPost_ret (results_cell rfl _ w30 rb _ _ _ _ rfl hg4 Tryz.underlying37 rfl sizeTxn) rfl ?_
      have hS := (HS0.out.rebox 2 rfl hg4 hM4).tail2.tail2
      exact TxnW.mk rfl HX HL HN HT (by rw [HK.out]; exact Nat.le_refl _) hle (.inl HK.out) hS
end Go.Proofs.YtmbkbkfcbloafaaGreat
