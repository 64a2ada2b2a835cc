/-
  Any bytes as a request: the law's Request.
  Conditions: the bytes fit.
-/
import Derived.Test.YtmbkbkfcbloafaaGreatWireDq
import Derived.Test.YtmbkbkfcbloafaaGreatWireR2
import Derived.Test.YtmbkbkfcbloafaaGreatWireS
import Derived.Test.YtmbkbkfcbloafaaGreatJbase
import Derived.Deep.Cut
namespace Go.Proofs.YtmbkbkfcbloafaaGreat
open Go.RowKit
set_option linter.unusedSectionVars false
set_option linter.unusedSimpArgs false
set_option linter.unusedVariables false
set_option maxRecDepth 100000

theorem Op.okL {w0 w : World} {x : Op} (hx : x.fine) (hl : ∀ t ∈ Op.things x, Lies w0 w t) : x.ok w :=
  ⟨hx.1, hx.2.1, hx.2.2.1, hx.2.2.2.1, (hl (sl 65 2 x.aclA x.acl.length x.aclC (x.acl.flatMap Acl.cells)) (by simp [Op.things])).rd, fun a ha => hx.2.2.2.2.1 a ha⟩
theorem Req.okL {w0 w : World} {x : Req} (hx : x.fine) (hl : Lies w0 w (grp (Req.things x))) : x.ok w where
  q := Op.okL hx.1 fun t ht => hl.grp (List.mem_append_left _ (List.mem_append_left _ ht))
  n := hx.2.1.1
  rd := by
    have := (hl.grp (t := sl 30 10 x.q.subsA x.q.subsN x.q.subsC (x.subs.flatMap Op.cells)) (by simp [Req.things])).rd
    rw [hx.2.1.1] at this; exact this
  all := fun a ha => Op.okL (hx.2.1.2.1 a ha) fun t ht => by
    have h1 := hl.grp (t := grp (x.subs.map fun x => grp (Op.things x))) (by simp [Req.things])
    exact (h1.grp (List.mem_map.2 ⟨a, ha, rfl⟩)).grp ht
  an := hx.2.2.1
  ard := by
    have := (hl.grp (t := sl 63 5 x.q.armedA x.q.armedN x.q.armedC (x.armed.flatMap Arm.cells)) (by simp [Req.things])).rd
    rw [hx.2.2.1] at this; exact this
  aall := fun a ha => hx.2.2.2.1 a ha
theorem Req.zero_len : Req.zero.bytes.length ≤ 500 := of_decide_eq_true (by kernel_rfl)

set_option maxHeartbeats 16000000 in
theorem request_any (S : ByteArray) (hf : bfits (S.size + 1000)) (w : World) : Calls Tryz.prog 7 #[.string S] w (ValPost (.bool true) w) := by
  have hfS : bfits S.size := hf.mono (by omega)
  have HFS := Lib.hid hfS
  have HF := Lib.hid hf
  clear hf hfS
  go_enter Tryz.func7, Tryz.ntmps7
  go_wp2_with fail
  refine (rGetRequest_st S HFS.out (St.start w)).mono ?_
  rintro e w1 ⟨X, E, rfl, HX, hS⟩
  have HS := Lib.hid (hS.box1 #[.int .i64 0, .int .i64 0, .string ⟨#[]⟩, .string ⟨#[]⟩, .slice none 0 0, .int .i64 0, .int .i64 0, .bool false, .slice none 0 0, .slice none 0 0] 30)
  clear hS
  go_wp2_with ((with_reducible refine at_list ?_); refine wpList_store_whole 10 sizeOp w1.heap.size rfl _ _ (HS.out.box 0 rfl) rfl X.cells rfl rfl (by kernel_rfl) ?_; intro w2 hg2 hM2 hz2)
  have hS : St w w2 (bx w1.heap.size X.cells.toArray 30 :: grp (Req.things X) :: []) := HS.out.rebox 0 rfl hg2 hM2
  clear HS hg2 hM2 hz2
  generalize w1.heap.size = xb at *
  have HS := Lib.hid hS
  clear hS
  go_loopg [5, 6, 7, 8, 9, 10] 2 (fun g y z6 z7 z8 z9 z10 wr => ∃ i : Nat, i + g = 2 ∧ y = .int .i64 i ∧ St w wr (bx xb X.cells.toArray 30 :: grp (Req.things X) :: []))
  case atStart => exact ⟨0, by omega, rfl, HS.out⟩
  case round =>
    obtain ⟨i, hig, rfl, hS⟩ := hrel
    clear HS
    by_cases hlt : i < 2
    · have HS0 := Lib.hid hS
      clear hS
      go_wp2_with fail
      refine (GetRequest_st S HFS.out HS0.out).mono ?_
      clear HS0
      rintro e w3 ⟨A, E2, rfl, HA, hS⟩
      have hEE : E2 = E ∧ A.bytes = X.bytes ∧ A.bytes.length ≤ S.size + 500 := by
        rcases HX.out.2 with ⟨h1, h2, h3⟩ | ⟨h1, h2, h3⟩ <;> rcases HA.out.2 with ⟨g1, g2, g3⟩ | ⟨g1, g2, g3⟩
        · exact ⟨by rw [g1, h1], by rw [g3, h3], by rw [g3, toList_size]; omega⟩
        · exact absurd h2 g2
        · exact absurd g2 h2
        · exact ⟨by rw [g1, h1], by rw [g3, h3], by rw [g3]; exact Nat.le_trans Req.zero_len (by omega)⟩
      obtain ⟨rfl, hby, hle⟩ := hEE
      have hbE : (E2 == E2) = true := by simp
      have hbE' : (E2 != E2) = false := by simp
      have HS := Lib.hid (hS.box1 #[.int .i64 0, .int .i64 0, .string ⟨#[]⟩, .string ⟨#[]⟩, .slice none 0 0, .int .i64 0, .int .i64 0, .bool false, .slice none 0 0, .slice none 0 0] 30)
      clear hS
      go_upto_region 6 with ((with_reducible refine at_list ?_); refine wpList_store_whole 10 sizeOp w3.heap.size rfl _ _ (HS.out.box 0 rfl) rfl A.cells rfl rfl (by kernel_rfl) ?_; intro w4 hg4 hM4 hz4)
      have hS : St w w4 (bx w3.heap.size A.cells.toArray 30 :: grp (Req.things A) :: bx xb X.cells.toArray 30 :: grp (Req.things X) :: []) := HS.out.rebox 0 rfl hg4 hM4
      clear HS hg4 hM4 hz4
      generalize w3.heap.size = ab at *
      have hokA : A.ok w4 := Req.okL HA.out.1 (hS.lies (by simp))
      have hokX : X.ok w4 := Req.okL HX.out.1 (hS.lies (by simp))
      obtain ⟨Bt, hBt⟩ : ∃ Bt, ByteArray.mk X.bytes.toArray = Bt := ⟨_, rfl⟩
      have CA : Hid (∀ w', Mod (fun _ => False) w4 w' → Calls Tryz.prog 25 #[.agg A.cells.toArray] w' (fun e w'' => e = .returned (.string Bt) ∧ Mod (fun _ => False) w' w'')) := Lib.hid fun w' h => by
        rw [← hBt, ← hby]; exact rPutRequest_any A w' (Req.okmod hokA h) (by have := HF.out; unfold bfits at this ⊢; omega) 
      have CX : Hid (∀ w', Mod (fun _ => False) w4 w' → Calls Tryz.prog 25 #[.agg X.cells.toArray] w' (fun e w'' => e = .returned (.string Bt) ∧ Mod (fun _ => False) w' w'')) := Lib.hid fun w' h => by
        rw [← hBt]; exact rPutRequest_any X w' (Req.okmod hokX h) (by have := HF.out; unfold bfits at this ⊢; rw [← hby]; omega)
      have hBB : (Bt.toList == Bt.toList) = true := by simp
      have HFA := Lib.hid HA.out.1
      clear hokA hokX hBt hby hle HA
      obtain ⟨⟨akind, axid, apath, adata, aacl, aaclA, aaclC, aflags, aversion, awatch, asubsA, asubsN, asubsC, aarmedA, aarmedN, aarmedC⟩, asubsL, aarmedL⟩ := A
      obtain ⟨⟨xkind, xxid, xpath, xdata, xacl, xaclA, xaclC, xflags, xversion, xwatch, xsubsA, xsubsN, xsubsC, xarmedA, xarmedN, xarmedC⟩, xsubsL, xarmedL⟩ := X
      simp only [Req.cells, Op.cells] at CA CX hS HX ⊢
      have c0 : w4.cell? ⟨ab, 0, none⟩ = some (.int .i64 akind) := blk_cell (hS.box 0 rfl) 0 _ rfl
      have c1 : w4.cell? ⟨ab, 1, none⟩ = some (.int .i64 axid) := blk_cell (hS.box 0 rfl) 1 _ rfl
      have c2 : w4.cell? ⟨ab, 2, none⟩ = some (.string apath) := blk_cell (hS.box 0 rfl) 2 _ rfl
      have c3 : w4.cell? ⟨ab, 3, none⟩ = some (.string adata) := blk_cell (hS.box 0 rfl) 3 _ rfl
      have c4 : w4.cell? ⟨ab, 4, none⟩ = some (.slice aaclA aacl.length aaclC) := blk_cell (hS.box 0 rfl) 4 _ rfl
      have c5 : w4.cell? ⟨ab, 5, none⟩ = some (.int .i64 aflags) := blk_cell (hS.box 0 rfl) 5 _ rfl
      have c6 : w4.cell? ⟨ab, 6, none⟩ = some (.int .i64 aversion) := blk_cell (hS.box 0 rfl) 6 _ rfl
      have c7 : w4.cell? ⟨ab, 7, none⟩ = some (.bool awatch) := blk_cell (hS.box 0 rfl) 7 _ rfl
      have c8 : w4.cell? ⟨ab, 8, none⟩ = some (.slice asubsA asubsN asubsC) := blk_cell (hS.box 0 rfl) 8 _ rfl
      have c9 : w4.cell? ⟨ab, 9, none⟩ = some (.slice aarmedA aarmedN aarmedC) := blk_cell (hS.box 0 rfl) 9 _ rfl
      have d0 : w4.cell? ⟨xb, 0, none⟩ = some (.int .i64 xkind) := blk_cell (hS.box 2 rfl) 0 _ rfl
      have d1 : w4.cell? ⟨xb, 1, none⟩ = some (.int .i64 xxid) := blk_cell (hS.box 2 rfl) 1 _ rfl
      have d2 : w4.cell? ⟨xb, 2, none⟩ = some (.string xpath) := blk_cell (hS.box 2 rfl) 2 _ rfl
      have d3 : w4.cell? ⟨xb, 3, none⟩ = some (.string xdata) := blk_cell (hS.box 2 rfl) 3 _ rfl
      have d4 : w4.cell? ⟨xb, 4, none⟩ = some (.slice xaclA xacl.length xaclC) := blk_cell (hS.box 2 rfl) 4 _ rfl
      have d5 : w4.cell? ⟨xb, 5, none⟩ = some (.int .i64 xflags) := blk_cell (hS.box 2 rfl) 5 _ rfl
      have d6 : w4.cell? ⟨xb, 6, none⟩ = some (.int .i64 xversion) := blk_cell (hS.box 2 rfl) 6 _ rfl
      have d7 : w4.cell? ⟨xb, 7, none⟩ = some (.bool xwatch) := blk_cell (hS.box 2 rfl) 7 _ rfl
      have d8 : w4.cell? ⟨xb, 8, none⟩ = some (.slice xsubsA xsubsN xsubsC) := blk_cell (hS.box 2 rfl) 8 _ rfl
      have d9 : w4.cell? ⟨xb, 9, none⟩ = some (.slice xarmedA xarmedN xarmedC) := blk_cell (hS.box 2 rfl) 9 _ rfl
      have KP : Hid (∀ w', Mod (fun _ => False) w4 w' → w'.cell? ⟨ab, 0, none⟩ = some (.int .i64 akind) ∧ w'.cell? ⟨ab, 1, none⟩ = some (.int .i64 axid) ∧ w'.cell? ⟨ab, 2, none⟩ = some (.string apath) ∧ w'.cell? ⟨ab, 3, none⟩ = some (.string adata) ∧ w'.cell? ⟨ab, 4, none⟩ = some (.slice aaclA aacl.length aaclC) ∧ w'.cell? ⟨ab, 5, none⟩ = some (.int .i64 aflags) ∧ w'.cell? ⟨ab, 6, none⟩ = some (.int .i64 aversion) ∧ w'.cell? ⟨ab, 7, none⟩ = some (.bool awatch) ∧ w'.cell? ⟨ab, 8, none⟩ = some (.slice asubsA asubsN asubsC) ∧ w'.cell? ⟨ab, 9, none⟩ = some (.slice aarmedA aarmedN aarmedC) ∧ w'.cell? ⟨xb, 0, none⟩ = some (.int .i64 xkind) ∧ w'.cell? ⟨xb, 1, none⟩ = some (.int .i64 xxid) ∧ w'.cell? ⟨xb, 2, none⟩ = some (.string xpath) ∧ w'.cell? ⟨xb, 3, none⟩ = some (.string xdata) ∧ w'.cell? ⟨xb, 4, none⟩ = some (.slice xaclA xacl.length xaclC) ∧ w'.cell? ⟨xb, 5, none⟩ = some (.int .i64 xflags) ∧ w'.cell? ⟨xb, 6, none⟩ = some (.int .i64 xversion) ∧ w'.cell? ⟨xb, 7, none⟩ = some (.bool xwatch) ∧ w'.cell? ⟨xb, 8, none⟩ = some (.slice xsubsA xsubsN xsubsC) ∧ w'.cell? ⟨xb, 9, none⟩ = some (.slice xarmedA xarmedN xarmedC)) := Lib.hid fun w' h => ⟨h.cell c0 id, h.cell c1 id, h.cell c2 id, h.cell c3 id, h.cell c4 id, h.cell c5 id, h.cell c6 id, h.cell c7 id, h.cell c8 id, h.cell c9 id, h.cell d0 id, h.cell d1 id, h.cell d2 id, h.cell d3 id, h.cell d4 id, h.cell d5 id, h.cell d6 id, h.cell d7 id, h.cell d8 id, h.cell d9 id⟩
      have hza := heap_lt (hS.box 0 rfl)
      have hzx := heap_lt (hS.box 2 rfl)
      have HS := Lib.hid hS
      clear hS
      go_region_held3 (fun w' => w'.cell? ⟨ab, 0, none⟩ = some (.int .i64 akind) ∧ w'.cell? ⟨ab, 1, none⟩ = some (.int .i64 axid) ∧ w'.cell? ⟨ab, 2, none⟩ = some (.string apath) ∧ w'.cell? ⟨ab, 3, none⟩ = some (.string adata) ∧ w'.cell? ⟨ab, 4, none⟩ = some (.slice aaclA aacl.length aaclC) ∧ w'.cell? ⟨ab, 5, none⟩ = some (.int .i64 aflags) ∧ w'.cell? ⟨ab, 6, none⟩ = some (.int .i64 aversion) ∧ w'.cell? ⟨ab, 7, none⟩ = some (.bool awatch) ∧ w'.cell? ⟨ab, 8, none⟩ = some (.slice asubsA asubsN asubsC) ∧ w'.cell? ⟨ab, 9, none⟩ = some (.slice aarmedA aarmedN aarmedC) ∧ w'.cell? ⟨xb, 0, none⟩ = some (.int .i64 xkind) ∧ w'.cell? ⟨xb, 1, none⟩ = some (.int .i64 xxid) ∧ w'.cell? ⟨xb, 2, none⟩ = some (.string xpath) ∧ w'.cell? ⟨xb, 3, none⟩ = some (.string xdata) ∧ w'.cell? ⟨xb, 4, none⟩ = some (.slice xaclA xacl.length xaclC) ∧ w'.cell? ⟨xb, 5, none⟩ = some (.int .i64 xflags) ∧ w'.cell? ⟨xb, 6, none⟩ = some (.int .i64 xversion) ∧ w'.cell? ⟨xb, 7, none⟩ = some (.bool xwatch) ∧ w'.cell? ⟨xb, 8, none⟩ = some (.slice xsubsA xsubsN xsubsC) ∧ w'.cell? ⟨xb, 9, none⟩ = some (.slice xarmedA xarmedN xarmedC))
        (first | (refine KP.out _ ?_; with_reducible (repeat (first | exact Mod.refl _ _ | refine Mod.drew ?_ | refine Mod.drewN ?_ _ | refine Mod.alloc ?_ _ | refine Mod.back (by assumption) ?_))))
        ((first
          | (go_at_call 25; refine (CA.out _ (by with_reducible (repeat (first | exact Mod.refl _ _ | refine Mod.drew ?_ | refine Mod.drewN ?_ _ | refine Mod.alloc ?_ _ | refine Mod.back (by assumption) ?_)))).mono ?_; rintro e v0 ⟨rfl, hM0⟩; clear CA)
          | (go_at_call 25; refine (CX.out _ (by with_reducible (repeat (first | exact Mod.refl _ _ | refine Mod.drew ?_ | refine Mod.drewN ?_ _ | refine Mod.alloc ?_ _ | refine Mod.back (by assumption) ?_)))).mono ?_; rintro e v1 ⟨rfl, hM1⟩; clear CX)))
      have HM : Hid (Mod (fun _ => False) w4 v1) := Lib.hid (by with_reducible (repeat (first | exact Mod.refl _ _ | refine Mod.drew ?_ | refine Mod.drewN ?_ _ | refine Mod.alloc ?_ _ | refine Mod.back (by assumption) ?_)))
      have HS1 := Lib.hid (HS.out.mod HM.out)
      clear c0 c1 c2 c3 c4 c5 c6 c7 c8 c9 d0 d1 d2 d3 d4 d5 d6 d7 d8 d9 KP hM0 hM1 hza hzx HS HM
      obtain ⟨nacl, hnacl⟩ : ∃ n, aacl.length = n := ⟨_, rfl⟩
      obtain ⟨nsubs, hnsubs⟩ : ∃ n, asubsN = n := ⟨_, rfl⟩
      obtain ⟨narmed, hnarmed⟩ : ∃ n, aarmedN = n := ⟨_, rfl⟩
      obtain ⟨g0, g1, g2, hS⟩ : ∃ g0 g1 g2, St w v1 (sl 65 2 aaclA aacl.length aaclC (aacl.flatMap Acl.cells) :: g0 :: sl 30 10 asubsA asubsN asubsC (asubsL.flatMap Op.cells) :: g1 :: sl 63 5 aarmedA aarmedN aarmedC (aarmedL.flatMap Arm.cells) :: g2 :: bx ab #[.int .i64 akind, .int .i64 axid, .string apath, .string adata, .slice aaclA aacl.length aaclC, .int .i64 aflags, .int .i64 aversion, .bool awatch, .slice asubsA asubsN asubsC, .slice aarmedA aarmedN aarmedC] 30 :: bx xb #[.int .i64 xkind, .int .i64 xxid, .string xpath, .string xdata, .slice xaclA xacl.length xaclC, .int .i64 xflags, .int .i64 xversion, .bool xwatch, .slice xsubsA xsubsN xsubsC, .slice xarmedA xarmedN xarmedC] 30 :: grp (Req.things (⟨⟨xkind, xxid, xpath, xdata, xacl, xaclA, xaclC, xflags, xversion, xwatch, xsubsA, xsubsN, xsubsC, xarmedA, xarmedN, xarmedC⟩, xsubsL, xarmedL⟩ : Req)) :: []) := ⟨_, _, _, HS1.out.swap.ungrp⟩
      rw [hnacl, hnsubs, hnarmed] at hS
      have hlacl : nacl ≤ 256 := by rw [← hnacl]; exact HFA.out.1.2.2.2.2.2
      have hlsubs : nsubs ≤ 256 := by rw [← hnsubs, show asubsN = asubsL.length from HFA.out.2.1.1]; exact HFA.out.2.1.2.2
      have hlarmed : narmed ≤ 256 := by rw [← hnarmed, show aarmedN = aarmedL.length from HFA.out.2.2.1]; exact HFA.out.2.2.2.2
      obtain ⟨csacl, hcsacl⟩ : ∃ c, aacl.flatMap Acl.cells = c := ⟨_, rfl⟩
      obtain ⟨cssubs, hcssubs⟩ : ∃ c, asubsL.flatMap Op.cells = c := ⟨_, rfl⟩
      obtain ⟨csarmed, hcsarmed⟩ : ∃ c, aarmedL.flatMap Arm.cells = c := ⟨_, rfl⟩
      rw [hcsacl, hcssubs, hcsarmed] at hS
      have HS := Lib.hid hS
      clear HS1 hS HFA hnacl hcsacl hnsubs hcssubs hnarmed hcsarmed
      have hS := HS.out
      have harmed := blk_cell (hS.box 6 rfl) 9 _ rfl
      have hsubs := blk_cell (hS.box 6 rfl) 8 _ rfl
      have hacl := blk_cell (hS.box 6 rfl) 4 _ rfl
      have hzab := heap_lt (hS.box 6 rfl)
      clear hS
      go_wp2_with fail
      go_loopg [8] narmed (fun g y wr => ∃ (k : Nat) (cq : List Value), k + g = narmed ∧ y = .int .i64 k ∧ St w wr (sl 65 2 aaclA nacl aaclC csacl :: g0 :: sl 30 10 asubsA nsubs asubsC cssubs :: g1 :: sl 63 5 aarmedA narmed aarmedC cq :: g2 :: bx ab #[.int .i64 akind, .int .i64 axid, .string apath, .string adata, .slice aaclA nacl aaclC, .int .i64 aflags, .int .i64 aversion, .bool awatch, .slice asubsA nsubs asubsC, .slice aarmedA narmed aarmedC] 30 :: bx xb #[.int .i64 xkind, .int .i64 xxid, .string xpath, .string xdata, .slice xaclA xacl.length xaclC, .int .i64 xflags, .int .i64 xversion, .bool xwatch, .slice xsubsA xsubsN xsubsC, .slice xarmedA xarmedN xarmedC] 30 :: grp (Req.things (⟨⟨xkind, xxid, xpath, xdata, xacl, xaclA, xaclC, xflags, xversion, xwatch, xsubsA, xsubsN, xsubsC, xarmedA, xarmedN, xarmedC⟩, xsubsL, xarmedL⟩ : Req)) :: []))
      case atStart => exact ⟨0, _, by omega, rfl, HS.out⟩
      case round =>
        obtain ⟨k, cq, hkg, rfl, hS⟩ := hrel
        clear HS harmed hsubs hacl hzab
        have harmed := blk_cell (hS.box 6 rfl) 9 _ rfl
        have hsubs := blk_cell (hS.box 6 rfl) 8 _ rfl
        have hacl := blk_cell (hS.box 6 rfl) 4 _ rfl
        have hzab := heap_lt (hS.box 6 rfl)
        by_cases hltk : k < narmed
        · obtain ⟨b2, off2, c2, rfl, hg2, hfit2⟩ := (hS.slice 4 rfl).block (by omega)
          have hmc := (hS.slice 4 rfl).2.1
          have hz2 := heap_lt hg2
          have HS := Lib.hid hS
          have HG2 := Lib.hid hg2
          have HFT := Lib.hid (show off2 + k * 5 + 5 ≤ c2.size by omega)
          have HPT := Lib.hid (show k * 5 + 5 ≤ narmed * 5 by omega)
          clear hS hg2 hfit2 hmc
          go_wp2_with ((with_reducible refine at_list ?_); refine wpList_store_chunk 5 sizeArm b2 (off2 + k * 5) rfl _ _ HG2.out _ rfl [.int .i64 (-1), .string ⟨#[]⟩, .int .i64 0, .int .i64 0, .int .i64 0] rfl rfl HFT.out (by intro u hu; simp only [List.mem_cons, List.not_mem_nil, or_false] at hu; rcases hu with rfl | rfl | rfl | rfl | rfl <;> rfl) ?_; intro w5 hg5 hM5 hz5)
          have HS5 := Lib.hid (HS.out.reslice 4 rfl (Sl.put (HS.out.slice 4 rfl) HG2.out (k * 5) [.int .i64 (-1), .string ⟨#[]⟩, .int .i64 0, .int .i64 0, .int .i64 0] HPT.out hg5) hM5)
          clear HS HG2 hg5 hM5 hz5
          go_roundg (narmed - (k + 1))
          case measure => omega
          case rel => exact ⟨k + 1, _, by omega, by simp, HS5.out⟩
        · clear hkg
          obtain ⟨cparmed, hcp⟩ : ∃ c, cq = c := ⟨_, rfl⟩
          rw [hcp] at hS
          have HS := Lib.hid hS
          clear hS hcp harmed hsubs hacl hzab
          have hS := HS.out
          have harmed := blk_cell (hS.box 6 rfl) 9 _ rfl
          have hsubs := blk_cell (hS.box 6 rfl) 8 _ rfl
          have hacl := blk_cell (hS.box 6 rfl) 4 _ rfl
          have hzab := heap_lt (hS.box 6 rfl)
          clear hS
          go_wp2
          go_loopg [9] nsubs (fun g y wr => ∃ (k : Nat) (cq : List Value), k + g = nsubs ∧ y = .int .i64 k ∧ St w wr (sl 65 2 aaclA nacl aaclC csacl :: g0 :: sl 30 10 asubsA nsubs asubsC cq :: g1 :: sl 63 5 aarmedA narmed aarmedC cparmed :: g2 :: bx ab #[.int .i64 akind, .int .i64 axid, .string apath, .string adata, .slice aaclA nacl aaclC, .int .i64 aflags, .int .i64 aversion, .bool awatch, .slice asubsA nsubs asubsC, .slice aarmedA narmed aarmedC] 30 :: bx xb #[.int .i64 xkind, .int .i64 xxid, .string xpath, .string xdata, .slice xaclA xacl.length xaclC, .int .i64 xflags, .int .i64 xversion, .bool xwatch, .slice xsubsA xsubsN xsubsC, .slice xarmedA xarmedN xarmedC] 30 :: grp (Req.things (⟨⟨xkind, xxid, xpath, xdata, xacl, xaclA, xaclC, xflags, xversion, xwatch, xsubsA, xsubsN, xsubsC, xarmedA, xarmedN, xarmedC⟩, xsubsL, xarmedL⟩ : Req)) :: []))
          case atStart => exact ⟨0, _, by omega, rfl, HS.out⟩
          case round =>
            obtain ⟨k, cq, hkg, rfl, hS⟩ := hrel
            clear HS harmed hsubs hacl hzab
            have harmed := blk_cell (hS.box 6 rfl) 9 _ rfl
            have hsubs := blk_cell (hS.box 6 rfl) 8 _ rfl
            have hacl := blk_cell (hS.box 6 rfl) 4 _ rfl
            have hzab := heap_lt (hS.box 6 rfl)
            by_cases hltk : k < nsubs
            · obtain ⟨b2, off2, c2, rfl, hg2, hfit2⟩ := (hS.slice 2 rfl).block (by omega)
              have hmc := (hS.slice 2 rfl).2.1
              have hz2 := heap_lt hg2
              have HS := Lib.hid hS
              have HG2 := Lib.hid hg2
              have HFT := Lib.hid (show off2 + k * 10 + 10 ≤ c2.size by omega)
              have HPT := Lib.hid (show k * 10 + 10 ≤ nsubs * 10 by omega)
              clear hS hg2 hfit2 hmc
              go_wp2_with ((with_reducible refine at_list ?_); refine wpList_store_chunk 10 sizeOp b2 (off2 + k * 10) rfl _ _ HG2.out _ rfl [.int .i64 (-1), .int .i64 0, .string ⟨#[]⟩, .string ⟨#[]⟩, .slice none 0 0, .int .i64 0, .int .i64 0, .bool false, .slice none 0 0, .slice none 0 0] rfl rfl HFT.out (by intro u hu; simp only [List.mem_cons, List.not_mem_nil, or_false] at hu; rcases hu with rfl | rfl | rfl | rfl | rfl | rfl | rfl | rfl | rfl | rfl <;> rfl) ?_; intro w5 hg5 hM5 hz5)
              have HS5 := Lib.hid (HS.out.reslice 2 rfl (Sl.put (HS.out.slice 2 rfl) HG2.out (k * 10) [.int .i64 (-1), .int .i64 0, .string ⟨#[]⟩, .string ⟨#[]⟩, .slice none 0 0, .int .i64 0, .int .i64 0, .bool false, .slice none 0 0, .slice none 0 0] HPT.out hg5) hM5)
              clear HS HG2 hg5 hM5 hz5
              go_roundg (nsubs - (k + 1))
              case measure => omega
              case rel => exact ⟨k + 1, _, by omega, by simp, HS5.out⟩
            · clear hkg
              obtain ⟨cpsubs, hcp⟩ : ∃ c, cq = c := ⟨_, rfl⟩
              rw [hcp] at hS
              have HS := Lib.hid hS
              clear hS hcp harmed hsubs hacl hzab
              have hS := HS.out
              have harmed := blk_cell (hS.box 6 rfl) 9 _ rfl
              have hsubs := blk_cell (hS.box 6 rfl) 8 _ rfl
              have hacl := blk_cell (hS.box 6 rfl) 4 _ rfl
              have hzab := heap_lt (hS.box 6 rfl)
              clear hS
              go_wp2
              go_loopg [10] nacl (fun g y wr => ∃ (k : Nat) (cq : List Value), k + g = nacl ∧ y = .int .i64 k ∧ St w wr (sl 65 2 aaclA nacl aaclC cq :: g0 :: sl 30 10 asubsA nsubs asubsC cpsubs :: g1 :: sl 63 5 aarmedA narmed aarmedC cparmed :: g2 :: bx ab #[.int .i64 akind, .int .i64 axid, .string apath, .string adata, .slice aaclA nacl aaclC, .int .i64 aflags, .int .i64 aversion, .bool awatch, .slice asubsA nsubs asubsC, .slice aarmedA narmed aarmedC] 30 :: bx xb #[.int .i64 xkind, .int .i64 xxid, .string xpath, .string xdata, .slice xaclA xacl.length xaclC, .int .i64 xflags, .int .i64 xversion, .bool xwatch, .slice xsubsA xsubsN xsubsC, .slice xarmedA xarmedN xarmedC] 30 :: grp (Req.things (⟨⟨xkind, xxid, xpath, xdata, xacl, xaclA, xaclC, xflags, xversion, xwatch, xsubsA, xsubsN, xsubsC, xarmedA, xarmedN, xarmedC⟩, xsubsL, xarmedL⟩ : Req)) :: []))
              case atStart => exact ⟨0, _, by omega, rfl, HS.out⟩
              case round =>
                obtain ⟨k, cq, hkg, rfl, hS⟩ := hrel
                clear HS harmed hsubs hacl hzab
                have harmed := blk_cell (hS.box 6 rfl) 9 _ rfl
                have hsubs := blk_cell (hS.box 6 rfl) 8 _ rfl
                have hacl := blk_cell (hS.box 6 rfl) 4 _ rfl
                have hzab := heap_lt (hS.box 6 rfl)
                by_cases hltk : k < nacl
                · obtain ⟨b2, off2, c2, rfl, hg2, hfit2⟩ := (hS.slice 0 rfl).block (by omega)
                  have hmc := (hS.slice 0 rfl).2.1
                  have hz2 := heap_lt hg2
                  have HS := Lib.hid hS
                  have HG2 := Lib.hid hg2
                  have HFT := Lib.hid (show off2 + k * 2 + 2 ≤ c2.size by omega)
                  have HPT := Lib.hid (show k * 2 + 2 ≤ nacl * 2 by omega)
                  clear hS hg2 hfit2 hmc
                  go_wp2_with ((with_reducible refine at_list ?_); refine wpList_store_chunk 2 sizeAcl b2 (off2 + k * 2) rfl _ _ HG2.out _ rfl [.int .i64 (-1), .string ⟨#[]⟩] rfl rfl HFT.out (by intro u hu; simp only [List.mem_cons, List.not_mem_nil, or_false] at hu; rcases hu with rfl | rfl <;> rfl) ?_; intro w5 hg5 hM5 hz5)
                  have HS5 := Lib.hid (HS.out.reslice 0 rfl (Sl.put (HS.out.slice 0 rfl) HG2.out (k * 2) [.int .i64 (-1), .string ⟨#[]⟩] HPT.out hg5) hM5)
                  clear HS HG2 hg5 hM5 hz5
                  go_roundg (nacl - (k + 1))
                  case measure => omega
                  case rel => exact ⟨k + 1, _, by omega, by simp, HS5.out⟩
                · clear hkg
                  obtain ⟨cpacl, hcp⟩ : ∃ c, cq = c := ⟨_, rfl⟩
                  rw [hcp] at hS
                  have HS := Lib.hid hS
                  clear hS hcp harmed hsubs hacl hzab
                  have hS := HS.out
                  have harmed := blk_cell (hS.box 6 rfl) 9 _ rfl
                  have hsubs := blk_cell (hS.box 6 rfl) 8 _ rfl
                  have hacl := blk_cell (hS.box 6 rfl) 4 _ rfl
                  have hzab := heap_lt (hS.box 6 rfl)
                  go_wp2
                  go_roundg (2 - (i + 1))
                  case measure => omega
                  case rel => exact ⟨i + 1, by omega, by simp, hS.tail.tail.tail.tail.tail.tail.tail⟩
    · go_wp2
      go_ret
      exact ⟨rfl, hS.1⟩
end Go.Proofs.YtmbkbkfcbloafaaGreat
