/-
  Any bytes as a reply: the law's Reply.
  Conditions: the bytes fit.
-/
import Derived.Test.YtmbkbkfcbloafaaGreatWireDp
import Derived.Test.YtmbkbkfcbloafaaGreatWireRp
import Derived.Test.YtmbkbkfcbloafaaGreatWireR3
import Derived.Test.YtmbkbkfcbloafaaGreatJbase
import Derived.Deep.Cut
namespace Go.Proofs.YtmbkbkfcbloafaaGreat
open Go.RowKit
set_option linter.unusedSectionVars false
set_option linter.unusedSimpArgs false
set_option linter.unusedVariables false
set_option maxRecDepth 100000

theorem Ans.okL {w0 w : World} {x : Ans} (hx : x.fine) (hl : ∀ t ∈ Ans.things x, Lies w0 w t) : x.ok w :=
  ⟨hx.1, hx.2.1, hx.2.2.1, hx.2.2.2.1, hx.2.2.2.2.1, hx.2.2.2.2.2.1, hx.2.2.2.2.2.2.1, hx.2.2.2.2.2.2.2.1, hx.2.2.2.2.2.2.2.2.1, hx.2.2.2.2.2.2.2.2.2.1, hx.2.2.2.2.2.2.2.2.2.2.1, hx.2.2.2.2.2.2.2.2.2.2.2.1, (hl (sl 65 2 x.aclA x.acl.length x.aclC (x.acl.flatMap Acl.cells)) (by simp [Ans.things])).rd, (fun a ha => hx.2.2.2.2.2.2.2.2.2.2.2.2.1.1 a ha), (hl (sl 9 1 x.kidsA x.kids.length x.kidsC (x.kids.flatMap strC)) (by simp [Ans.things])).rd⟩
theorem Rep.okL {w0 w : World} {x : Rep} (hx : x.fine) (hl : Lies w0 w (grp (Rep.things x))) : x.ok w where
  p := Ans.okL hx.1 fun t ht => hl.grp (List.mem_append_left _ ht)
  n := hx.2.1
  rd := by
    have := (hl.grp (t := sl 70 17 x.p.subsA x.p.subsN x.p.subsC (x.subs.flatMap Ans.cells)) (by simp [Rep.things])).rd
    rw [hx.2.1] at this; exact this
  all := fun a ha => Ans.okL (hx.2.2.1 a ha) fun t ht => by
    have h1 := hl.grp (t := grp (x.subs.map fun x => grp (Ans.things x))) (by simp [Rep.things])
    exact (h1.grp (List.mem_map.2 ⟨a, ha, rfl⟩)).grp ht
theorem Rep.zero_len : Rep.zero.bytes.length ≤ 500 := of_decide_eq_true (by kernel_rfl)

set_option maxHeartbeats 16000000 in
theorem reply_any (S : ByteArray) (hf : bfits (S.size + 1000)) (w : World) : Calls Tryz.prog 8 #[.string S] w (ValPost (.bool true) w) := by
  have hfS : bfits S.size := hf.mono (by omega)
  have HFS := Lib.hid hfS
  have HF := Lib.hid hf
  clear hf hfS
  go_enter Tryz.func8, Tryz.ntmps8
  go_wp2_with fail
  refine (rGetReply_st S HFS.out (St.start w)).mono ?_
  rintro e w1 ⟨X, E, rfl, HX, hS⟩
  have HS := Lib.hid (hS.box1 #[.int .i64 0, .int .i64 0, .int .i64 0, .string ⟨#[]⟩, .string ⟨#[]⟩, .int .i64 0, .int .i64 0, .int .i64 0, .int .i64 0, .int .i64 0, .int .i64 0, .int .i64 0, .int .i64 0, .int .i64 0, .slice none 0 0, .slice none 0 0, .slice none 0 0] 70)
  clear hS
  go_wp2_with ((with_reducible refine at_list ?_); refine wpList_store_whole 17 sizeAns w1.heap.size rfl _ _ (HS.out.box 0 rfl) rfl X.cells rfl rfl (by kernel_rfl) ?_; intro w2 hg2 hM2 hz2)
  have hS : St w w2 (bx w1.heap.size X.cells.toArray 70 :: grp (Rep.things X) :: []) := HS.out.rebox 0 rfl hg2 hM2
  clear HS hg2 hM2 hz2
  generalize w1.heap.size = xb at *
  have HS := Lib.hid hS
  clear hS
  go_loopg [5, 6, 7, 8, 9, 10] 2 (fun g y z6 z7 z8 z9 z10 wr => ∃ i : Nat, i + g = 2 ∧ y = .int .i64 i ∧ St w wr (bx xb X.cells.toArray 70 :: grp (Rep.things X) :: []))
  case atStart => exact ⟨0, by omega, rfl, HS.out⟩
  case round =>
    obtain ⟨i, hig, rfl, hS⟩ := hrel
    clear HS
    by_cases hlt : i < 2
    · have HS0 := Lib.hid hS
      clear hS
      go_wp2_with fail
      refine (GetReply_st S HFS.out HS0.out).mono ?_
      clear HS0
      rintro e w3 ⟨A, E2, rfl, HA, hS⟩
      have hEE : E2 = E ∧ A.bytes = X.bytes ∧ A.bytes.length ≤ S.size + 500 := by
        rcases HX.out.2 with ⟨h1, h2, h3⟩ | ⟨h1, h2, h3⟩ <;> rcases HA.out.2 with ⟨g1, g2, g3⟩ | ⟨g1, g2, g3⟩
        · exact ⟨by rw [g1, h1], by rw [g3, h3], by rw [g3, toList_size]; omega⟩
        · exact absurd h2 g2
        · exact absurd g2 h2
        · exact ⟨by rw [g1, h1], by rw [g3, h3], by rw [g3]; exact Nat.le_trans Rep.zero_len (by omega)⟩
      obtain ⟨rfl, hby, hle⟩ := hEE
      have hbE : (E2 == E2) = true := by simp
      have hbE' : (E2 != E2) = false := by simp
      have HS := Lib.hid (hS.box1 #[.int .i64 0, .int .i64 0, .int .i64 0, .string ⟨#[]⟩, .string ⟨#[]⟩, .int .i64 0, .int .i64 0, .int .i64 0, .int .i64 0, .int .i64 0, .int .i64 0, .int .i64 0, .int .i64 0, .int .i64 0, .slice none 0 0, .slice none 0 0, .slice none 0 0] 70)
      clear hS
      go_upto_region 6 with ((with_reducible refine at_list ?_); refine wpList_store_whole 17 sizeAns w3.heap.size rfl _ _ (HS.out.box 0 rfl) rfl A.cells rfl rfl (by kernel_rfl) ?_; intro w4 hg4 hM4 hz4)
      have hS : St w w4 (bx w3.heap.size A.cells.toArray 70 :: grp (Rep.things A) :: bx xb X.cells.toArray 70 :: grp (Rep.things X) :: []) := HS.out.rebox 0 rfl hg4 hM4
      clear HS hg4 hM4 hz4
      generalize w3.heap.size = ab at *
      have hokA : A.ok w4 := Rep.okL HA.out.1 (hS.lies (by simp))
      have hokX : X.ok w4 := Rep.okL HX.out.1 (hS.lies (by simp))
      obtain ⟨Bt, hBt⟩ : ∃ Bt, ByteArray.mk X.bytes.toArray = Bt := ⟨_, rfl⟩
      have CA : Hid (∀ w', Mod (fun _ => False) w4 w' → Calls Tryz.prog 28 #[.agg A.cells.toArray] w' (fun e w'' => e = .returned (.string Bt) ∧ Mod (fun _ => False) w' w'')) := Lib.hid fun w' h => by
        rw [← hBt, ← hby]; exact rPutReply_any A.p A.subs w' (Ans.okmod hokA.p h) hokA.n (hokA.rd.mod h (fun _ _ h => h)) (fun a ha => Ans.okmod (hokA.all a ha) h) (by have : ((A.p.bytes ++ listB Ans.bytes A.subs).length) = A.bytes.length := rfl; rw [this]; have := HF.out; unfold bfits at this ⊢; omega) 
      have CX : Hid (∀ w', Mod (fun _ => False) w4 w' → Calls Tryz.prog 28 #[.agg X.cells.toArray] w' (fun e w'' => e = .returned (.string Bt) ∧ Mod (fun _ => False) w' w'')) := Lib.hid fun w' h => by
        rw [← hBt]; exact rPutReply_any X.p X.subs w' (Ans.okmod hokX.p h) hokX.n (hokX.rd.mod h (fun _ _ h => h)) (fun a ha => Ans.okmod (hokX.all a ha) h) (by have : ((X.p.bytes ++ listB Ans.bytes X.subs).length) = X.bytes.length := rfl; rw [this]; have := HF.out; unfold bfits at this ⊢; rw [← hby]; omega)
      have hBB : (Bt.toList == Bt.toList) = true := by simp
      have HFA := Lib.hid HA.out.1
      clear hokA hokX hBt hby hle HA
      obtain ⟨⟨axid, azxid, aerr, apath, adata, as0, as1, as2, as3, as4, as5, as6, as7, as8, aacl, aaclA, aaclC, akids, akidsA, akidsC, asubsA, asubsN, asubsC⟩, asubsL⟩ := A
      obtain ⟨⟨xxid, xzxid, xerr, xpath, xdata, xs0, xs1, xs2, xs3, xs4, xs5, xs6, xs7, xs8, xacl, xaclA, xaclC, xkids, xkidsA, xkidsC, xsubsA, xsubsN, xsubsC⟩, xsubsL⟩ := X
      simp only [Rep.cells, Ans.cells] at CA CX hS HX ⊢
      have c0 : w4.cell? ⟨ab, 0, none⟩ = some (.int .i64 axid) := blk_cell (hS.box 0 rfl) 0 _ rfl
      have c1 : w4.cell? ⟨ab, 1, none⟩ = some (.int .i64 azxid) := blk_cell (hS.box 0 rfl) 1 _ rfl
      have c2 : w4.cell? ⟨ab, 2, none⟩ = some (.int .i64 aerr) := blk_cell (hS.box 0 rfl) 2 _ rfl
      have c3 : w4.cell? ⟨ab, 3, none⟩ = some (.string apath) := blk_cell (hS.box 0 rfl) 3 _ rfl
      have c4 : w4.cell? ⟨ab, 4, none⟩ = some (.string adata) := blk_cell (hS.box 0 rfl) 4 _ rfl
      have c5 : w4.cell? ⟨ab, 5, none⟩ = some (.int .i64 as0) := blk_cell (hS.box 0 rfl) 5 _ rfl
      have c6 : w4.cell? ⟨ab, 6, none⟩ = some (.int .i64 as1) := blk_cell (hS.box 0 rfl) 6 _ rfl
      have c7 : w4.cell? ⟨ab, 7, none⟩ = some (.int .i64 as2) := blk_cell (hS.box 0 rfl) 7 _ rfl
      have c8 : w4.cell? ⟨ab, 8, none⟩ = some (.int .i64 as3) := blk_cell (hS.box 0 rfl) 8 _ rfl
      have c9 : w4.cell? ⟨ab, 9, none⟩ = some (.int .i64 as4) := blk_cell (hS.box 0 rfl) 9 _ rfl
      have c10 : w4.cell? ⟨ab, 10, none⟩ = some (.int .i64 as5) := blk_cell (hS.box 0 rfl) 10 _ rfl
      have c11 : w4.cell? ⟨ab, 11, none⟩ = some (.int .i64 as6) := blk_cell (hS.box 0 rfl) 11 _ rfl
      have c12 : w4.cell? ⟨ab, 12, none⟩ = some (.int .i64 as7) := blk_cell (hS.box 0 rfl) 12 _ rfl
      have c13 : w4.cell? ⟨ab, 13, none⟩ = some (.int .i64 as8) := blk_cell (hS.box 0 rfl) 13 _ rfl
      have c14 : w4.cell? ⟨ab, 14, none⟩ = some (.slice aaclA aacl.length aaclC) := blk_cell (hS.box 0 rfl) 14 _ rfl
      have c15 : w4.cell? ⟨ab, 15, none⟩ = some (.slice akidsA akids.length akidsC) := blk_cell (hS.box 0 rfl) 15 _ rfl
      have c16 : w4.cell? ⟨ab, 16, none⟩ = some (.slice asubsA asubsN asubsC) := blk_cell (hS.box 0 rfl) 16 _ rfl
      have d0 : w4.cell? ⟨xb, 0, none⟩ = some (.int .i64 xxid) := blk_cell (hS.box 2 rfl) 0 _ rfl
      have d1 : w4.cell? ⟨xb, 1, none⟩ = some (.int .i64 xzxid) := blk_cell (hS.box 2 rfl) 1 _ rfl
      have d2 : w4.cell? ⟨xb, 2, none⟩ = some (.int .i64 xerr) := blk_cell (hS.box 2 rfl) 2 _ rfl
      have d3 : w4.cell? ⟨xb, 3, none⟩ = some (.string xpath) := blk_cell (hS.box 2 rfl) 3 _ rfl
      have d4 : w4.cell? ⟨xb, 4, none⟩ = some (.string xdata) := blk_cell (hS.box 2 rfl) 4 _ rfl
      have d5 : w4.cell? ⟨xb, 5, none⟩ = some (.int .i64 xs0) := blk_cell (hS.box 2 rfl) 5 _ rfl
      have d6 : w4.cell? ⟨xb, 6, none⟩ = some (.int .i64 xs1) := blk_cell (hS.box 2 rfl) 6 _ rfl
      have d7 : w4.cell? ⟨xb, 7, none⟩ = some (.int .i64 xs2) := blk_cell (hS.box 2 rfl) 7 _ rfl
      have d8 : w4.cell? ⟨xb, 8, none⟩ = some (.int .i64 xs3) := blk_cell (hS.box 2 rfl) 8 _ rfl
      have d9 : w4.cell? ⟨xb, 9, none⟩ = some (.int .i64 xs4) := blk_cell (hS.box 2 rfl) 9 _ rfl
      have d10 : w4.cell? ⟨xb, 10, none⟩ = some (.int .i64 xs5) := blk_cell (hS.box 2 rfl) 10 _ rfl
      have d11 : w4.cell? ⟨xb, 11, none⟩ = some (.int .i64 xs6) := blk_cell (hS.box 2 rfl) 11 _ rfl
      have d12 : w4.cell? ⟨xb, 12, none⟩ = some (.int .i64 xs7) := blk_cell (hS.box 2 rfl) 12 _ rfl
      have d13 : w4.cell? ⟨xb, 13, none⟩ = some (.int .i64 xs8) := blk_cell (hS.box 2 rfl) 13 _ rfl
      have d14 : w4.cell? ⟨xb, 14, none⟩ = some (.slice xaclA xacl.length xaclC) := blk_cell (hS.box 2 rfl) 14 _ rfl
      have d15 : w4.cell? ⟨xb, 15, none⟩ = some (.slice xkidsA xkids.length xkidsC) := blk_cell (hS.box 2 rfl) 15 _ rfl
      have d16 : w4.cell? ⟨xb, 16, none⟩ = some (.slice xsubsA xsubsN xsubsC) := blk_cell (hS.box 2 rfl) 16 _ rfl
      have KP : Hid (∀ w', Mod (fun _ => False) w4 w' → w'.cell? ⟨ab, 0, none⟩ = some (.int .i64 axid) ∧ w'.cell? ⟨ab, 1, none⟩ = some (.int .i64 azxid) ∧ w'.cell? ⟨ab, 2, none⟩ = some (.int .i64 aerr) ∧ w'.cell? ⟨ab, 3, none⟩ = some (.string apath) ∧ w'.cell? ⟨ab, 4, none⟩ = some (.string adata) ∧ w'.cell? ⟨ab, 5, none⟩ = some (.int .i64 as0) ∧ w'.cell? ⟨ab, 6, none⟩ = some (.int .i64 as1) ∧ w'.cell? ⟨ab, 7, none⟩ = some (.int .i64 as2) ∧ w'.cell? ⟨ab, 8, none⟩ = some (.int .i64 as3) ∧ w'.cell? ⟨ab, 9, none⟩ = some (.int .i64 as4) ∧ w'.cell? ⟨ab, 10, none⟩ = some (.int .i64 as5) ∧ w'.cell? ⟨ab, 11, none⟩ = some (.int .i64 as6) ∧ w'.cell? ⟨ab, 12, none⟩ = some (.int .i64 as7) ∧ w'.cell? ⟨ab, 13, none⟩ = some (.int .i64 as8) ∧ w'.cell? ⟨ab, 14, none⟩ = some (.slice aaclA aacl.length aaclC) ∧ w'.cell? ⟨ab, 15, none⟩ = some (.slice akidsA akids.length akidsC) ∧ w'.cell? ⟨ab, 16, none⟩ = some (.slice asubsA asubsN asubsC) ∧ w'.cell? ⟨xb, 0, none⟩ = some (.int .i64 xxid) ∧ w'.cell? ⟨xb, 1, none⟩ = some (.int .i64 xzxid) ∧ w'.cell? ⟨xb, 2, none⟩ = some (.int .i64 xerr) ∧ w'.cell? ⟨xb, 3, none⟩ = some (.string xpath) ∧ w'.cell? ⟨xb, 4, none⟩ = some (.string xdata) ∧ w'.cell? ⟨xb, 5, none⟩ = some (.int .i64 xs0) ∧ w'.cell? ⟨xb, 6, none⟩ = some (.int .i64 xs1) ∧ w'.cell? ⟨xb, 7, none⟩ = some (.int .i64 xs2) ∧ w'.cell? ⟨xb, 8, none⟩ = some (.int .i64 xs3) ∧ w'.cell? ⟨xb, 9, none⟩ = some (.int .i64 xs4) ∧ w'.cell? ⟨xb, 10, none⟩ = some (.int .i64 xs5) ∧ w'.cell? ⟨xb, 11, none⟩ = some (.int .i64 xs6) ∧ w'.cell? ⟨xb, 12, none⟩ = some (.int .i64 xs7) ∧ w'.cell? ⟨xb, 13, none⟩ = some (.int .i64 xs8) ∧ w'.cell? ⟨xb, 14, none⟩ = some (.slice xaclA xacl.length xaclC) ∧ w'.cell? ⟨xb, 15, none⟩ = some (.slice xkidsA xkids.length xkidsC) ∧ w'.cell? ⟨xb, 16, none⟩ = some (.slice xsubsA xsubsN xsubsC)) := Lib.hid fun w' h => ⟨h.cell c0 id, h.cell c1 id, h.cell c2 id, h.cell c3 id, h.cell c4 id, h.cell c5 id, h.cell c6 id, h.cell c7 id, h.cell c8 id, h.cell c9 id, h.cell c10 id, h.cell c11 id, h.cell c12 id, h.cell c13 id, h.cell c14 id, h.cell c15 id, h.cell c16 id, h.cell d0 id, h.cell d1 id, h.cell d2 id, h.cell d3 id, h.cell d4 id, h.cell d5 id, h.cell d6 id, h.cell d7 id, h.cell d8 id, h.cell d9 id, h.cell d10 id, h.cell d11 id, h.cell d12 id, h.cell d13 id, h.cell d14 id, h.cell d15 id, h.cell d16 id⟩
      have hza := heap_lt (hS.box 0 rfl)
      have hzx := heap_lt (hS.box 2 rfl)
      have HS := Lib.hid hS
      clear hS
      go_region_held3 (fun w' => w'.cell? ⟨ab, 0, none⟩ = some (.int .i64 axid) ∧ w'.cell? ⟨ab, 1, none⟩ = some (.int .i64 azxid) ∧ w'.cell? ⟨ab, 2, none⟩ = some (.int .i64 aerr) ∧ w'.cell? ⟨ab, 3, none⟩ = some (.string apath) ∧ w'.cell? ⟨ab, 4, none⟩ = some (.string adata) ∧ w'.cell? ⟨ab, 5, none⟩ = some (.int .i64 as0) ∧ w'.cell? ⟨ab, 6, none⟩ = some (.int .i64 as1) ∧ w'.cell? ⟨ab, 7, none⟩ = some (.int .i64 as2) ∧ w'.cell? ⟨ab, 8, none⟩ = some (.int .i64 as3) ∧ w'.cell? ⟨ab, 9, none⟩ = some (.int .i64 as4) ∧ w'.cell? ⟨ab, 10, none⟩ = some (.int .i64 as5) ∧ w'.cell? ⟨ab, 11, none⟩ = some (.int .i64 as6) ∧ w'.cell? ⟨ab, 12, none⟩ = some (.int .i64 as7) ∧ w'.cell? ⟨ab, 13, none⟩ = some (.int .i64 as8) ∧ w'.cell? ⟨ab, 14, none⟩ = some (.slice aaclA aacl.length aaclC) ∧ w'.cell? ⟨ab, 15, none⟩ = some (.slice akidsA akids.length akidsC) ∧ w'.cell? ⟨ab, 16, none⟩ = some (.slice asubsA asubsN asubsC) ∧ w'.cell? ⟨xb, 0, none⟩ = some (.int .i64 xxid) ∧ w'.cell? ⟨xb, 1, none⟩ = some (.int .i64 xzxid) ∧ w'.cell? ⟨xb, 2, none⟩ = some (.int .i64 xerr) ∧ w'.cell? ⟨xb, 3, none⟩ = some (.string xpath) ∧ w'.cell? ⟨xb, 4, none⟩ = some (.string xdata) ∧ w'.cell? ⟨xb, 5, none⟩ = some (.int .i64 xs0) ∧ w'.cell? ⟨xb, 6, none⟩ = some (.int .i64 xs1) ∧ w'.cell? ⟨xb, 7, none⟩ = some (.int .i64 xs2) ∧ w'.cell? ⟨xb, 8, none⟩ = some (.int .i64 xs3) ∧ w'.cell? ⟨xb, 9, none⟩ = some (.int .i64 xs4) ∧ w'.cell? ⟨xb, 10, none⟩ = some (.int .i64 xs5) ∧ w'.cell? ⟨xb, 11, none⟩ = some (.int .i64 xs6) ∧ w'.cell? ⟨xb, 12, none⟩ = some (.int .i64 xs7) ∧ w'.cell? ⟨xb, 13, none⟩ = some (.int .i64 xs8) ∧ w'.cell? ⟨xb, 14, none⟩ = some (.slice xaclA xacl.length xaclC) ∧ w'.cell? ⟨xb, 15, none⟩ = some (.slice xkidsA xkids.length xkidsC) ∧ w'.cell? ⟨xb, 16, none⟩ = some (.slice xsubsA xsubsN xsubsC))
        (first | (refine KP.out _ ?_; with_reducible (repeat (first | exact Mod.refl _ _ | refine Mod.drew ?_ | refine Mod.drewN ?_ _ | refine Mod.alloc ?_ _ | refine Mod.back (by assumption) ?_))))
        ((first
          | (go_at_call 28; refine (CA.out _ (by with_reducible (repeat (first | exact Mod.refl _ _ | refine Mod.drew ?_ | refine Mod.drewN ?_ _ | refine Mod.alloc ?_ _ | refine Mod.back (by assumption) ?_)))).mono ?_; rintro e v0 ⟨rfl, hM0⟩; clear CA)
          | (go_at_call 28; refine (CX.out _ (by with_reducible (repeat (first | exact Mod.refl _ _ | refine Mod.drew ?_ | refine Mod.drewN ?_ _ | refine Mod.alloc ?_ _ | refine Mod.back (by assumption) ?_)))).mono ?_; rintro e v1 ⟨rfl, hM1⟩; clear CX)))
      have HM : Hid (Mod (fun _ => False) w4 v1) := Lib.hid (by with_reducible (repeat (first | exact Mod.refl _ _ | refine Mod.drew ?_ | refine Mod.drewN ?_ _ | refine Mod.alloc ?_ _ | refine Mod.back (by assumption) ?_)))
      have HS1 := Lib.hid (HS.out.mod HM.out)
      clear c0 c1 c2 c3 c4 c5 c6 c7 c8 c9 c10 c11 c12 c13 c14 c15 c16 d0 d1 d2 d3 d4 d5 d6 d7 d8 d9 d10 d11 d12 d13 d14 d15 d16 KP hM0 hM1 hza hzx HS HM
      obtain ⟨nacl, hnacl⟩ : ∃ n, aacl.length = n := ⟨_, rfl⟩
      obtain ⟨nkids, hnkids⟩ : ∃ n, akids.length = n := ⟨_, rfl⟩
      obtain ⟨nsubs, hnsubs⟩ : ∃ n, asubsN = n := ⟨_, rfl⟩
      obtain ⟨g0, g1, g2, hS⟩ : ∃ g0 g1 g2, St w v1 (sl 65 2 aaclA aacl.length aaclC (aacl.flatMap Acl.cells) :: g0 :: sl 9 1 akidsA akids.length akidsC (akids.flatMap strC) :: g1 :: sl 70 17 asubsA asubsN asubsC (asubsL.flatMap Ans.cells) :: g2 :: bx ab #[.int .i64 axid, .int .i64 azxid, .int .i64 aerr, .string apath, .string adata, .int .i64 as0, .int .i64 as1, .int .i64 as2, .int .i64 as3, .int .i64 as4, .int .i64 as5, .int .i64 as6, .int .i64 as7, .int .i64 as8, .slice aaclA aacl.length aaclC, .slice akidsA akids.length akidsC, .slice asubsA asubsN asubsC] 70 :: bx xb #[.int .i64 xxid, .int .i64 xzxid, .int .i64 xerr, .string xpath, .string xdata, .int .i64 xs0, .int .i64 xs1, .int .i64 xs2, .int .i64 xs3, .int .i64 xs4, .int .i64 xs5, .int .i64 xs6, .int .i64 xs7, .int .i64 xs8, .slice xaclA xacl.length xaclC, .slice xkidsA xkids.length xkidsC, .slice xsubsA xsubsN xsubsC] 70 :: grp (Rep.things (⟨⟨xxid, xzxid, xerr, xpath, xdata, xs0, xs1, xs2, xs3, xs4, xs5, xs6, xs7, xs8, xacl, xaclA, xaclC, xkids, xkidsA, xkidsC, xsubsA, xsubsN, xsubsC⟩, xsubsL⟩ : Rep)) :: []) := ⟨_, _, _, HS1.out.swap.ungrp⟩
      rw [hnacl, hnkids, hnsubs] at hS
      have hlacl : nacl ≤ 256 := by rw [← hnacl]; exact HFA.out.1.2.2.2.2.2.2.2.2.2.2.2.2.1.2
      have hlkids : nkids ≤ 256 := by rw [← hnkids]; exact HFA.out.1.2.2.2.2.2.2.2.2.2.2.2.2.2
      have hlsubs : nsubs ≤ 256 := by rw [← hnsubs, show asubsN = asubsL.length from HFA.out.2.1]; exact HFA.out.2.2.2
      obtain ⟨csacl, hcsacl⟩ : ∃ c, aacl.flatMap Acl.cells = c := ⟨_, rfl⟩
      obtain ⟨cskids, hcskids⟩ : ∃ c, akids.flatMap strC = c := ⟨_, rfl⟩
      obtain ⟨cssubs, hcssubs⟩ : ∃ c, asubsL.flatMap Ans.cells = c := ⟨_, rfl⟩
      rw [hcsacl, hcskids, hcssubs] at hS
      have HS := Lib.hid hS
      clear HS1 hS HFA hnacl hcsacl hnkids hcskids hnsubs hcssubs
      have hS := HS.out
      have hkids := blk_cell (hS.box 6 rfl) 15 _ rfl
      have hacl := blk_cell (hS.box 6 rfl) 14 _ rfl
      have hsubs := blk_cell (hS.box 6 rfl) 16 _ rfl
      have hzab := heap_lt (hS.box 6 rfl)
      clear hS
      go_wp2_with fail
      go_loopg [8] nkids (fun g y wr => ∃ (k : Nat) (cq : List Value), k + g = nkids ∧ y = .int .i64 k ∧ St w wr (sl 65 2 aaclA nacl aaclC csacl :: g0 :: sl 9 1 akidsA nkids akidsC cq :: g1 :: sl 70 17 asubsA nsubs asubsC cssubs :: g2 :: bx ab #[.int .i64 axid, .int .i64 azxid, .int .i64 aerr, .string apath, .string adata, .int .i64 as0, .int .i64 as1, .int .i64 as2, .int .i64 as3, .int .i64 as4, .int .i64 as5, .int .i64 as6, .int .i64 as7, .int .i64 as8, .slice aaclA nacl aaclC, .slice akidsA nkids akidsC, .slice asubsA nsubs asubsC] 70 :: bx xb #[.int .i64 xxid, .int .i64 xzxid, .int .i64 xerr, .string xpath, .string xdata, .int .i64 xs0, .int .i64 xs1, .int .i64 xs2, .int .i64 xs3, .int .i64 xs4, .int .i64 xs5, .int .i64 xs6, .int .i64 xs7, .int .i64 xs8, .slice xaclA xacl.length xaclC, .slice xkidsA xkids.length xkidsC, .slice xsubsA xsubsN xsubsC] 70 :: grp (Rep.things (⟨⟨xxid, xzxid, xerr, xpath, xdata, xs0, xs1, xs2, xs3, xs4, xs5, xs6, xs7, xs8, xacl, xaclA, xaclC, xkids, xkidsA, xkidsC, xsubsA, xsubsN, xsubsC⟩, xsubsL⟩ : Rep)) :: []))
      case atStart => exact ⟨0, _, by omega, rfl, HS.out⟩
      case round =>
        obtain ⟨k, cq, hkg, rfl, hS⟩ := hrel
        clear HS hkids hacl hsubs hzab
        have hkids := blk_cell (hS.box 6 rfl) 15 _ rfl
        have hacl := blk_cell (hS.box 6 rfl) 14 _ rfl
        have hsubs := blk_cell (hS.box 6 rfl) 16 _ rfl
        have hzab := heap_lt (hS.box 6 rfl)
        by_cases hltk : k < nkids
        · obtain ⟨b2, off2, c2, rfl, hg2, hfit2⟩ := (hS.slice 2 rfl).block (by omega)
          have hmc := (hS.slice 2 rfl).2.1
          have hz2 := heap_lt hg2
          have HS := Lib.hid hS
          have HG2 := Lib.hid hg2
          obtain ⟨u2, hu2⟩ : ∃ u, wr.cell? ⟨b2, off2 + k, none⟩ = some u := ⟨_, blk_cell hg2 (off2 + k) _ (Array.getElem?_eq_getElem (show off2 + k < c2.size by omega))⟩
          have hf2 := blk_free hg2 (off2 + k)
          obtain ⟨cr, hcr⟩ := Sl.put1 (hS.slice 2 rfl) hg2 hfit2 k (by omega) (.string ⟨#[111, 118, 101, 114]⟩)
          have HS5 := Lib.hid (HS.out.reslice 2 rfl hcr ((Mod.refl _ wr).setCell _ _ (fun _ => rfl)))
          clear hS hg2 hfit2 hmc hcr HS HG2
          go_wp2
          go_roundg (nkids - (k + 1))
          case measure => omega
          case rel => exact ⟨k + 1, _, by omega, by simp, HS5.out⟩
        · clear hkg
          obtain ⟨cpkids, hcp⟩ : ∃ c, cq = c := ⟨_, rfl⟩
          rw [hcp] at hS
          have HS := Lib.hid hS
          clear hS hcp hkids hacl hsubs hzab
          have hS := HS.out
          have hkids := blk_cell (hS.box 6 rfl) 15 _ rfl
          have hacl := blk_cell (hS.box 6 rfl) 14 _ rfl
          have hsubs := blk_cell (hS.box 6 rfl) 16 _ rfl
          have hzab := heap_lt (hS.box 6 rfl)
          clear hS
          go_wp2
          go_loopg [9] nacl (fun g y wr => ∃ (k : Nat) (cq : List Value), k + g = nacl ∧ y = .int .i64 k ∧ St w wr (sl 65 2 aaclA nacl aaclC cq :: g0 :: sl 9 1 akidsA nkids akidsC cpkids :: g1 :: sl 70 17 asubsA nsubs asubsC cssubs :: g2 :: bx ab #[.int .i64 axid, .int .i64 azxid, .int .i64 aerr, .string apath, .string adata, .int .i64 as0, .int .i64 as1, .int .i64 as2, .int .i64 as3, .int .i64 as4, .int .i64 as5, .int .i64 as6, .int .i64 as7, .int .i64 as8, .slice aaclA nacl aaclC, .slice akidsA nkids akidsC, .slice asubsA nsubs asubsC] 70 :: bx xb #[.int .i64 xxid, .int .i64 xzxid, .int .i64 xerr, .string xpath, .string xdata, .int .i64 xs0, .int .i64 xs1, .int .i64 xs2, .int .i64 xs3, .int .i64 xs4, .int .i64 xs5, .int .i64 xs6, .int .i64 xs7, .int .i64 xs8, .slice xaclA xacl.length xaclC, .slice xkidsA xkids.length xkidsC, .slice xsubsA xsubsN xsubsC] 70 :: grp (Rep.things (⟨⟨xxid, xzxid, xerr, xpath, xdata, xs0, xs1, xs2, xs3, xs4, xs5, xs6, xs7, xs8, xacl, xaclA, xaclC, xkids, xkidsA, xkidsC, xsubsA, xsubsN, xsubsC⟩, xsubsL⟩ : Rep)) :: []))
          case atStart => exact ⟨0, _, by omega, rfl, HS.out⟩
          case round =>
            obtain ⟨k, cq, hkg, rfl, hS⟩ := hrel
            clear HS hkids hacl hsubs hzab
            have hkids := blk_cell (hS.box 6 rfl) 15 _ rfl
            have hacl := blk_cell (hS.box 6 rfl) 14 _ rfl
            have hsubs := blk_cell (hS.box 6 rfl) 16 _ rfl
            have hzab := heap_lt (hS.box 6 rfl)
            by_cases hltk : k < nacl
            · obtain ⟨b2, off2, c2, rfl, hg2, hfit2⟩ := (hS.slice 0 rfl).block (by omega)
              have hmc := (hS.slice 0 rfl).2.1
              have hz2 := heap_lt hg2
              have HS := Lib.hid hS
              have HG2 := Lib.hid hg2
              have HFT := Lib.hid (show off2 + k * 2 + 2 ≤ c2.size by omega)
              have HPT := Lib.hid (show k * 2 + 2 ≤ nacl * 2 by omega)
              clear hS hg2 hfit2 hmc
              go_wp2_with ((with_reducible refine at_list ?_); refine wpList_store_chunk 2 sizeAcl b2 (off2 + k * 2) rfl _ _ HG2.out _ rfl [.int .i64 (-1), .string ⟨#[]⟩] rfl rfl HFT.out (by intro u hu; simp only [List.mem_cons, List.not_mem_nil, or_false] at hu; rcases hu with rfl | rfl <;> rfl) ?_; intro w5 hg5 hM5 hz5)
              have HS5 := Lib.hid (HS.out.reslice 0 rfl (Sl.put (HS.out.slice 0 rfl) HG2.out (k * 2) [.int .i64 (-1), .string ⟨#[]⟩] HPT.out hg5) hM5)
              clear HS HG2 hg5 hM5 hz5
              go_roundg (nacl - (k + 1))
              case measure => omega
              case rel => exact ⟨k + 1, _, by omega, by simp, HS5.out⟩
            · clear hkg
              obtain ⟨cpacl, hcp⟩ : ∃ c, cq = c := ⟨_, rfl⟩
              rw [hcp] at hS
              have HS := Lib.hid hS
              clear hS hcp hkids hacl hsubs hzab
              have hS := HS.out
              have hkids := blk_cell (hS.box 6 rfl) 15 _ rfl
              have hacl := blk_cell (hS.box 6 rfl) 14 _ rfl
              have hsubs := blk_cell (hS.box 6 rfl) 16 _ rfl
              have hzab := heap_lt (hS.box 6 rfl)
              clear hS
              go_wp2
              go_loopg [10] nsubs (fun g y wr => ∃ (k : Nat) (cq : List Value), k + g = nsubs ∧ y = .int .i64 k ∧ St w wr (sl 65 2 aaclA nacl aaclC cpacl :: g0 :: sl 9 1 akidsA nkids akidsC cpkids :: g1 :: sl 70 17 asubsA nsubs asubsC cq :: g2 :: bx ab #[.int .i64 axid, .int .i64 azxid, .int .i64 aerr, .string apath, .string adata, .int .i64 as0, .int .i64 as1, .int .i64 as2, .int .i64 as3, .int .i64 as4, .int .i64 as5, .int .i64 as6, .int .i64 as7, .int .i64 as8, .slice aaclA nacl aaclC, .slice akidsA nkids akidsC, .slice asubsA nsubs asubsC] 70 :: bx xb #[.int .i64 xxid, .int .i64 xzxid, .int .i64 xerr, .string xpath, .string xdata, .int .i64 xs0, .int .i64 xs1, .int .i64 xs2, .int .i64 xs3, .int .i64 xs4, .int .i64 xs5, .int .i64 xs6, .int .i64 xs7, .int .i64 xs8, .slice xaclA xacl.length xaclC, .slice xkidsA xkids.length xkidsC, .slice xsubsA xsubsN xsubsC] 70 :: grp (Rep.things (⟨⟨xxid, xzxid, xerr, xpath, xdata, xs0, xs1, xs2, xs3, xs4, xs5, xs6, xs7, xs8, xacl, xaclA, xaclC, xkids, xkidsA, xkidsC, xsubsA, xsubsN, xsubsC⟩, xsubsL⟩ : Rep)) :: []))
              case atStart => exact ⟨0, _, by omega, rfl, HS.out⟩
              case round =>
                obtain ⟨k, cq, hkg, rfl, hS⟩ := hrel
                clear HS hkids hacl hsubs hzab
                have hkids := blk_cell (hS.box 6 rfl) 15 _ rfl
                have hacl := blk_cell (hS.box 6 rfl) 14 _ rfl
                have hsubs := blk_cell (hS.box 6 rfl) 16 _ rfl
                have hzab := heap_lt (hS.box 6 rfl)
                by_cases hltk : k < nsubs
                · obtain ⟨b2, off2, c2, rfl, hg2, hfit2⟩ := (hS.slice 4 rfl).block (by omega)
                  have hmc := (hS.slice 4 rfl).2.1
                  have hz2 := heap_lt hg2
                  have HS := Lib.hid hS
                  have HG2 := Lib.hid hg2
                  have HFT := Lib.hid (show off2 + k * 17 + 17 ≤ c2.size by omega)
                  have HPT := Lib.hid (show k * 17 + 17 ≤ nsubs * 17 by omega)
                  clear hS hg2 hfit2 hmc
                  go_wp2_with ((with_reducible refine at_list ?_); refine wpList_store_chunk 17 sizeAns b2 (off2 + k * 17) rfl _ _ HG2.out _ rfl [.int .i64 (-1), .int .i64 0, .int .i64 0, .string ⟨#[]⟩, .string ⟨#[]⟩, .int .i64 0, .int .i64 0, .int .i64 0, .int .i64 0, .int .i64 0, .int .i64 0, .int .i64 0, .int .i64 0, .int .i64 0, .slice none 0 0, .slice none 0 0, .slice none 0 0] rfl rfl HFT.out (by intro u hu; simp only [List.mem_cons, List.not_mem_nil, or_false] at hu; rcases hu with rfl | rfl | rfl | rfl | rfl | rfl | rfl | rfl | rfl | rfl | rfl | rfl | rfl | rfl | rfl | rfl | rfl <;> rfl) ?_; intro w5 hg5 hM5 hz5)
                  have HS5 := Lib.hid (HS.out.reslice 4 rfl (Sl.put (HS.out.slice 4 rfl) HG2.out (k * 17) [.int .i64 (-1), .int .i64 0, .int .i64 0, .string ⟨#[]⟩, .string ⟨#[]⟩, .int .i64 0, .int .i64 0, .int .i64 0, .int .i64 0, .int .i64 0, .int .i64 0, .int .i64 0, .int .i64 0, .int .i64 0, .slice none 0 0, .slice none 0 0, .slice none 0 0] HPT.out hg5) hM5)
                  clear HS HG2 hg5 hM5 hz5
                  go_roundg (nsubs - (k + 1))
                  case measure => omega
                  case rel => exact ⟨k + 1, _, by omega, by simp, HS5.out⟩
                · clear hkg
                  obtain ⟨cpsubs, hcp⟩ : ∃ c, cq = c := ⟨_, rfl⟩
                  rw [hcp] at hS
                  have HS := Lib.hid hS
                  clear hS hcp hkids hacl hsubs hzab
                  have hS := HS.out
                  have hkids := blk_cell (hS.box 6 rfl) 15 _ rfl
                  have hacl := blk_cell (hS.box 6 rfl) 14 _ rfl
                  have hsubs := blk_cell (hS.box 6 rfl) 16 _ rfl
                  have hzab := heap_lt (hS.box 6 rfl)
                  go_wp2
                  go_roundg (2 - (i + 1))
                  case measure => omega
                  case rel => exact ⟨i + 1, by omega, by simp, hS.tail.tail.tail.tail.tail.tail.tail⟩
    · go_wp2
      go_ret
      exact ⟨rfl, hS.1⟩
end Go.Proofs.YtmbkbkfcbloafaaGreat
