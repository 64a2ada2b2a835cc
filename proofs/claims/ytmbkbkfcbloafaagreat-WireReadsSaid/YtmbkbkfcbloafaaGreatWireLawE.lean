/-
  Any bytes as an entry: the law's Entry.
  Conditions: the bytes fit.
-/
import Derived.Test.YtmbkbkfcbloafaaGreatWireOver
import Derived.Test.YtmbkbkfcbloafaaGreatWireS
import Derived.Deep.Cut
namespace Go.Proofs.YtmbkbkfcbloafaaGreat
open Go.RowKit
set_option linter.unusedSectionVars false
set_option linter.unusedSimpArgs false
set_option linter.unusedVariables false
set_option maxRecDepth 100000

theorem Txn.okL {w0 w : World} {x : Txn} (hx : x.fine) (hl : ∀ t ∈ Txn.things x, Lies w0 w t) : x.ok w :=
  ⟨hx.1, hx.2.1, hx.2.2.1, hx.2.2.2.1, (hl (sl 65 2 x.aclA x.acl.length x.aclC (x.acl.flatMap Acl.cells)) (by simp [Txn.things])).rd, fun a ha => hx.2.2.2.2.1 a ha⟩
theorem Ent.okL {w0 w : World} {x : Ent} (hx : x.fine) (hl : Lies w0 w (grp (Ent.things x))) : x.ok w where
  zxid := hx.1.1
  session := hx.1.2.1
  xid := hx.1.2.2
  t := Txn.okL hx.2.1 fun t ht => hl.grp (List.mem_append_left _ ht)
  n := hx.2.2.1
  rd := by
    have := (hl.grp (t := sl 37 8 x.t.subsA x.t.subsN x.t.subsC (x.subs.flatMap Txn.cells)) (by simp [Ent.things, TxnW.things])).rd
    have e : x.t.subsN = x.subs.length := hx.2.2.1
    rw [e] at this; exact this
  all := fun a ha => Txn.okL (hx.2.2.2.1 a ha) fun t ht => by
    have h1 := hl.grp (t := grp (x.subs.map fun x => grp (Txn.things x))) (by simp [Ent.things, TxnW.things])
    exact (h1.grp (List.mem_map.2 ⟨a, ha, rfl⟩)).grp ht
theorem Ent.zero_len : Ent.zero.bytes.length ≤ 500 := of_decide_eq_true (by kernel_rfl)

set_option maxHeartbeats 16000000 in
theorem entry_any (S : ByteArray) (hf : bfits (S.size + 1000)) (w : World) : Calls Tryz.prog 6 #[.string S] w (ValPost (.bool true) w) := by
  have hfS : bfits S.size := hf.mono (by omega)
  have HFS := Lib.hid hfS
  have HF := Lib.hid hf
  clear hf hfS
  go_enter Tryz.func6, Tryz.ntmps6
  go_wp2_with fail
  refine (rGetEntry_st S HFS.out (St.start w)).mono ?_
  rintro e w1 ⟨X, E, rfl, HX, hS⟩
  have HS := Lib.hid (hS.box1 #[.int .i64 0, .int .i64 0, .int .i64 0, .int .i64 0, .string ⟨#[]⟩, .string ⟨#[]⟩, .slice none 0 0, .int .i64 0, .int .i64 0, .int .i64 0, .slice none 0 0] 39)
  clear hS
  go_wp2_with ((with_reducible refine at_list ?_); refine wpList_store_whole 11 sizeEnt w1.heap.size rfl _ _ (HS.out.box 0 rfl) rfl X.cells rfl rfl (by kernel_rfl) ?_; intro w2 hg2 hM2 hz2)
  have hS : St w w2 (bx w1.heap.size X.cells.toArray 39 :: grp (Ent.things X) :: []) := HS.out.rebox 0 rfl hg2 hM2
  clear HS hg2 hM2 hz2
  generalize w1.heap.size = xb at *
  have HS := Lib.hid hS
  clear hS
  go_loopg [5, 6, 7] 2 (fun g y z6 z7 wr => ∃ i : Nat, i + g = 2 ∧ y = .int .i64 i ∧ St w wr (bx xb X.cells.toArray 39 :: grp (Ent.things X) :: []))
  case atStart => exact ⟨0, by omega, rfl, HS.out⟩
  case round =>
    obtain ⟨i, hig, rfl, hS⟩ := hrel
    clear HS
    by_cases hlt : i < 2
    · have HS0 := Lib.hid hS
      clear hS
      go_wp2_with fail
      refine (GetEntry_st S HFS.out HS0.out).mono ?_
      clear HS0
      rintro e w3 ⟨A, E2, rfl, HA, hS⟩
      have hEE : E2 = E ∧ A.bytes = X.bytes ∧ A.bytes.length ≤ S.size + 500 := by
        rcases HX.out.2 with ⟨h1, h2, h3⟩ | ⟨h1, h2, h3⟩ <;> rcases HA.out.2 with ⟨g1, g2, g3⟩ | ⟨g1, g2, g3⟩
        · exact ⟨by rw [g1, h1], by rw [g3, h3], by rw [g3, toList_size]; omega⟩
        · exact absurd h2 g2
        · exact absurd g2 h2
        · exact ⟨by rw [g1, h1], by rw [g3, h3], by rw [g3]; exact Nat.le_trans Ent.zero_len (by omega)⟩
      obtain ⟨rfl, hby, hle⟩ := hEE
      have hbE : (E2 == E2) = true := by simp
      have hbE' : (E2 != E2) = false := by simp
      have HS := Lib.hid (hS.box1 #[.int .i64 0, .int .i64 0, .int .i64 0, .int .i64 0, .string ⟨#[]⟩, .string ⟨#[]⟩, .slice none 0 0, .int .i64 0, .int .i64 0, .int .i64 0, .slice none 0 0] 39)
      clear hS
      go_upto_region 6 with ((with_reducible refine at_list ?_); refine wpList_store_whole 11 sizeEnt w3.heap.size rfl _ _ (HS.out.box 0 rfl) rfl A.cells rfl rfl (by kernel_rfl) ?_; intro w4 hg4 hM4 hz4)
      have hS : St w w4 (bx w3.heap.size A.cells.toArray 39 :: grp (Ent.things A) :: bx xb X.cells.toArray 39 :: grp (Ent.things X) :: []) := HS.out.rebox 0 rfl hg4 hM4
      clear HS hg4 hM4 hz4
      generalize w3.heap.size = ab at *
      have hokA : A.ok w4 := Ent.okL HA.out.1 (hS.lies (by simp))
      have hokX : X.ok w4 := Ent.okL HX.out.1 (hS.lies (by simp))
      obtain ⟨Bt, hBt⟩ : ∃ Bt, ByteArray.mk X.bytes.toArray = Bt := ⟨_, rfl⟩
      have CA : Hid (∀ w', Mod (fun _ => False) w4 w' → Calls Tryz.prog 21 #[.agg A.cells.toArray] w' (fun e w'' => e = .returned (.string Bt) ∧ Mod (fun _ => False) w' w'')) := Lib.hid fun w' h => by
        rw [← hBt, ← hby]; exact rPutEntry_any A w' (Ent.okmod hokA h) (by have := HF.out; unfold bfits at this ⊢; omega)
      have CX : Hid (∀ w', Mod (fun _ => False) w4 w' → Calls Tryz.prog 21 #[.agg X.cells.toArray] w' (fun e w'' => e = .returned (.string Bt) ∧ Mod (fun _ => False) w' w'')) := Lib.hid fun w' h => by
        rw [← hBt]; exact rPutEntry_any X w' (Ent.okmod hokX h) (by have := HF.out; unfold bfits at this ⊢; rw [← hby]; omega)
      have hBB : (Bt.toList == Bt.toList) = true := by simp
      have CO : Hid (∀ w', Mod (fun _ => False) w4 w' → Calls Tryz.prog 22 #[.agg A.cells.toArray] w' (fun e w'' => e = .returned (.tuple #[]) ∧ St w w'' (bx ab A.cells.toArray 39 :: bx xb X.cells.toArray 39 :: grp (Ent.things X) :: []))) := Lib.hid fun w' h => overEntry_st A HA.out.1.2.2.1 HA.out.1.2.2.2.2 HA.out.1.2.1.2.2.2.2.2 ((hS.mod h).swap)
      clear hokA hokX hBt hby hle HA HX
      generalize hXC : X.cells = XC at *
      obtain ⟨azx, ase, axi, ⟨akind, apath, adata, aacl, aaclA, aaclC, aowner, anumber, aerr, asubsA, asubsN, asubsC⟩, aL⟩ := A
      have hX := hXC
      obtain ⟨xzx, xse, xxi, ⟨xkind, xpath, xdata, xacl, xaclA, xaclC, xowner, xnumber, xerr, xsubsA, xsubsN, xsubsC⟩, xL⟩ := X
      subst hXC
      simp only [Ent.cells] at CA CX CO hS hX ⊢
      have c0 : w4.cell? ⟨ab, 0, none⟩ = some (.int .i64 azx) := blk_cell (hS.box 0 rfl) 0 _ rfl
      have c1 : w4.cell? ⟨ab, 1, none⟩ = some (.int .i64 ase) := blk_cell (hS.box 0 rfl) 1 _ rfl
      have c2 : w4.cell? ⟨ab, 2, none⟩ = some (.int .i64 axi) := blk_cell (hS.box 0 rfl) 2 _ rfl
      have c3 : w4.cell? ⟨ab, 3, none⟩ = some (.int .i64 akind) := blk_cell (hS.box 0 rfl) 3 _ rfl
      have c4 : w4.cell? ⟨ab, 4, none⟩ = some (.string apath) := blk_cell (hS.box 0 rfl) 4 _ rfl
      have c5 : w4.cell? ⟨ab, 5, none⟩ = some (.string adata) := blk_cell (hS.box 0 rfl) 5 _ rfl
      have c6 : w4.cell? ⟨ab, 6, none⟩ = some (.slice aaclA aacl.length aaclC) := blk_cell (hS.box 0 rfl) 6 _ rfl
      have c7 : w4.cell? ⟨ab, 7, none⟩ = some (.int .i64 aowner) := blk_cell (hS.box 0 rfl) 7 _ rfl
      have c8 : w4.cell? ⟨ab, 8, none⟩ = some (.int .i64 anumber) := blk_cell (hS.box 0 rfl) 8 _ rfl
      have c9 : w4.cell? ⟨ab, 9, none⟩ = some (.int .i64 aerr) := blk_cell (hS.box 0 rfl) 9 _ rfl
      have c10 : w4.cell? ⟨ab, 10, none⟩ = some (.slice asubsA asubsN asubsC) := blk_cell (hS.box 0 rfl) 10 _ rfl
      have d0 : w4.cell? ⟨xb, 0, none⟩ = some (.int .i64 xzx) := blk_cell (hS.box 2 rfl) 0 _ rfl
      have d1 : w4.cell? ⟨xb, 1, none⟩ = some (.int .i64 xse) := blk_cell (hS.box 2 rfl) 1 _ rfl
      have d2 : w4.cell? ⟨xb, 2, none⟩ = some (.int .i64 xxi) := blk_cell (hS.box 2 rfl) 2 _ rfl
      have d3 : w4.cell? ⟨xb, 3, none⟩ = some (.int .i64 xkind) := blk_cell (hS.box 2 rfl) 3 _ rfl
      have d4 : w4.cell? ⟨xb, 4, none⟩ = some (.string xpath) := blk_cell (hS.box 2 rfl) 4 _ rfl
      have d5 : w4.cell? ⟨xb, 5, none⟩ = some (.string xdata) := blk_cell (hS.box 2 rfl) 5 _ rfl
      have d6 : w4.cell? ⟨xb, 6, none⟩ = some (.slice xaclA xacl.length xaclC) := blk_cell (hS.box 2 rfl) 6 _ rfl
      have d7 : w4.cell? ⟨xb, 7, none⟩ = some (.int .i64 xowner) := blk_cell (hS.box 2 rfl) 7 _ rfl
      have d8 : w4.cell? ⟨xb, 8, none⟩ = some (.int .i64 xnumber) := blk_cell (hS.box 2 rfl) 8 _ rfl
      have d9 : w4.cell? ⟨xb, 9, none⟩ = some (.int .i64 xerr) := blk_cell (hS.box 2 rfl) 9 _ rfl
      have d10 : w4.cell? ⟨xb, 10, none⟩ = some (.slice xsubsA xsubsN xsubsC) := blk_cell (hS.box 2 rfl) 10 _ rfl
      have KP : Hid (∀ w', Mod (fun _ => False) w4 w' → w'.cell? ⟨ab, 0, none⟩ = some (.int .i64 azx) ∧ w'.cell? ⟨ab, 1, none⟩ = some (.int .i64 ase) ∧ w'.cell? ⟨ab, 2, none⟩ = some (.int .i64 axi) ∧ w'.cell? ⟨ab, 3, none⟩ = some (.int .i64 akind) ∧ w'.cell? ⟨ab, 4, none⟩ = some (.string apath) ∧ w'.cell? ⟨ab, 5, none⟩ = some (.string adata) ∧ w'.cell? ⟨ab, 6, none⟩ = some (.slice aaclA aacl.length aaclC) ∧ w'.cell? ⟨ab, 7, none⟩ = some (.int .i64 aowner) ∧ w'.cell? ⟨ab, 8, none⟩ = some (.int .i64 anumber) ∧ w'.cell? ⟨ab, 9, none⟩ = some (.int .i64 aerr) ∧ w'.cell? ⟨ab, 10, none⟩ = some (.slice asubsA asubsN asubsC) ∧ w'.cell? ⟨xb, 0, none⟩ = some (.int .i64 xzx) ∧ w'.cell? ⟨xb, 1, none⟩ = some (.int .i64 xse) ∧ w'.cell? ⟨xb, 2, none⟩ = some (.int .i64 xxi) ∧ w'.cell? ⟨xb, 3, none⟩ = some (.int .i64 xkind) ∧ w'.cell? ⟨xb, 4, none⟩ = some (.string xpath) ∧ w'.cell? ⟨xb, 5, none⟩ = some (.string xdata) ∧ w'.cell? ⟨xb, 6, none⟩ = some (.slice xaclA xacl.length xaclC) ∧ w'.cell? ⟨xb, 7, none⟩ = some (.int .i64 xowner) ∧ w'.cell? ⟨xb, 8, none⟩ = some (.int .i64 xnumber) ∧ w'.cell? ⟨xb, 9, none⟩ = some (.int .i64 xerr) ∧ w'.cell? ⟨xb, 10, none⟩ = some (.slice xsubsA xsubsN xsubsC)) := Lib.hid fun w' h => ⟨h.cell c0 id, h.cell c1 id, h.cell c2 id, h.cell c3 id, h.cell c4 id, h.cell c5 id, h.cell c6 id, h.cell c7 id, h.cell c8 id, h.cell c9 id, h.cell c10 id, h.cell d0 id, h.cell d1 id, h.cell d2 id, h.cell d3 id, h.cell d4 id, h.cell d5 id, h.cell d6 id, h.cell d7 id, h.cell d8 id, h.cell d9 id, h.cell d10 id⟩
      have hza := heap_lt (hS.box 0 rfl)
      have hzx := heap_lt (hS.box 2 rfl)
      clear hS hX
      go_region_held3 (fun w' => w'.cell? ⟨ab, 0, none⟩ = some (.int .i64 azx) ∧ w'.cell? ⟨ab, 1, none⟩ = some (.int .i64 ase) ∧ w'.cell? ⟨ab, 2, none⟩ = some (.int .i64 axi) ∧ w'.cell? ⟨ab, 3, none⟩ = some (.int .i64 akind) ∧ w'.cell? ⟨ab, 4, none⟩ = some (.string apath) ∧ w'.cell? ⟨ab, 5, none⟩ = some (.string adata) ∧ w'.cell? ⟨ab, 6, none⟩ = some (.slice aaclA aacl.length aaclC) ∧ w'.cell? ⟨ab, 7, none⟩ = some (.int .i64 aowner) ∧ w'.cell? ⟨ab, 8, none⟩ = some (.int .i64 anumber) ∧ w'.cell? ⟨ab, 9, none⟩ = some (.int .i64 aerr) ∧ w'.cell? ⟨ab, 10, none⟩ = some (.slice asubsA asubsN asubsC) ∧ w'.cell? ⟨xb, 0, none⟩ = some (.int .i64 xzx) ∧ w'.cell? ⟨xb, 1, none⟩ = some (.int .i64 xse) ∧ w'.cell? ⟨xb, 2, none⟩ = some (.int .i64 xxi) ∧ w'.cell? ⟨xb, 3, none⟩ = some (.int .i64 xkind) ∧ w'.cell? ⟨xb, 4, none⟩ = some (.string xpath) ∧ w'.cell? ⟨xb, 5, none⟩ = some (.string xdata) ∧ w'.cell? ⟨xb, 6, none⟩ = some (.slice xaclA xacl.length xaclC) ∧ w'.cell? ⟨xb, 7, none⟩ = some (.int .i64 xowner) ∧ w'.cell? ⟨xb, 8, none⟩ = some (.int .i64 xnumber) ∧ w'.cell? ⟨xb, 9, none⟩ = some (.int .i64 xerr) ∧ w'.cell? ⟨xb, 10, none⟩ = some (.slice xsubsA xsubsN xsubsC))
        (first | (refine KP.out _ ?_; with_reducible (repeat (first | exact Mod.refl _ _ | refine Mod.drew ?_ | refine Mod.drewN ?_ _ | refine Mod.alloc ?_ _ | refine Mod.back (by assumption) ?_))))
        ((first
          | (go_at_call 21; refine (CA.out _ (by with_reducible (repeat (first | exact Mod.refl _ _ | refine Mod.drew ?_ | refine Mod.drewN ?_ _ | refine Mod.alloc ?_ _ | refine Mod.back (by assumption) ?_)))).mono ?_; rintro e v0 ⟨rfl, hM0⟩; clear CA)
          | (go_at_call 21; refine (CX.out _ (by with_reducible (repeat (first | exact Mod.refl _ _ | refine Mod.drew ?_ | refine Mod.drewN ?_ _ | refine Mod.alloc ?_ _ | refine Mod.back (by assumption) ?_)))).mono ?_; rintro e v1 ⟨rfl, hM1⟩; clear CX)))
      have HM : Hid (Mod (fun _ => False) w4 v1) := Lib.hid (by with_reducible (repeat (first | exact Mod.refl _ _ | refine Mod.drew ?_ | refine Mod.drewN ?_ _ | refine Mod.alloc ?_ _ | refine Mod.back (by assumption) ?_)))
      have CO1 := Lib.hid (CO.out v1 HM.out)
      clear c0 d0 c1 d1 c2 d2 c3 d3 c4 d4 c5 d5 c6 d6 c7 d7 c8 d8 c9 d9 c10 d10
      obtain ⟨c0, c1, c2, c3, c4, c5, c6, c7, c8, c9, c10, _, _, _, _, _, _, _, _, _, _, _⟩ := KP.out v1 HM.out
      clear KP hM0 hM1 hza hzx HM CO
      go_wp2_with (go_at_call 22; refine CO1.out.mono ?_; rintro e w5 ⟨rfl, hS⟩; clear c0 c1 c2 c3 c4 c5 c6 c7 c8 c9 c10)
      go_roundg (2 - (i + 1))
      case measure => omega
      case rel => exact ⟨i + 1, by omega, by simp, hS.tail⟩
    · go_wp2
      go_ret
      exact ⟨rfl, hS.1⟩
end Go.Proofs.YtmbkbkfcbloafaaGreat
