/-
  Any bytes as a message: the law's Message.
  Conditions: the bytes fit.
-/
import Derived.Test.YtmbkbkfcbloafaaGreatWireMd
import Derived.Test.YtmbkbkfcbloafaaGreatWireMc
import Derived.Test.YtmbkbkfcbloafaaGreatWireLawE
import Derived.Test.YtmbkbkfcbloafaaGreatWireLawQ
import Derived.Deep.Cut
namespace Go.Proofs.YtmbkbkfcbloafaaGreat
open Go.RowKit
set_option linter.unusedSectionVars false
set_option linter.unusedSimpArgs false
set_option linter.unusedVariables false
set_option maxRecDepth 100000

theorem Msg.okL {w0 w : World} {x : Msg} (hx : x.fine) (hl : Lies w0 w (grp (Msg.things x))) : x.ok w where
  kind := hx.1.1
  epoch := hx.1.2.1
  zxid := hx.1.2.2.1
  number := hx.1.2.2.2.1
  session := hx.1.2.2.2.2
  mrd := (hl.grp (t := sl 3 1 x.marksA x.marks.length x.marksC (x.marks.flatMap intC)) (by simp [Msg.things])).rd
  mall := hx.2.1.1
  erd := (hl.grp (t := sl 39 11 x.entsA x.ents.length x.entsC (x.ents.flatMap Ent.cells)) (by simp [Msg.things])).rd
  eall := fun a ha => Ent.okL (hx.2.2.1.1 a ha) (by
    have h1 := hl.grp (t := grp (x.ents.map fun x => grp (Ent.things x))) (by simp [Msg.things])
    exact h1.grp (List.mem_map.2 ⟨a, ha, rfl⟩))
  q := Req.okL hx.2.2.2.1 (hl.grp (by simp [Msg.things]))
  ird := (hl.grp (t := sl 9 1 x.idsA x.ids.length x.idsC (x.ids.flatMap strC)) (by simp [Msg.things])).rd
theorem yields_chunk {P : Program} {ops : Array Oper} {S : World → Prop} {o : Oper} {a : Act} {ty : TypeId} {x : Operand} (k : Nat) (d : TypeDesc) (hw : Region.wanted o (yielded ops a.tmps) = true) (ho : o.op = .load ty x)
    (hu : P.underlying ty = some d) (hd : (match d with | .struct _ | .array _ _ => true | _ => false) = true) (hi : (P.info? ty).map (·.size) = some k) (b : Nat) (hx : a.eval x = .pointer (some ⟨b, 0, none⟩)) (cs : List Value) (hl : cs.length = k) (T : TypeId)
    (hS : ∀ w, S w → w.heap[b]? = some (.cells cs.toArray T (0, 0))) : YieldsIf P ops S o (.agg cs.toArray) a :=
  Or.inl ⟨hw, fun w h => by
    have hr := run_loadAt_chunk (P := P) w ty k d hu hd hi ⟨b, 0, none⟩ cs hl (box_chunk (hS w h))
    unfold execOp
    simp only [ho, hx, Sem.run_bind, Sem.run_pure, hr, Result.andThen_ok]⟩
theorem Msg.zero_len : Msg.zero.bytes.length ≤ 500 := of_decide_eq_true (by kernel_rfl)
theorem St.pull4 {w0 w : World} {a b c d t : Thing} {us l : List Thing} (h : St w0 w (a :: b :: c :: d :: grp (t :: us) :: l)) : St w0 w (t :: a :: b :: c :: d :: grp us :: l) := by
  have h1 : St w0 w (grp (t :: us) :: a :: b :: c :: d :: l) := h.perm (List.perm_append_comm_assoc [a, b, c, d] [_] l)
  have h2 : St w0 w (t :: (us ++ (a :: b :: c :: d :: l))) := h1.ungrp
  exact (St.regrp1 us h2).perm (.cons _ (List.perm_append_comm_assoc [grp us] [a, b, c, d] l))

set_option maxHeartbeats 16000000 in
theorem message_any (S : ByteArray) (hf : bfits (S.size + 1000)) (w : World) : Calls Tryz.prog 9 #[.string S] w (ValPost (.bool true) w) := by
  have hfS : bfits S.size := hf.mono (by omega)
  have HFS := Lib.hid hfS
  have HF := Lib.hid hf
  clear hf hfS
  go_enter Tryz.func9, Tryz.ntmps9
  go_wp2_with fail
  refine (rGetMessage_st S HFS.out (St.start w)).mono ?_
  rintro e w1 ⟨X, E, rfl, HX, hS⟩
  have HS := Lib.hid (hS.box1 #[.int .i64 0, .int .i64 0, .int .i64 0, .int .i64 0, .int .i64 0, .slice none 0 0, .string ⟨#[]⟩, .slice none 0 0, .int .i64 0, .int .i64 0, .string ⟨#[]⟩, .string ⟨#[]⟩, .slice none 0 0, .int .i64 0, .int .i64 0, .bool false, .slice none 0 0, .slice none 0 0, .slice none 0 0] 33)
  clear hS
  go_wp2_with ((with_reducible refine at_list ?_); refine wpList_store_whole 19 sizeMsg w1.heap.size rfl _ _ (HS.out.box 0 rfl) rfl X.cells rfl rfl (by kernel_rfl) ?_; intro w2 hg2 hM2 hz2)
  have hS : St w w2 (bx w1.heap.size X.cells.toArray 33 :: grp (Msg.things X) :: []) := HS.out.rebox 0 rfl hg2 hM2
  clear HS hg2 hM2 hz2
  generalize w1.heap.size = xb at *
  have HS := Lib.hid hS
  clear hS
  go_loopg [5, 6, 7, 8, 9, 10] 2 (fun g y z6 z7 z8 z9 z10 wr => ∃ i : Nat, i + g = 2 ∧ y = .int .i64 i ∧ St w wr (bx xb X.cells.toArray 33 :: grp (Msg.things X) :: []))
  case atStart => exact ⟨0, by omega, rfl, HS.out⟩
  case round =>
    obtain ⟨i, hig, rfl, hS⟩ := hrel
    clear HS
    by_cases hlt : i < 2
    · have HS0 := Lib.hid hS
      clear hS
      go_wp2_with fail
      refine (GetMessage_st S HFS.out HS0.out).mono ?_
      clear HS0
      rintro e w3 ⟨A, E2, rfl, HA, hS⟩
      have hEE : E2 = E ∧ A.bytes = X.bytes ∧ A.bytes.length ≤ S.size + 500 := by
        rcases HX.out.2 with ⟨h1, h2, h3⟩ | ⟨h1, h2, h3⟩ <;> rcases HA.out.2 with ⟨g1, g2, g3⟩ | ⟨g1, g2, g3⟩
        · exact ⟨by rw [g1, h1], by rw [g3, h3], by rw [g3, toList_size]; omega⟩
        · exact absurd h2 g2
        · exact absurd g2 h2
        · exact ⟨by rw [g1, h1], by rw [g3, h3], by rw [g3]; exact Nat.le_trans Msg.zero_len (by omega)⟩
      obtain ⟨rfl, hby, hle⟩ := hEE
      have hbE : (E2 == E2) = true := by simp
      have hbE' : (E2 != E2) = false := by simp
      have HS := Lib.hid (hS.box1 #[.int .i64 0, .int .i64 0, .int .i64 0, .int .i64 0, .int .i64 0, .slice none 0 0, .string ⟨#[]⟩, .slice none 0 0, .int .i64 0, .int .i64 0, .string ⟨#[]⟩, .string ⟨#[]⟩, .slice none 0 0, .int .i64 0, .int .i64 0, .bool false, .slice none 0 0, .slice none 0 0, .slice none 0 0] 33)
      clear hS
      go_upto_region 6 with ((with_reducible refine at_list ?_); refine wpList_store_whole 19 sizeMsg w3.heap.size rfl _ _ (HS.out.box 0 rfl) rfl A.cells rfl rfl (by kernel_rfl) ?_; intro w4 hg4 hM4 hz4)
      have hS : St w w4 (bx w3.heap.size A.cells.toArray 33 :: grp (Msg.things A) :: bx xb X.cells.toArray 33 :: grp (Msg.things X) :: []) := HS.out.rebox 0 rfl hg4 hM4
      clear HS hg4 hM4 hz4
      generalize w3.heap.size = ab at *
      have hokA : A.ok w4 := Msg.okL HA.out.1 (hS.lies (by simp))
      have hokX : X.ok w4 := Msg.okL HX.out.1 (hS.lies (by simp))
      obtain ⟨Bt, hBt⟩ : ∃ Bt, ByteArray.mk X.bytes.toArray = Bt := ⟨_, rfl⟩
      have CA : Hid (∀ w', Mod (fun _ => False) w4 w' → Calls Tryz.prog 14 #[.agg A.cells.toArray] w' (fun e w'' => e = .returned (.string Bt) ∧ Mod (fun _ => False) w' w'')) := Lib.hid fun w' h => by
        rw [← hBt, ← hby]; exact rPutMessage_any A w' (Msg.okmod hokA h) (by have := HF.out; unfold bfits at this ⊢; omega)
      have CX : Hid (∀ w', Mod (fun _ => False) w4 w' → Calls Tryz.prog 14 #[.agg X.cells.toArray] w' (fun e w'' => e = .returned (.string Bt) ∧ Mod (fun _ => False) w' w'')) := Lib.hid fun w' h => by
        rw [← hBt]; exact rPutMessage_any X w' (Msg.okmod hokX h) (by have := HF.out; unfold bfits at this ⊢; rw [← hby]; omega)
      have hBB : (Bt.toList == Bt.toList) = true := by simp
      have HFA := Lib.hid HA.out.1
      clear hokA hokX hBt hby hle HA HX
      have hA5 : A.cells.toArray[5]? = some (.slice A.marksA A.marks.length A.marksC) := rfl
      have hA7 : A.cells.toArray[7]? = some (.slice A.entsA A.ents.length A.entsC) := rfl
      have hA18 : A.cells.toArray[18]? = some (.slice A.idsA A.ids.length A.idsC) := rfl
      have hAl : A.cells.length = 19 := rfl
      have hXl : X.cells.length = 19 := rfl
      generalize hgX : grp (Msg.things X) = gX at *
      generalize hXC : X.cells = XC at *
      generalize hAC : A.cells = AC at *
      clear hgX hXC hAC
      have HA5 := Lib.hid hA5
      have HA7 := Lib.hid hA7
      have HA18 := Lib.hid hA18
      have HLN := Lib.hid (And.intro hAl hXl)
      clear hA5 hA7 hA18 hAl hXl
      have HS := Lib.hid hS
      have KS : Hid (∀ w', Mod (fun _ => False) w4 w' → w'.heap[ab]? = some (.cells AC.toArray 33 (0, 0)) ∧ w'.heap[xb]? = some (.cells XC.toArray 33 (0, 0))) := Lib.hid fun w' h => ⟨h.heap (hS.box 0 rfl) id, h.heap (hS.box 2 rfl) id⟩
      clear hS
      refine wp_region_held_drew (S := fun w' => w'.heap[ab]? = some (.cells AC.toArray 33 (0, 0)) ∧ w'.heap[xb]? = some (.cells XC.toArray 33 (0, 0))) (by kernel_rfl) (KS.out _ (Mod.refl _ _).drew) (fun hHeld => ?_)
      refine wpAnyH_take (i := 0) (oi := _) (v := ?_) rfl (by kernel_rfl) (by kernel_rfl) (by kernel_rfl) (fun _ _ _ h => h) (Or.inl ⟨by rfl, ?_⟩) hHeld ?_
      rotate_left
      · intro wq hSw; (try dsimp only at hSw); go_simp; try with_reducible rfl
      try simp only [Act.put, Nat.zero_add, List.setIfInBounds_toArray, List.set_cons_zero, List.set_cons_succ]
      refine wpAnyH_take (i := 1) (oi := _) (v := ?_) rfl (by kernel_rfl) (by kernel_rfl) (by kernel_rfl) (fun _ _ _ h => h) (Or.inl ⟨by rfl, ?_⟩) hHeld ?_
      rotate_left
      · intro wq hSw; (try dsimp only at hSw); go_simp; try with_reducible rfl
      try simp only [Act.put, Nat.zero_add, List.setIfInBounds_toArray, List.set_cons_zero, List.set_cons_succ]
      refine wpAnyH_take (i := 2) (oi := _) (v := ?_) rfl (by kernel_rfl) (by kernel_rfl) (by kernel_rfl) (fun _ _ _ h => h) (Or.inl ⟨by rfl, ?_⟩) hHeld ?_
      rotate_left
      · intro wq hSw; (try dsimp only at hSw); go_simp; try with_reducible rfl
      try simp only [Act.put, Nat.zero_add, List.setIfInBounds_toArray, List.set_cons_zero, List.set_cons_succ]
      refine wpAnyH_take (i := 3) (oi := _) (v := ?_) rfl (by kernel_rfl) (by kernel_rfl) (by kernel_rfl) (fun _ _ _ h => h) (Or.inl ⟨by rfl, ?_⟩) hHeld ?_
      rotate_left
      · intro wq hSw; (try dsimp only at hSw); go_simp; try with_reducible rfl
      try simp only [Act.put, Nat.zero_add, List.setIfInBounds_toArray, List.set_cons_zero, List.set_cons_succ]
      refine wpAnyH_take (i := 4) (oi := _) (v := _) rfl (by kernel_rfl) (by kernel_rfl) (by kernel_rfl) (fun _ _ _ h => h) (yields_chunk 19 _ (by rfl) rfl Tryz.underlying33 rfl sizeMsg ab (by rfl) AC HLN.out.1 33 (fun _ h => h.1)) hHeld ?_
      try simp only [Act.put, Nat.zero_add, List.setIfInBounds_toArray, List.set_cons_zero, List.set_cons_succ]
      refine wpAnyH_take (i := 6) (oi := _) (v := _) rfl (by kernel_rfl) (by kernel_rfl) (by kernel_rfl) (fun _ _ _ h => h) (yields_chunk 19 _ (by rfl) rfl Tryz.underlying33 rfl sizeMsg xb (by rfl) XC HLN.out.2 33 (fun _ h => h.2)) hHeld ?_
      try simp only [Act.put, Nat.zero_add, List.setIfInBounds_toArray, List.set_cons_zero, List.set_cons_succ]
      refine wpAnyH_ready (rs := [5]) (by kernel_rfl) (by simp) ?_
      refine AllReadyH.cons (o := ⟨some 30, .call _, _, _, _, _⟩) rfl (fun K hK => ?_) AllReadyH.nil
      go_simp
      refine (CA.out _ (Mod.refl _ _).drew).mono ?_
      rintro e v0 ⟨rfl, hM0⟩
      refine hK.out _ _ (KS.out _ ((Mod.refl _ _).drew.then hM0 (fun _ _ h => h))) (fun hHeld => ?_)
      clear hK K
      try simp only [Act.put, Nat.zero_add, List.setIfInBounds_toArray, List.set_cons_zero, List.set_cons_succ]
      refine wpAnyH_ready (rs := [7]) (by kernel_rfl) (by simp) ?_
      refine AllReadyH.cons (o := ⟨some 32, .call _, _, _, _, _⟩) rfl (fun K hK => ?_) AllReadyH.nil
      go_simp
      refine (CX.out _ ((Mod.refl _ _).drew.then hM0 (fun _ _ h => h))).mono ?_
      rintro e v1 ⟨rfl, hM1⟩
      refine hK.out _ _ (KS.out _ (((Mod.refl _ _).drew.then hM0 (fun _ _ h => h)).then hM1 (fun _ _ h => h))) (fun hHeld => ?_)
      clear hK K
      try simp only [Act.put, Nat.zero_add, List.setIfInBounds_toArray, List.set_cons_zero, List.set_cons_succ]
      refine wpAnyH_take (i := 8) (oi := _) (v := ?_) rfl (by kernel_rfl) (by kernel_rfl) (by kernel_rfl) (fun _ _ _ h => h) (Or.inl ⟨by rfl, ?_⟩) hHeld ?_
      rotate_left
      · intro wq hSw; (try dsimp only at hSw); go_simp; try with_reducible rfl
      try simp only [Act.put, Nat.zero_add, List.setIfInBounds_toArray, List.set_cons_zero, List.set_cons_succ]
      refine wpAnyH_take (i := 9) (oi := _) (v := ?_) rfl (by kernel_rfl) (by kernel_rfl) (by kernel_rfl) (fun _ _ _ h => h) (Or.inl ⟨by rfl, ?_⟩) hHeld ?_
      rotate_left
      · intro wq hSw; (try dsimp only at hSw); go_simp; try with_reducible rfl
      try simp only [Act.put, Nat.zero_add, List.setIfInBounds_toArray, List.set_cons_zero, List.set_cons_succ]
      refine wpAnyH_done (by kernel_rfl) ?_ _
      have HM : Hid (Mod (fun _ => False) w4 v1) := Lib.hid (((Mod.refl _ _).drew.then hM0 (fun _ _ h => h)).then hM1 (fun _ _ h => h))
      have HS1 := Lib.hid (HS.out.mod HM.out)
      clear KS hM0 hM1 HS HM CA CX
      obtain ⟨nm, hnm⟩ : ∃ n, A.marks.length = n := ⟨_, rfl⟩
      obtain ⟨ne, hne⟩ : ∃ n, A.ents.length = n := ⟨_, rfl⟩
      obtain ⟨ni, hni⟩ : ∃ n, A.ids.length = n := ⟨_, rfl⟩
      obtain ⟨mA, hmA⟩ : ∃ a, A.marksA = a := ⟨_, rfl⟩
      obtain ⟨eA, heA⟩ : ∃ a, A.entsA = a := ⟨_, rfl⟩
      obtain ⟨iA, hiA⟩ : ∃ a, A.idsA = a := ⟨_, rfl⟩
      obtain ⟨g0, gq, g1, hS⟩ : ∃ g0 gq g1, St w v1 (sl 9 1 A.idsA A.ids.length A.idsC (A.ids.flatMap strC) :: g0 :: gq :: sl 39 11 A.entsA A.ents.length A.entsC (A.ents.flatMap Ent.cells) :: grp (A.ents.map fun a => grp (Ent.things a)) :: sl 3 1 A.marksA A.marks.length A.marksC (A.marks.flatMap intC) :: g1 :: bx ab AC.toArray 33 :: bx xb XC.toArray 33 :: gX :: []) := ⟨_, _, _, HS1.out.swap.ungrp⟩
      rw [hnm, hne, hni, hmA, heA, hiA] at hS
      have hlm : nm ≤ 256 := by rw [← hnm]; exact HFA.out.2.1.2
      have hle : ne ≤ 256 := by rw [← hne]; exact HFA.out.2.2.1.2
      have hli : ni ≤ 256 := by rw [← hni]; exact HFA.out.2.2.2.2
      have HFE : Hid (∀ t ∈ A.ents, Ent.fine t) := Lib.hid HFA.out.2.2.1.1
      have HNE := Lib.hid hne
      obtain ⟨cm0, hcm⟩ : ∃ c, A.marks.flatMap intC = c := ⟨_, rfl⟩
      obtain ⟨ci0, hci⟩ : ∃ c, A.ids.flatMap strC = c := ⟨_, rfl⟩
      rw [hcm, hci] at hS
      have HS := Lib.hid hS
      have h5 := HA5.out
      have h7 := HA7.out
      have h18 := HA18.out
      rw [hnm, hmA] at h5
      rw [hne, heA] at h7
      rw [hni, hiA] at h18
      clear HA5 HA7 HA18
      have HA5 := Lib.hid h5
      have HA7 := Lib.hid h7
      have HA18 := Lib.hid h18
      clear HS1 hS HFA hnm hne hni hcm hci h5 h7 h18 hmA heA hiA
      have c5 := blk_cell (HS.out.box 7 rfl) 5 _ HA5.out
      have c7 := blk_cell (HS.out.box 7 rfl) 7 _ HA7.out
      have c18 := blk_cell (HS.out.box 7 rfl) 18 _ HA18.out
      have zab := heap_lt (HS.out.box 7 rfl)
      go_wp2_with fail
      go_loopg [8] nm (fun g y wr => ∃ (k : Nat) (cm : List Value), k + g = nm ∧ y = .int .i64 k ∧ St w wr (sl 9 1 iA ni A.idsC ci0 :: g0 :: gq :: sl 39 11 eA ne A.entsC (A.ents.flatMap Ent.cells) :: grp (A.ents.map fun a => grp (Ent.things a)) :: sl 3 1 mA nm A.marksC cm :: g1 :: bx ab AC.toArray 33 :: bx xb XC.toArray 33 :: gX :: []))
      case atStart => exact ⟨0, _, by omega, rfl, HS.out⟩
      case round =>
        obtain ⟨k, cm, hkg, rfl, hS⟩ := hrel
        clear HS c5 c7 c18 zab
        have c5 := blk_cell (hS.box 7 rfl) 5 _ HA5.out
        have zab := heap_lt (hS.box 7 rfl)
        by_cases hltk : k < nm
        · obtain ⟨b2, off2, c2, rfl, hg2, hfit2⟩ := (hS.slice 5 rfl).block (by omega)
          have hmc := (hS.slice 5 rfl).2.1
          have hz2 := heap_lt hg2
          have HS := Lib.hid hS
          have HG2 := Lib.hid hg2
          obtain ⟨u2, hu2⟩ : ∃ u, wr.cell? ⟨b2, off2 + k, none⟩ = some u := ⟨_, blk_cell hg2 (off2 + k) _ (Array.getElem?_eq_getElem (show off2 + k < c2.size by omega))⟩
          have hf2 := blk_free hg2 (off2 + k)
          obtain ⟨cr, hcr⟩ := Sl.put1 (hS.slice 5 rfl) hg2 hfit2 k (by omega) (.int .i64 (-1))
          have HS5 := Lib.hid (HS.out.reslice 5 rfl hcr ((Mod.refl _ wr).setCell _ _ (fun _ => rfl)))
          clear hS hg2 hfit2 hmc hcr HS HG2
          go_wp2
          go_roundg (nm - (k + 1))
          case measure => omega
          case rel => exact ⟨k + 1, _, by omega, by simp, HS5.out⟩
        · clear hkg
          have c7 := blk_cell (hS.box 7 rfl) 7 _ HA7.out
          have HS := Lib.hid hS
          clear hS
          go_wp2_with fail
          go_loopg [9] ne (fun g y wr => ∃ (i2 : Nat) (ce : List Value), i2 + g = ne ∧ y = .int .i64 i2 ∧ Hid (∀ j t m u, i2 ≤ j → A.ents[j]? = some t → (Ent.cells t)[m]? = some u → ce[j * 11 + m]? = some u) ∧ St w wr (sl 9 1 iA ni A.idsC ci0 :: g0 :: gq :: sl 39 11 eA ne A.entsC ce :: grp ((A.ents.drop i2).map fun a => grp (Ent.things a)) :: sl 3 1 mA nm A.marksC cm :: g1 :: bx ab AC.toArray 33 :: bx xb XC.toArray 33 :: gX :: []))
          case atStart => exact ⟨0, _, by omega, rfl, Lib.hid fun j t m u _ ht hu => flat_cell Ent.cells (fun _ => rfl) ht hu, HS.out⟩
          case round =>
            obtain ⟨i2, ce, hig2, rfl, HC, hS⟩ := hrel
            clear HS c5 c7 zab
            have c7 := blk_cell (hS.box 7 rfl) 7 _ HA7.out
            have zab := heap_lt (hS.box 7 rfl)
            by_cases hlt2 : i2 < ne
            · have hx : A.ents[i2]? = some (A.ents[i2]'(HNE.out ▸ hlt2)) := List.getElem?_eq_getElem _
              have hdr : A.ents.drop i2 = A.ents[i2]'(HNE.out ▸ hlt2) :: A.ents.drop (i2 + 1) := List.drop_eq_getElem_cons _
              obtain ⟨t, ht⟩ : ∃ t, A.ents[i2]'(HNE.out ▸ hlt2) = t := ⟨_, rfl⟩
              rw [ht] at hx hdr
              rw [hdr, List.map_cons] at hS
              have hft := HFE.out t (List.mem_of_getElem? hx)
              obtain ⟨b, off, cc, rfl, hg, hfit⟩ := (hS.slice 3 rfl).block (by omega)
              have HCC : Hid (∀ j u, (Ent.cells t)[j]? = some u → wr.cell? ((⟨b, off + i2 * 11, none⟩ : Addr).add j) = some u) := Lib.hid fun j u hj => by
                rw [add_none, Nat.add_assoc]
                obtain ⟨_, _, _, ⟨h0, _⟩ | ⟨y, hy, hcc⟩⟩ := (hS.slice 3 rfl).rd
                · cases h0
                · cases hy
                  have := hcc _ _ (HC.out i2 t j u (Nat.le_refl _) hx hj)
                  rw [add_none] at this
                  exact this
              have hzb := heap_lt hg
              have hmc := (hS.slice 3 rfl).2.1
              have HP := Lib.hid hS.pull4
              have HFT := Lib.hid hft
              clear hx hdr ht hg hfit hS hft
              go_wp2_with ((with_reducible refine at_list ?_); refine wpList_load_chunk 11 _ Tryz.underlying39 rfl sizeEnt ⟨b, off + i2 * 11, none⟩ rfl t.cells rfl HCC.out ?_)
              refine (overEntry_st t HFT.out.2.2.1 HFT.out.2.2.2.2 HFT.out.2.1.2.2.2.2.2 HP.out).mono ?_
              clear HP HCC c7 zab
              rintro e w5 ⟨rfl, hS⟩
              have c7 := blk_cell (hS.box 7 rfl) 7 _ HA7.out
              have zab := heap_lt (hS.box 7 rfl)
              obtain ⟨b2, off2, c2, he, hg2, hfit2⟩ := (hS.slice 3 rfl).block (by omega)
              simp only [Option.some.injEq, Addr.mk.injEq, and_true] at he
              obtain ⟨rfl, rfl⟩ := he
              have hz2 := heap_lt hg2
              have hcl : ce.length = ne * 11 := (hS.slice 3 rfl).1
              have HS := Lib.hid hS
              have HG2 := Lib.hid hg2
              have HFT2 := Lib.hid (show off + i2 * 11 + 11 ≤ c2.size by omega)
              have HPT := Lib.hid (show i2 * 11 + 11 ≤ ne * 11 by omega)
              have HCL := Lib.hid hcl
              clear hS hg2 hfit2 hmc hcl
              go_wp2_with ((with_reducible refine at_list ?_); refine wpList_store_chunk 11 sizeEnt b (off + i2 * 11) rfl _ _ HG2.out _ rfl [.int .i64 (-1), .int .i64 0, .int .i64 0, .int .i64 0, .string ⟨#[]⟩, .string ⟨#[]⟩, .slice none 0 0, .int .i64 0, .int .i64 0, .int .i64 0, .slice none 0 0] rfl rfl HFT2.out (by intro u hu; simp only [List.mem_cons, List.not_mem_nil, or_false] at hu; rcases hu with rfl | rfl | rfl | rfl | rfl | rfl | rfl | rfl | rfl | rfl | rfl <;> rfl) ?_; intro w6 hg6 hM6 hz6)
              have HS6 := Lib.hid (HS.out.reslice 3 rfl (Sl.put (HS.out.slice 3 rfl) HG2.out (i2 * 11) [.int .i64 (-1), .int .i64 0, .int .i64 0, .int .i64 0, .string ⟨#[]⟩, .string ⟨#[]⟩, .slice none 0 0, .int .i64 0, .int .i64 0, .int .i64 0, .slice none 0 0] HPT.out hg6) hM6)
              clear HS HG2 hg6 hM6 hz6
              go_roundg (ne - (i2 + 1))
              case measure => omega
              case rel =>
                refine ⟨i2 + 1, _, by omega, by simp, Lib.hid fun j t q u hj ht hu => ?_, HS6.out⟩
                have hq : q < 11 := (List.getElem?_eq_some_iff.1 hu).1
                rw [splice_after (by show i2 * 11 + 11 ≤ _; rw [HCL.out]; exact HPT.out) (by show i2 * 11 + 11 ≤ _; omega)]
                exact HC.out j t q u (by omega) ht hu
            · clear hig2 HC
              obtain ⟨ge, hge⟩ : ∃ g, grp ((A.ents.drop i2).map fun a => grp (Ent.things a)) = g := ⟨_, rfl⟩
              rw [hge] at hS
              have c18 := blk_cell (hS.box 7 rfl) 18 _ HA18.out
              have HS := Lib.hid hS
              clear hS hge
              go_wp2_with fail
              go_loopg [10] ni (fun g y wr => ∃ (k : Nat) (ci : List Value), k + g = ni ∧ y = .int .i64 k ∧ St w wr (sl 9 1 iA ni A.idsC ci :: g0 :: gq :: sl 39 11 eA ne A.entsC ce :: ge :: sl 3 1 mA nm A.marksC cm :: g1 :: bx ab AC.toArray 33 :: bx xb XC.toArray 33 :: gX :: []))
              case atStart => exact ⟨0, _, by omega, rfl, HS.out⟩
              case round =>
                obtain ⟨k3, ci, hkg3, rfl, hS⟩ := hrel
                clear HS c7 c18 zab
                have c18 := blk_cell (hS.box 7 rfl) 18 _ HA18.out
                have zab := heap_lt (hS.box 7 rfl)
                by_cases hlt3 : k3 < ni
                · obtain ⟨b2, off2, c2, rfl, hg2, hfit2⟩ := (hS.slice 0 rfl).block (by omega)
                  have hmc := (hS.slice 0 rfl).2.1
                  have hz2 := heap_lt hg2
                  have HS := Lib.hid hS
                  have HG2 := Lib.hid hg2
                  obtain ⟨u2, hu2⟩ : ∃ u, wr.cell? ⟨b2, off2 + k3, none⟩ = some u := ⟨_, blk_cell hg2 (off2 + k3) _ (Array.getElem?_eq_getElem (show off2 + k3 < c2.size by omega))⟩
                  have hf2 := blk_free hg2 (off2 + k3)
                  obtain ⟨cr, hcr⟩ := Sl.put1 (hS.slice 0 rfl) hg2 hfit2 k3 (by omega) (.string ⟨#[111, 118, 101, 114]⟩)
                  have HS5 := Lib.hid (HS.out.reslice 0 rfl hcr ((Mod.refl _ wr).setCell _ _ (fun _ => rfl)))
                  clear hS hg2 hfit2 hmc hcr HS HG2
                  go_wp2
                  go_roundg (ni - (k3 + 1))
                  case measure => omega
                  case rel => exact ⟨k3 + 1, _, by omega, by simp, HS5.out⟩
                · clear hkg3
                  go_wp2
                  go_roundg (2 - (i + 1))
                  case measure => omega
                  case rel => exact ⟨i + 1, by omega, by simp, (((hS.tail.tail.tail).tail.tail.tail).tail).tail⟩
    · go_wp2
      go_ret
      exact ⟨rfl, hS.1⟩
end Go.Proofs.YtmbkbkfcbloafaaGreat
