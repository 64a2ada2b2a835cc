/-
  WireMessages, walked: what is lent stays; what a message is laid as; what is read of that.
  Conditions: the message is laid as at most 20000000 bytes.
-/
import Derived.Test.YtmbkbkfcbloafaaGreatWireMs2
import Derived.Deep.CutBlock
import Derived.Deep.DeepCutAuto
namespace Go.Proofs.YtmbkbkfcbloafaaGreat
open Go.RowKit
set_option linter.unusedSectionVars false
set_option linter.unusedSimpArgs false
set_option linter.unusedVariables false
set_option maxRecDepth 100000

set_option maxHeartbeats 16000000 in
theorem wireMessages_walk (x : Msg) (w : World) (hx : x.ok w) (hb : x.bytes.length ≤ 20000000) : Calls Tryz.prog 4 #[.agg x.cells.toArray] w (ValPost (.bool true) w) := by
  obtain ⟨n, hn⟩ : ∃ n, x.marks.length = n := ⟨_, rfl⟩
  obtain ⟨m, hm⟩ : ∃ m, x.ents.length = m := ⟨_, rfl⟩
  obtain ⟨cM, hcM⟩ : ∃ c, x.marks.flatMap intC = c := ⟨_, rfl⟩
  have hom : ∀ u ∈ cM, u.oneCell' = true := by rw [← hcM]; exact int_one
  have hrm := hx.mrd
  rw [hn, hcM] at hrm
  have hre := hx.erd
  rw [hm] at hre
  have hnl : n ≤ 20000000 := by
    have h1 : x.marks.length ≤ (listB numB x.marks).length := listB_len _ numB_pos _
    unfold Msg.bytes at hb
    simp only [List.length_append] at hb
    omega
  have hml : m ≤ 20000000 := by
    have h1 : x.ents.length ≤ (listB Ent.bytes x.ents).length := listB_len _ Ent.bytes_pos _
    unfold Msg.bytes at hb
    simp only [List.length_append] at hb
    omega
  have hel : ∀ t ∈ x.ents, t.bytes.length ≤ 20000000 := fun t ht => by
    obtain ⟨k, hk⟩ := List.mem_iff_getElem?.1 ht
    have h1 := flat_take_le Ent.bytes hk
    unfold Msg.bytes listB at hb
    simp only [List.length_append] at hb
    omega
  have hS := (St.start w).box1 #[.int .i64 x.kind, .int .i64 x.epoch, .int .i64 x.zxid, .int .i64 x.number, .int .i64 x.session, .slice x.marksA n x.marksC, .string x.data, .slice x.entsA m x.entsC, .int .i64 x.q.q.kind, .int .i64 x.q.q.xid, .string x.q.q.path, .string x.q.q.data, .slice x.q.q.aclA x.q.q.acl.length x.q.q.aclC, .int .i64 x.q.q.flags, .int .i64 x.q.q.version, .bool x.q.q.watch, .slice x.q.q.subsA x.q.q.subsN x.q.q.subsC, .slice x.q.q.armedA x.q.q.armedN x.q.q.armedC, .slice x.idsA x.ids.length x.idsC] 33
  have HX := Lib.hid hx
  have HB := Lib.hid hb
  have HRM := Lib.hid hrm
  have HRE := Lib.hid hre
  have HOM := Lib.hid hom
  have HEL := Lib.hid hel
  have HNM := Lib.hid (And.intro hn (And.intro hm hcM))
  have HS := Lib.hid hS
  obtain ⟨ip, iz, hi1, hi2, hi3, hi4, hi5⟩ := info_row infoEnt
  have HI := Lib.hid (And.intro hi1 (And.intro hi2 (And.intro hi3 (And.intro hi4 hi5))))
  obtain ⟨jp, jz, hj1, hj2, hj3, hj4, hj5⟩ := info_row infoIntW
  have HJ := Lib.hid (And.intro hj1 (And.intro hj2 (And.intro hj3 (And.intro hj4 hj5))))
  simp only [Msg.cells, hn, hm]
  clear hx hb hn hm hcM hom hrm hre hel hS hi1 hi2 hi3 hi4 hi5 hj1 hj2 hj3 hj4 hj5
  go_enter Tryz.func4, Tryz.ntmps4
  go_upto_region 1 with fail
  generalize w.alloc (.cells #[.int .i64 x.kind, .int .i64 x.epoch, .int .i64 x.zxid, .int .i64 x.number, .int .i64 x.session, .slice x.marksA n x.marksC, .string x.data, .slice x.entsA m x.entsC, .int .i64 x.q.q.kind, .int .i64 x.q.q.xid, .string x.q.q.path, .string x.q.q.data, .slice x.q.q.aclA x.q.q.acl.length x.q.q.aclC, .int .i64 x.q.q.flags, .int .i64 x.q.q.version, .bool x.q.q.watch, .slice x.q.q.subsA x.q.q.subsN x.q.q.subsC, .slice x.q.q.armedA x.q.q.armedN x.q.q.armedC, .slice x.idsA x.ids.length x.idsC] 33) = W at *
  generalize w.heap.size = tb at *
  go_upto_region 3 with (first
    | (go_at_call 5; refine (awake_any _).mono ?_; rintro e w1 ⟨rfl, hM1⟩; have HS1 := Lib.hid (HS.out.mod hM1); have HS2 := Lib.hid (HS1.out.box1 #[.int .i64 0, .int .i64 0, .int .i64 0, .int .i64 0, .int .i64 0, .slice none 0 0, .string ⟨#[]⟩, .slice none 0 0, .int .i64 0, .int .i64 0, .string ⟨#[]⟩, .string ⟨#[]⟩, .slice none 0 0, .int .i64 0, .int .i64 0, .bool false, .slice none 0 0, .slice none 0 0, .slice none 0 0] 33); clear HS hM1)
    | ((with_reducible refine at_list ?_); refine wpList_load_chunk 19 _ Tryz.underlying33 rfl sizeMsg ⟨tb, 0, none⟩ rfl [.int .i64 x.kind, .int .i64 x.epoch, .int .i64 x.zxid, .int .i64 x.number, .int .i64 x.session, .slice x.marksA n x.marksC, .string x.data, .slice x.entsA m x.entsC, .int .i64 x.q.q.kind, .int .i64 x.q.q.xid, .string x.q.q.path, .string x.q.q.data, .slice x.q.q.aclA x.q.q.acl.length x.q.q.aclC, .int .i64 x.q.q.flags, .int .i64 x.q.q.version, .bool x.q.q.watch, .slice x.q.q.subsA x.q.q.subsN x.q.q.subsC, .slice x.q.q.armedA x.q.q.armedN x.q.q.armedC, .slice x.idsA x.ids.length x.idsC] rfl (box_chunk (cs := [.int .i64 x.kind, .int .i64 x.epoch, .int .i64 x.zxid, .int .i64 x.number, .int .i64 x.session, .slice x.marksA n x.marksC, .string x.data, .slice x.entsA m x.entsC, .int .i64 x.q.q.kind, .int .i64 x.q.q.xid, .string x.q.q.path, .string x.q.q.data, .slice x.q.q.aclA x.q.q.acl.length x.q.q.aclC, .int .i64 x.q.q.flags, .int .i64 x.q.q.version, .bool x.q.q.watch, .slice x.q.q.subsA x.q.q.subsN x.q.q.subsC, .slice x.q.q.armedA x.q.q.armedN x.q.q.armedC, .slice x.idsA x.ids.length x.idsC]) (HS1.out.box 0 rfl)) ?_)
    | ((with_reducible refine at_list ?_); refine wpList_store_whole 19 sizeMsg w1.heap.size rfl _ _ (HS2.out.box 0 rfl) rfl [.int .i64 x.kind, .int .i64 x.epoch, .int .i64 x.zxid, .int .i64 x.number, .int .i64 x.session, .slice x.marksA n x.marksC, .string x.data, .slice x.entsA m x.entsC, .int .i64 x.q.q.kind, .int .i64 x.q.q.xid, .string x.q.q.path, .string x.q.q.data, .slice x.q.q.aclA x.q.q.acl.length x.q.q.aclC, .int .i64 x.q.q.flags, .int .i64 x.q.q.version, .bool x.q.q.watch, .slice x.q.q.subsA x.q.q.subsN x.q.q.subsC, .slice x.q.q.armedA x.q.q.armedN x.q.q.armedC, .slice x.idsA x.ids.length x.idsC] rfl rfl (by kernel_rfl) ?_; intro w3 hg3 hM3 hz3; have HS3 := Lib.hid (HS2.out.rebox 0 rfl hg3 hM3); clear hg3 hM3 hz3 HS2; generalize w1.heap.size = ob at *))
  have hS : St w w3 (bx ob #[.int .i64 x.kind, .int .i64 x.epoch, .int .i64 x.zxid, .int .i64 x.number, .int .i64 x.session, .slice x.marksA n x.marksC, .string x.data, .slice x.entsA m x.entsC, .int .i64 x.q.q.kind, .int .i64 x.q.q.xid, .string x.q.q.path, .string x.q.q.data, .slice x.q.q.aclA x.q.q.acl.length x.q.q.aclC, .int .i64 x.q.q.flags, .int .i64 x.q.q.version, .bool x.q.q.watch, .slice x.q.q.subsA x.q.q.subsN x.q.q.subsC, .slice x.q.q.armedA x.q.q.armedN x.q.q.armedC, .slice x.idsA x.ids.length x.idsC] 33 :: bx tb #[.int .i64 x.kind, .int .i64 x.epoch, .int .i64 x.zxid, .int .i64 x.number, .int .i64 x.session, .slice x.marksA n x.marksC, .string x.data, .slice x.entsA m x.entsC, .int .i64 x.q.q.kind, .int .i64 x.q.q.xid, .string x.q.q.path, .string x.q.q.data, .slice x.q.q.aclA x.q.q.acl.length x.q.q.aclC, .int .i64 x.q.q.flags, .int .i64 x.q.q.version, .bool x.q.q.watch, .slice x.q.q.subsA x.q.q.subsN x.q.q.subsC, .slice x.q.q.armedA x.q.q.armedN x.q.q.armedC, .slice x.idsA x.ids.length x.idsC] 33 :: []) := HS3.out
  have HS := Lib.hid hS
  clear HS3 HS1 hS
  go_cut [] (fun wx => ∃ (am : Option Addr) (cm : Nat), St w wx (bx ob #[.int .i64 x.kind, .int .i64 x.epoch, .int .i64 x.zxid, .int .i64 x.number, .int .i64 x.session, .slice am n cm, .string x.data, .slice x.entsA m x.entsC, .int .i64 x.q.q.kind, .int .i64 x.q.q.xid, .string x.q.q.path, .string x.q.q.data, .slice x.q.q.aclA x.q.q.acl.length x.q.q.aclC, .int .i64 x.q.q.flags, .int .i64 x.q.q.version, .bool x.q.q.watch, .slice x.q.q.subsA x.q.q.subsN x.q.q.subsC, .slice x.q.q.armedA x.q.q.armedN x.q.q.armedC, .slice x.idsA x.ids.length x.idsC] 33 :: sl 3 1 am (n + 1) cm (cM ++ [.int .i64 77]) :: bx tb #[.int .i64 x.kind, .int .i64 x.epoch, .int .i64 x.zxid, .int .i64 x.number, .int .i64 x.session, .slice x.marksA n x.marksC, .string x.data, .slice x.entsA m x.entsC, .int .i64 x.q.q.kind, .int .i64 x.q.q.xid, .string x.q.q.path, .string x.q.q.data, .slice x.q.q.aclA x.q.q.acl.length x.q.q.aclC, .int .i64 x.q.q.flags, .int .i64 x.q.q.version, .bool x.q.q.watch, .slice x.q.q.subsA x.q.q.subsN x.q.q.subsC, .slice x.q.q.armedA x.q.q.armedN x.q.q.armedC, .slice x.idsA x.ids.length x.idsC] 33 :: []))
  case first =>
    have c5 := blk_cell (HS.out.box 1 rfl) 5 _ rfl
    refine wp_region_last_held (n := 10) (S := fun w' => w'.cell? ⟨tb, 5, none⟩ = some (.slice x.marksA n x.marksC)) (by kernel_rfl) rfl (by simp only [List.pop_toArray, List.dropLast_cons_cons, List.dropLast_singleton]; rfl) (by kernel_rfl) (by kernel_rfl) c5 (fun hHeld => ?_)
    have hS := HS.out.drew
    generalize w3.drew = V at hS hHeld ⊢
    clear HS c5
    have HS := Lib.hid hS
    clear hS
    refine wpAnyH_take (i := 0) (oi := _) (v := ?_) rfl (by kernel_rfl) (by kernel_rfl) (by kernel_rfl) (fun _ _ _ h => h) (Or.inl ⟨by rfl, ?_⟩) hHeld ?_
    rotate_left
    · intro wq hSw; (try dsimp only at hSw); go_simp; try with_reducible rfl
    try simp only [Act.put, Nat.zero_add, List.setIfInBounds_toArray, List.set_cons_zero, List.set_cons_succ]
    refine wpAnyH_take (i := 1) (oi := _) (v := ?_) rfl (by kernel_rfl) (by kernel_rfl) (by kernel_rfl) (fun _ _ _ h => h) (Or.inl ⟨by rfl, ?_⟩) hHeld ?_
    rotate_left
    · intro wq hSw; (try dsimp only at hSw); go_simp; try with_reducible rfl
    try simp only [Act.put, Nat.zero_add, List.setIfInBounds_toArray, List.set_cons_zero, List.set_cons_succ]
    refine wpAnyH_take (i := 5) (oi := _) (v := ?_) rfl (by kernel_rfl) (by kernel_rfl) (by kernel_rfl) (fun _ _ _ h => h) (Or.inl ⟨by rfl, ?_⟩) hHeld ?_
    rotate_left
    · intro wq hSw; (try dsimp only at hSw); go_simp; try with_reducible rfl
    try simp only [Act.put, Nat.zero_add, List.setIfInBounds_toArray, List.set_cons_zero, List.set_cons_succ]
    refine wpAnyH_take (i := 6) (oi := _) (v := ?_) rfl (by kernel_rfl) (by kernel_rfl) (by kernel_rfl) (fun _ _ _ h => h) (Or.inl ⟨by rfl, ?_⟩) hHeld ?_
    rotate_left
    · intro wq hSw; (try dsimp only at hSw); go_simp; try with_reducible rfl
    try simp only [Act.put, Nat.zero_add, List.setIfInBounds_toArray, List.set_cons_zero, List.set_cons_succ]
    refine wpAnyH_take (i := 7) (oi := _) (v := ?_) rfl (by kernel_rfl) (by kernel_rfl) (by kernel_rfl) (fun _ _ _ h => h) (Or.inl ⟨by rfl, ?_⟩) hHeld ?_
    rotate_left
    · intro wq hSw; (try dsimp only at hSw); go_simp; try with_reducible rfl
    try simp only [Act.put, Nat.zero_add, List.setIfInBounds_toArray, List.set_cons_zero, List.set_cons_succ]
    refine wpAnyH_ready (rs := [2, 3]) (by kernel_rfl) (by simp) ?_
    refine AllReadyH.cons (o := ⟨some 17, _, _, _, _, _⟩) rfl (fun K hK => ?_) (AllReadyH.cons (o := ⟨some 18, _, _, _, _, _⟩) rfl (fun K hK => ?_) (AllReadyH.nil))
    focus
      refine step_append rfl rfl 3 jp _ 1 8 (by kernel_rfl) HJ.out.1 HJ.out.2.1 HJ.out.2.2.1 HJ.out.2.2.2.1 HJ.out.2.2.2.2 none 0 0 [] (by rfl) (Sl.nil _ _ _) x.marksA n x.marksC cM (by rfl) (HS.out.old HRM.out) HOM.out ?h63 ?hb ?_
      case h63 => unfold maxLen; omega
      case hb => omega
      intro a7 cap7 w7 hS7 hM7 hF7 hN7 hR7
      have hS := (HS.out.nilSlice 3 1).regrow 0 rfl hS7 hM7 hF7
      simp only [List.set_cons_zero, Nat.zero_add, List.nil_append] at hS
      refine hK.out _ _ (blk_cell (hS.box 2 rfl) 5 _ rfl) (fun hHeld => ?_)
      clear hK K
      try simp only [Act.put, Nat.zero_add, List.setIfInBounds_toArray, List.set_cons_zero, List.set_cons_succ]
      clear HS hS7 hM7 hF7 hN7 hR7
      have HS := Lib.hid hS
      clear hS
      refine wpAnyH_ready (rs := [3]) (by kernel_rfl) (by simp) ?_
      refine AllReadyH.cons (o := ⟨some 18, _, _, _, _, _⟩) rfl (fun K hK => ?_) (AllReadyH.nil)
      have hS := HS.out.slice1 #[.int .i64 77] 3 1 1 rfl (by unfold maxLen; omega)
      go_simp
      refine hK.out _ _ (((Mod.refl (fun _ => False) _).alloc _).cell hHeld id) (fun hHeld => ?_)
      clear hK K
      try simp only [Act.put, Nat.zero_add, List.setIfInBounds_toArray, List.set_cons_zero, List.set_cons_succ]
      generalize w7.alloc (.cells #[.int .i64 77] 3) = V5 at hS hHeld ⊢
      generalize w7.heap.size = sb at hS ⊢
      clear HS
      have HS := Lib.hid hS
      clear hS
      refine wpAnyH_ready (rs := [4]) (by kernel_rfl) (by simp) ?_
      refine AllReadyH.cons (o := ⟨some 19, _, _, _, _, _⟩) rfl (fun K hK => ?_) (AllReadyH.nil)
      refine step_append rfl rfl 3 jp _ 1 8 (by kernel_rfl) HJ.out.1 HJ.out.2.1 HJ.out.2.2.1 HJ.out.2.2.2.1 HJ.out.2.2.2.2 a7 n cap7 cM (by rfl) (HS.out.slice 1 rfl) (some ⟨sb, 0, none⟩) 1 1 [.int .i64 77] (by rfl) (HS.out.slice 0 rfl).rd (by intro u hu; simp only [List.mem_cons, List.not_mem_nil, or_false] at hu; rcases hu with rfl <;> rfl) ?h63 ?hb ?_
      case h63 => unfold maxLen; omega
      case hb => omega
      intro a8 cap8 w8 hS8 hM8 hF8 hN8 hR8
      have hS := HS.out.regrow 1 rfl hS8 hM8 hF8
      simp only [List.set_cons_succ, List.set_cons_zero] at hS
      refine hK.out _ _ (blk_cell (hS.box 3 rfl) 5 _ rfl) (fun hHeld => ?_)
      clear hK K
      try simp only [Act.put, Nat.zero_add, List.setIfInBounds_toArray, List.set_cons_zero, List.set_cons_succ]
      clear HS hS8 hM8 hF8 hN8 hR8
      have HS := Lib.hid hS
      clear hS
      refine wpAnyH_ready (rs := [8]) (by kernel_rfl) (by simp) ?_
      refine AllReadyH.cons (o := ⟨some 23, _, _, _, _, _⟩) rfl (fun K hK => ?_) (AllReadyH.nil)
      have hcut := HS.out.slice 1 rfl
      refine step_upto rfl rfl 3 1 (by kernel_rfl) (by kernel_rfl) (by kernel_rfl) a8 (n + 1) cap8 n (by rfl) (by rfl) hcut.plain (by have := hcut.2.1; omega) hcut.2.2.1 ?_
      refine hK.out _ _ (hHeld) (fun hHeld => ?_)
      clear hK K
      try simp only [Act.put, Nat.zero_add, List.setIfInBounds_toArray, List.set_cons_zero, List.set_cons_succ]
      clear hcut
      refine wpAnyH_take (i := 9) (oi := _) (v := ?_) rfl (by kernel_rfl) (by kernel_rfl) (by kernel_rfl) (fun _ _ _ h => h) (Or.inl ⟨by rfl, ?_⟩) hHeld ?_
      rotate_left
      · intro wq hSw; (try dsimp only at hSw); go_simp; try with_reducible rfl
      try simp only [Act.put, Nat.zero_add, List.setIfInBounds_toArray, List.set_cons_zero, List.set_cons_succ]
      refine wpAnyH_done (by kernel_rfl) ?_ _
      have o5 := blk_cell (HS.out.box 2 rfl) 5 _ rfl
      have f5 := blk_free (HS.out.box 2 rfl) 5
      have z5 := heap_lt (HS.out.box 2 rfl)
      refine LastQ.step rfl rfl ?_
      go_simp
      have hS := HS.out.set 2 rfl 5 (.slice a8 n cap8)
      simp only [List.set_cons_succ, List.set_cons_zero, List.setIfInBounds_toArray] at hS
      have HSZ := Lib.hid (lent_a hS)
      clear HS o5 f5 z5 hHeld hS
      go_wp2
      go_meet
      exact ⟨a8, cap8, HSZ.out.perm (.cons _ (.swap _ _ _))⟩
    focus
      have hS := HS.out.slice1 #[.int .i64 77] 3 1 1 rfl (by unfold maxLen; omega)
      go_simp
      refine hK.out _ _ (((Mod.refl (fun _ => False) _).alloc _).cell hHeld id) (fun hHeld => ?_)
      clear hK K
      try simp only [Act.put, Nat.zero_add, List.setIfInBounds_toArray, List.set_cons_zero, List.set_cons_succ]
      generalize V.alloc (.cells #[.int .i64 77] 3) = V5 at hS hHeld ⊢
      generalize V.heap.size = sb at hS ⊢
      clear HS
      have HS := Lib.hid hS
      clear hS
      refine wpAnyH_ready (rs := [2]) (by kernel_rfl) (by simp) ?_
      refine AllReadyH.cons (o := ⟨some 17, _, _, _, _, _⟩) rfl (fun K hK => ?_) (AllReadyH.nil)
      refine step_append rfl rfl 3 jp _ 1 8 (by kernel_rfl) HJ.out.1 HJ.out.2.1 HJ.out.2.2.1 HJ.out.2.2.2.1 HJ.out.2.2.2.2 none 0 0 [] (by rfl) (Sl.nil _ _ _) x.marksA n x.marksC cM (by rfl) (HS.out.old HRM.out) HOM.out ?h63 ?hb ?_
      case h63 => unfold maxLen; omega
      case hb => omega
      intro a7 cap7 w7 hS7 hM7 hF7 hN7 hR7
      have hS := (HS.out.nilSlice 3 1).regrow 0 rfl hS7 hM7 hF7
      simp only [List.set_cons_zero, Nat.zero_add, List.nil_append] at hS
      refine hK.out _ _ (blk_cell (hS.box 3 rfl) 5 _ rfl) (fun hHeld => ?_)
      clear hK K
      try simp only [Act.put, Nat.zero_add, List.setIfInBounds_toArray, List.set_cons_zero, List.set_cons_succ]
      clear HS hS7 hM7 hF7 hN7 hR7
      have HS := Lib.hid hS
      clear hS
      refine wpAnyH_ready (rs := [4]) (by kernel_rfl) (by simp) ?_
      refine AllReadyH.cons (o := ⟨some 19, _, _, _, _, _⟩) rfl (fun K hK => ?_) (AllReadyH.nil)
      refine step_append rfl rfl 3 jp _ 1 8 (by kernel_rfl) HJ.out.1 HJ.out.2.1 HJ.out.2.2.1 HJ.out.2.2.2.1 HJ.out.2.2.2.2 a7 n cap7 cM (by rfl) (HS.out.slice 0 rfl) (some ⟨sb, 0, none⟩) 1 1 [.int .i64 77] (by rfl) (HS.out.slice 1 rfl).rd (by intro u hu; simp only [List.mem_cons, List.not_mem_nil, or_false] at hu; rcases hu with rfl <;> rfl) ?h63 ?hb ?_
      case h63 => unfold maxLen; omega
      case hb => omega
      intro a8 cap8 w8 hS8 hM8 hF8 hN8 hR8
      have hS := HS.out.regrow 0 rfl hS8 hM8 hF8
      simp only [List.set_cons_succ, List.set_cons_zero] at hS
      refine hK.out _ _ (blk_cell (hS.box 3 rfl) 5 _ rfl) (fun hHeld => ?_)
      clear hK K
      try simp only [Act.put, Nat.zero_add, List.setIfInBounds_toArray, List.set_cons_zero, List.set_cons_succ]
      clear HS hS8 hM8 hF8 hN8 hR8
      have HS := Lib.hid hS
      clear hS
      refine wpAnyH_ready (rs := [8]) (by kernel_rfl) (by simp) ?_
      refine AllReadyH.cons (o := ⟨some 23, _, _, _, _, _⟩) rfl (fun K hK => ?_) (AllReadyH.nil)
      have hcut := HS.out.slice 0 rfl
      refine step_upto rfl rfl 3 1 (by kernel_rfl) (by kernel_rfl) (by kernel_rfl) a8 (n + 1) cap8 n (by rfl) (by rfl) hcut.plain (by have := hcut.2.1; omega) hcut.2.2.1 ?_
      refine hK.out _ _ (hHeld) (fun hHeld => ?_)
      clear hK K
      try simp only [Act.put, Nat.zero_add, List.setIfInBounds_toArray, List.set_cons_zero, List.set_cons_succ]
      clear hcut
      refine wpAnyH_take (i := 9) (oi := _) (v := ?_) rfl (by kernel_rfl) (by kernel_rfl) (by kernel_rfl) (fun _ _ _ h => h) (Or.inl ⟨by rfl, ?_⟩) hHeld ?_
      rotate_left
      · intro wq hSw; (try dsimp only at hSw); go_simp; try with_reducible rfl
      try simp only [Act.put, Nat.zero_add, List.setIfInBounds_toArray, List.set_cons_zero, List.set_cons_succ]
      refine wpAnyH_done (by kernel_rfl) ?_ _
      have o5 := blk_cell (HS.out.box 2 rfl) 5 _ rfl
      have f5 := blk_free (HS.out.box 2 rfl) 5
      have z5 := heap_lt (HS.out.box 2 rfl)
      refine LastQ.step rfl rfl ?_
      go_simp
      have hS := HS.out.set 2 rfl 5 (.slice a8 n cap8)
      simp only [List.set_cons_succ, List.set_cons_zero, List.setIfInBounds_toArray] at hS
      have HSZ := Lib.hid (lent_b hS)
      clear HS o5 f5 z5 hHeld hS
      go_wp2
      go_meet
      exact ⟨a8, cap8, HSZ.out.perm (.cons _ (.swap _ _ _))⟩
  case rest =>
    clear HS
    obtain ⟨am, cm, hS⟩ := hcut
    have HS := Lib.hid hS
    have c7 := blk_cell (hS.box 2 rfl) 7 _ rfl
    have ztb := heap_lt (hS.box 2 rfl)
    clear hS
    go_wp2_with fail
    go_loopg [5, 6, 7] m (fun g lv y z7 wr => ∃ (k : Nat) (LL : List Ent) (al : Option Addr) (cl : Nat), k + g = m ∧ y = .int .i64 k ∧ lv = .slice al k cl ∧ Hid (Lents (x.ents.take k) LL) ∧ St w wr (sl 39 11 al k cl (LL.flatMap Ent.cells) :: grp (LL.map fun e => grp (Ent.own e)) :: bx ob #[.int .i64 x.kind, .int .i64 x.epoch, .int .i64 x.zxid, .int .i64 x.number, .int .i64 x.session, .slice am n cm, .string x.data, .slice x.entsA m x.entsC, .int .i64 x.q.q.kind, .int .i64 x.q.q.xid, .string x.q.q.path, .string x.q.q.data, .slice x.q.q.aclA x.q.q.acl.length x.q.q.aclC, .int .i64 x.q.q.flags, .int .i64 x.q.q.version, .bool x.q.q.watch, .slice x.q.q.subsA x.q.q.subsN x.q.q.subsC, .slice x.q.q.armedA x.q.q.armedN x.q.q.armedC, .slice x.idsA x.ids.length x.idsC] 33 :: sl 3 1 am (n + 1) cm (cM ++ [.int .i64 77]) :: bx tb #[.int .i64 x.kind, .int .i64 x.epoch, .int .i64 x.zxid, .int .i64 x.number, .int .i64 x.session, .slice x.marksA n x.marksC, .string x.data, .slice x.entsA m x.entsC, .int .i64 x.q.q.kind, .int .i64 x.q.q.xid, .string x.q.q.path, .string x.q.q.data, .slice x.q.q.aclA x.q.q.acl.length x.q.q.aclC, .int .i64 x.q.q.flags, .int .i64 x.q.q.version, .bool x.q.q.watch, .slice x.q.q.subsA x.q.q.subsN x.q.q.subsC, .slice x.q.q.armedA x.q.q.armedN x.q.q.armedC, .slice x.idsA x.ids.length x.idsC] 33 :: []))
    case atStart => exact ⟨0, [], none, 0, by omega, rfl, rfl, Lib.hid (by rw [List.take_zero]; exact Lents.nil), (HS.out.grp0).nilSlice 39 11⟩
    case round =>
      obtain ⟨k, LL, al, cl, hkg, rfl, rfl, HLL, hS⟩ := hrel
      clear HS c7 ztb
      have c7 := blk_cell (hS.box 4 rfl) 7 _ rfl
      have ztb := heap_lt (hS.box 4 rfl)
      by_cases hlt : k < m
      · have hxk : x.ents[k]? = some (x.ents[k]'(HNM.out.2.1 ▸ hlt)) := List.getElem?_eq_getElem _
        obtain ⟨t, ht⟩ : ∃ t, x.ents[k]'(HNM.out.2.1 ▸ hlt) = t := ⟨_, rfl⟩
        rw [ht] at hxk
        obtain ⟨b, o, hae, hbl, hc⟩ := (hS.old HRE.out).elem (k := 11) Ent.cells (fun _ => rfl) (by omega) hxk
        have hmem := List.mem_of_getElem? hxk
        have htok := HX.out.eall t hmem
        have hln := Ent.lens t
        have hbl2 := HEL.out t hmem
        have HC : Hid (∀ j u, ((Ent.cells t)[j]? = some u) → wr.cell? ((⟨b, o + k * 11, none⟩ : Addr).add j) = some u) := Lib.hid (fun j u hj => by rw [add_none]; exact hc j u hj)
        rw [hae] at c7
        have HTX := Lib.hid (And.intro hxk htok)
        have HLN := Lib.hid (And.intro hln hbl2)
        have HS := Lib.hid hS
        have HAE := Lib.hid hae
        clear hxk ht hc hmem htok hln hbl2 hS hae
        go_wp2_with ((with_reducible refine at_list ?_); refine wpList_load_chunk 11 _ Tryz.underlying39 rfl sizeEnt ⟨b, o + k * 11, none⟩ rfl t.cells rfl HC.out ?_)
        refine (lentEntry_st t HTX.out.2 (by have := HLN.out; omega) (by have := HLN.out; omega) HS.out).mono ?_
        clear HS HC c7 ztb hbl
        rintro e w4 ⟨a3, c3, b3, d3, rfl, hS⟩
        have hS : St w w4 (sl 39 11 al k cl (LL.flatMap Ent.cells) :: grp ((LL ++ [t.lent a3 c3 b3 d3]).map fun e => grp (Ent.own e)) :: bx ob #[.int .i64 x.kind, .int .i64 x.epoch, .int .i64 x.zxid, .int .i64 x.number, .int .i64 x.session, .slice am n cm, .string x.data, .slice x.entsA m x.entsC, .int .i64 x.q.q.kind, .int .i64 x.q.q.xid, .string x.q.q.path, .string x.q.q.data, .slice x.q.q.aclA x.q.q.acl.length x.q.q.aclC, .int .i64 x.q.q.flags, .int .i64 x.q.q.version, .bool x.q.q.watch, .slice x.q.q.subsA x.q.q.subsN x.q.q.subsC, .slice x.q.q.armedA x.q.q.armedN x.q.q.armedC, .slice x.idsA x.ids.length x.idsC] 33 :: sl 3 1 am (n + 1) cm (cM ++ [.int .i64 77]) :: bx tb #[.int .i64 x.kind, .int .i64 x.epoch, .int .i64 x.zxid, .int .i64 x.number, .int .i64 x.session, .slice x.marksA n x.marksC, .string x.data, .slice x.entsA m x.entsC, .int .i64 x.q.q.kind, .int .i64 x.q.q.xid, .string x.q.q.path, .string x.q.q.data, .slice x.q.q.aclA x.q.q.acl.length x.q.q.aclC, .int .i64 x.q.q.flags, .int .i64 x.q.q.version, .bool x.q.q.watch, .slice x.q.q.subsA x.q.q.subsN x.q.q.subsC, .slice x.q.q.armedA x.q.q.armedN x.q.q.armedC, .slice x.idsA x.ids.length x.idsC] 33 :: []) := by
          rw [List.map_append]
          exact (St.regrp (Ent.own (t.lent a3 c3 b3 d3)) hS).absorb1
        have HS4 := Lib.hid (hS.box1 #[.int .i64 0, .int .i64 0, .int .i64 0, .int .i64 0, .string ⟨#[]⟩, .string ⟨#[]⟩, .slice none 0 0, .int .i64 0, .int .i64 0, .int .i64 0, .slice none 0 0] 39)
        clear hS
        simp only [Ent.lent, Ent.cells]
        go_wp2_with (first
          | ((with_reducible refine at_list ?_); refine wpList_store_whole 11 sizeEnt w4.heap.size rfl _ _ (HS4.out.box 0 rfl) rfl [.int .i64 t.zxid, .int .i64 t.session, .int .i64 t.xid, .int .i64 t.t.kind, .string t.t.path, .string t.t.data, .slice a3 t.t.acl.length c3, .int .i64 t.t.owner, .int .i64 t.t.number, .int .i64 t.t.err, .slice b3 t.t.subsN d3] rfl rfl (by kernel_rfl) ?_; intro w5 hg5 hM5 hz5; have hS5 := HS4.out.rebox 0 rfl hg5 hM5; simp only [List.set_cons_succ, List.set_cons_zero] at hS5; have HS5 := Lib.hid hS5; have HS6 := Lib.hid (hS5.slice1 #[.int .i64 t.zxid, .int .i64 t.session, .int .i64 t.xid, .int .i64 t.t.kind, .string t.t.path, .string t.t.data, .slice a3 t.t.acl.length c3, .int .i64 t.t.owner, .int .i64 t.t.number, .int .i64 t.t.err, .slice b3 t.t.subsN d3] 39 11 1 rfl (by unfold maxLen; omega)); clear hg5 hM5 hz5 hS5 HS4)
          | ((with_reducible refine at_list ?_); refine wpList_load_chunk 11 _ Tryz.underlying39 rfl sizeEnt ⟨w4.heap.size, 0, none⟩ rfl [.int .i64 t.zxid, .int .i64 t.session, .int .i64 t.xid, .int .i64 t.t.kind, .string t.t.path, .string t.t.data, .slice a3 t.t.acl.length c3, .int .i64 t.t.owner, .int .i64 t.t.number, .int .i64 t.t.err, .slice b3 t.t.subsN d3] rfl (box_chunk (cs := [.int .i64 t.zxid, .int .i64 t.session, .int .i64 t.xid, .int .i64 t.t.kind, .string t.t.path, .string t.t.data, .slice a3 t.t.acl.length c3, .int .i64 t.t.owner, .int .i64 t.t.number, .int .i64 t.t.err, .slice b3 t.t.subsN d3]) (HS5.out.box 0 rfl)) ?_)
          | (at_builtin; refine wpList_append 39 ip iz 11 136 (by kernel_rfl) HI.out.1 HI.out.2.1 HI.out.2.2.1 HI.out.2.2.2.1 HI.out.2.2.2.2 al k cl (LL.flatMap Ent.cells) rfl (HS6.out.slice 2 rfl) (some ⟨w5.heap.size, 0, none⟩) 1 1 (Ent.cells (t.lent a3 c3 b3 d3)) rfl (HS6.out.slice 0 rfl).rd (Ent.one _) (by unfold maxLen; omega) (by omega) ?_; intro a6 cap6 w6 hS6 hM6 hF6 hN6 hR6; have hSA := (HS6.out.regrow 2 rfl hS6 hM6 hF6).tail.tail; have HSA := Lib.hid hSA; clear hN6 hR6 hSA hS6 hM6 hF6 HS6 HS5))
        go_roundg (gk - 1)
        case measure => omega
        case rel =>
          refine ⟨k + 1, LL ++ [t.lent a3 c3 b3 d3], a6, cap6, by omega, by simp, rfl, Lib.hid ?_, ?_⟩
          · rw [List.take_add_one, HTX.out.1]
            exact HLL.out.snoc t a3 c3 b3 d3
          · rw [flat_snoc]
            exact HSA.out
      · have hk : k = m := by omega
        have HKM := Lib.hid hk
        have HS := Lib.hid hS
        clear hkg hk hS
        go_upto_region 10 with fail
        go_cut [] (fun wx => ∃ (LL : List Ent) (ae : Option Addr) (ce : Nat), Hid (Lents x.ents LL) ∧ St w wx (bx ob #[.int .i64 x.kind, .int .i64 x.epoch, .int .i64 x.zxid, .int .i64 x.number, .int .i64 x.session, .slice am n cm, .string x.data, .slice ae m ce, .int .i64 x.q.q.kind, .int .i64 x.q.q.xid, .string x.q.q.path, .string x.q.q.data, .slice x.q.q.aclA x.q.q.acl.length x.q.q.aclC, .int .i64 x.q.q.flags, .int .i64 x.q.q.version, .bool x.q.q.watch, .slice x.q.q.subsA x.q.q.subsN x.q.q.subsC, .slice x.q.q.armedA x.q.q.armedN x.q.q.armedC, .slice x.idsA x.ids.length x.idsC] 33 :: sl 39 11 ae (m + 1) ce (LL.flatMap Ent.cells ++ [.int .i64 77, .int .i64 0, .int .i64 0, .int .i64 0, .string ⟨#[]⟩, .string ⟨#[]⟩, .slice none 0 0, .int .i64 0, .int .i64 0, .int .i64 0, .slice none 0 0]) :: grp (LL.map fun e => grp (Ent.own e)) :: sl 3 1 am (n + 1) cm (cM ++ [.int .i64 77]) :: bx tb #[.int .i64 x.kind, .int .i64 x.epoch, .int .i64 x.zxid, .int .i64 x.number, .int .i64 x.session, .slice x.marksA n x.marksC, .string x.data, .slice x.entsA m x.entsC, .int .i64 x.q.q.kind, .int .i64 x.q.q.xid, .string x.q.q.path, .string x.q.q.data, .slice x.q.q.aclA x.q.q.acl.length x.q.q.aclC, .int .i64 x.q.q.flags, .int .i64 x.q.q.version, .bool x.q.q.watch, .slice x.q.q.subsA x.q.q.subsN x.q.q.subsC, .slice x.q.q.armedA x.q.q.armedN x.q.q.armedC, .slice x.idsA x.ids.length x.idsC] 33 :: []))
        case first =>
          have c7 := blk_cell (HS.out.box 4 rfl) 7 _ rfl
          have hkle : k ≤ m := by have := HKM.out; omega
          refine wp_region_last_held (n := 9) (S := fun w' => w'.cell? ⟨tb, 7, none⟩ = some (.slice x.entsA m x.entsC)) (by kernel_rfl) rfl (by simp only [List.pop_toArray, List.dropLast_cons_cons, List.dropLast_singleton]; rfl) (by kernel_rfl) (by kernel_rfl) c7 (fun hHeld => ?_)
          have hS := HS.out.drew
          generalize wr.drew = V at hS hHeld ⊢
          clear HS c7
          have HS := Lib.hid hS
          clear hS
          refine wpAnyH_take (i := 0) (oi := _) (v := ?_) rfl (by kernel_rfl) (by kernel_rfl) (by kernel_rfl) (fun _ _ _ h => h) (Or.inl ⟨by rfl, ?_⟩) hHeld ?_
          rotate_left
          · intro wq hSw; (try dsimp only at hSw); go_simp; try with_reducible rfl
          try simp only [Act.put, Nat.zero_add, List.setIfInBounds_toArray, List.set_cons_zero, List.set_cons_succ]
          refine wpAnyH_take (i := 1) (oi := _) (v := ?_) rfl (by kernel_rfl) (by kernel_rfl) (by kernel_rfl) (fun _ _ _ h => h) (Or.inl ⟨by rfl, ?_⟩) hHeld ?_
          rotate_left
          · intro wq hSw; (try dsimp only at hSw); go_simp; try with_reducible rfl
          try simp only [Act.put, Nat.zero_add, List.setIfInBounds_toArray, List.set_cons_zero, List.set_cons_succ]
          refine wpAnyH_take (i := 4) (oi := _) (v := ?_) rfl (by kernel_rfl) (by kernel_rfl) (by kernel_rfl) (fun _ _ _ h => h) (Or.inl ⟨by rfl, ?_⟩) hHeld ?_
          rotate_left
          · intro wq hSw; (try dsimp only at hSw); go_simp; try with_reducible rfl
          try simp only [Act.put, Nat.zero_add, List.setIfInBounds_toArray, List.set_cons_zero, List.set_cons_succ]
          refine wpAnyH_take (i := 5) (oi := _) (v := ?_) rfl (by kernel_rfl) (by kernel_rfl) (by kernel_rfl) (fun _ _ _ h => h) (Or.inl ⟨by rfl, ?_⟩) hHeld ?_
          rotate_left
          · intro wq hSw; (try dsimp only at hSw); go_simp; try with_reducible rfl
          try simp only [Act.put, Nat.zero_add, List.setIfInBounds_toArray, List.set_cons_zero, List.set_cons_succ]
          refine wpAnyH_take (i := 6) (oi := _) (v := ?_) rfl (by kernel_rfl) (by kernel_rfl) (by kernel_rfl) (fun _ _ _ h => h) (Or.inl ⟨by rfl, ?_⟩) hHeld ?_
          rotate_left
          · intro wq hSw; (try dsimp only at hSw); go_simp; try with_reducible rfl
          try simp only [Act.put, Nat.zero_add, List.setIfInBounds_toArray, List.set_cons_zero, List.set_cons_succ]
          refine wpAnyH_ready (rs := [2]) (by kernel_rfl) (by simp) ?_
          refine AllReadyH.cons (o := ⟨some 44, _, _, _, _, _⟩) rfl (fun K hK => ?_) (AllReadyH.nil)
          have hS := HS.out.slice1 #[.int .i64 77, .int .i64 0, .int .i64 0, .int .i64 0, .string ⟨#[]⟩, .string ⟨#[]⟩, .slice none 0 0, .int .i64 0, .int .i64 0, .int .i64 0, .slice none 0 0] 39 11 1 rfl (by unfold maxLen; omega)
          go_simp
          refine hK.out _ _ (((Mod.refl (fun _ => False) _).alloc _).cell hHeld id) (fun hHeld => ?_)
          clear hK K
          try simp only [Act.put, Nat.zero_add, List.setIfInBounds_toArray, List.set_cons_zero, List.set_cons_succ]
          generalize V.alloc (.cells #[.int .i64 77, .int .i64 0, .int .i64 0, .int .i64 0, .string ⟨#[]⟩, .string ⟨#[]⟩, .slice none 0 0, .int .i64 0, .int .i64 0, .int .i64 0, .slice none 0 0] 39) = V5 at hS hHeld ⊢
          generalize V.heap.size = sb at hS ⊢
          clear HS
          have HS := Lib.hid hS
          clear hS
          refine wpAnyH_ready (rs := [3]) (by kernel_rfl) (by simp) ?_
          refine AllReadyH.cons (o := ⟨some 45, _, _, _, _, _⟩) rfl (fun K hK => ?_) (AllReadyH.nil)
          refine step_append rfl rfl 39 ip _ 11 136 (by kernel_rfl) HI.out.1 HI.out.2.1 HI.out.2.2.1 HI.out.2.2.2.1 HI.out.2.2.2.2 al k cl (LL.flatMap Ent.cells) (by rfl) (HS.out.slice 1 rfl) (some ⟨sb, 0, none⟩) 1 1 [.int .i64 77, .int .i64 0, .int .i64 0, .int .i64 0, .string ⟨#[]⟩, .string ⟨#[]⟩, .slice none 0 0, .int .i64 0, .int .i64 0, .int .i64 0, .slice none 0 0] (by rfl) (HS.out.slice 0 rfl).rd (by intro u hu; simp only [List.mem_cons, List.not_mem_nil, or_false] at hu; rcases hu with rfl | rfl | rfl | rfl | rfl | rfl | rfl | rfl | rfl | rfl | rfl <;> rfl) ?h63 ?hb ?_
          case h63 => unfold maxLen; omega
          case hb => omega
          intro a8 cap8 w8 hS8 hM8 hF8 hN8 hR8
          have hS := (HS.out.regrow 1 rfl hS8 hM8 hF8).tail
          simp only [List.set_cons_succ, List.set_cons_zero, List.tail_cons] at hS
          refine hK.out _ _ (blk_cell (hS.box 4 rfl) 7 _ rfl) (fun hHeld => ?_)
          clear hK K
          try simp only [Act.put, Nat.zero_add, List.setIfInBounds_toArray, List.set_cons_zero, List.set_cons_succ]
          clear HS hS8 hM8 hF8 hN8 hR8
          have HS := Lib.hid hS
          clear hS
          refine wpAnyH_ready (rs := [7]) (by kernel_rfl) (by simp) ?_
          refine AllReadyH.cons (o := ⟨some 49, _, _, _, _, _⟩) rfl (fun K hK => ?_) (AllReadyH.nil)
          have hcut := HS.out.slice 0 rfl
          refine step_upto rfl rfl 39 11 (by kernel_rfl) (by kernel_rfl) (by kernel_rfl) a8 (k + 1) cap8 m (by rfl) (by rfl) hcut.plain (by have := hcut.2.1; omega) hcut.2.2.1 ?_
          refine hK.out _ _ (hHeld) (fun hHeld => ?_)
          clear hK K
          try simp only [Act.put, Nat.zero_add, List.setIfInBounds_toArray, List.set_cons_zero, List.set_cons_succ]
          clear hcut
          refine wpAnyH_take (i := 8) (oi := _) (v := ?_) rfl (by kernel_rfl) (by kernel_rfl) (by kernel_rfl) (fun _ _ _ h => h) (Or.inl ⟨by rfl, ?_⟩) hHeld ?_
          rotate_left
          · intro wq hSw; (try dsimp only at hSw); go_simp; try with_reducible rfl
          try simp only [Act.put, Nat.zero_add, List.setIfInBounds_toArray, List.set_cons_zero, List.set_cons_succ]
          refine wpAnyH_done (by kernel_rfl) ?_ _
          have o7 := blk_cell (HS.out.box 2 rfl) 7 _ rfl
          have f7 := blk_free (HS.out.box 2 rfl) 7
          have z7 := heap_lt (HS.out.box 2 rfl)
          refine LastQ.step rfl rfl ?_
          go_simp
          have hS := HS.out.set 2 rfl 7 (.slice a8 m cap8)
          simp only [List.set_cons_succ, List.set_cons_zero, List.setIfInBounds_toArray] at hS
          have HSZ := Lib.hid hS
          clear HS o7 f7 z7 hHeld hS
          go_wp2
          go_meet
          refine ⟨LL, a8, cap8, Lib.hid (by have h := HLL.out; rwa [HKM.out, List.take_of_length_le (by rw [HNM.out.2.1]; exact Nat.le_refl _)] at h), ?_⟩
          rw [HKM.out] at HSZ
          exact HSZ.out.perm (List.perm_append_comm_assoc [_, _] [_] _)
        case rest =>
          clear HS c7 ztb HLL HKM HJ HI
          obtain ⟨LL, ae, ce, HLL, hS⟩ := hcut
          apply_assumption
          exact msgs_tail _ _ _ _ _ _ _ _ _ _ _ _ _ _ _ _ _ _ _ _ _ _ _ _ _ _ _ _ _ _ _ _ _ _ _ _ _ _ _ _ _ _ _ _ _ _ _ _ _ _ _ _ _ _ _ _ _ _ _ _ _ _ _ _ _ _ _ _ _ _ _ _ _ _ _ _ _ _ _ _ _ _ _ _ _ _ _ _ _ _ _ _ _ _ _ _ _ _ _ _ _ _ _ _ _ _ _ _ _ _ _ _ _ _ _ _ _ _ _ _ _ _ _ _ _ _ _ _ _ _ _ _ _ _ _ x w _ n m ob tb cM am cm ae ce LL hnl hml HX HB HRM HRE HEL HNM HLL hS
end Go.Proofs.YtmbkbkfcbloafaaGreat
