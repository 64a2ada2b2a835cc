/-
  Laws of PrepJ.
  Conditions: each law states its own.
-/
import Derived.Test.YtonnbkebjeoflaaGreatDoorJ27
import Derived.Test.YtonnbkebjeoflaaGreatDoorJ29
set_option maxHeartbeats 16000000
set_option linter.unusedSectionVars false
set_option linter.unusedSimpArgs false
set_option linter.unusedVariables false
set_option maxRecDepth 100000
namespace Go.Proofs.YtonnbkebjeoflaaGreatDoor
open Go.RowKit Go.Maps
theorem sizeRqT : (Tryz.prog.info? 40).map (·.size) = some 10 := by kernel_rfl
theorem firstE_60x (a b : Int) (l : List Int) (h : firstE (a :: b :: 60 :: l) = 0) : False := by
 by_cases ha : a = 0 <;> by_cases hb : b = 0 <;> simp [firstE, ha, hb] at h
def RdPost (p : Tree.Rp1) (w : World) (e : Ending) (w' : World) : Prop :=
 ∃ (aa : Option Addr) (ac : Nat) (ka : Option Addr) (kc : Nat), e = .returned (.agg (RpC p aa ac ka kc none 0 0).toArray) ∧ St w w' [sl 46 2 aa p.acl.length ac (p.acl.flatMap ARow.cells), sl 9 1 ka p.kids.length kc (p.kids.map Value.string)]
theorem read_any (q : WishR) (w : World) (hq : q.ok w) (hf : q.fit) (h0 : q.s = 0) :
 Calls Tryz.prog 65 #[.pointer (some ⟨q.tb, 0, none⟩), .slice q.ia q.ids.length q.ic, .agg q.rcells.toArray] w (RdPost (q.T.read q.ids q.r) w) := by
 obtain ⟨kn, hkn⟩ : ∃ kn, (decide (q.r.kind = 9) || decide (q.r.kind = 10) || decide (q.r.kind = 11) || decide (q.r.kind = 12)) = kn := ⟨_, rfl⟩
 obtain ⟨es, hes⟩ : ∃ es : List Int, [whenE (!kn) 110, checkB q.r.path, whenE (!q.T.is q.r.path) 60, whenE (decide (q.r.kind ≠ 10) && !q.T.mayAt q.ids q.r.path 1) 65] = es := ⟨_, rfl⟩
 obtain ⟨er, her⟩ : ∃ er, firstE es = er := ⟨_, rfl⟩
 have hE : q.T.read q.ids q.r = (if er ≠ 0 then { Tree.rp0 with xid := q.r.xid, zxid := q.T.zxid, err := er } else
  match q.T.node q.r.path with
  | none => Tree.Rp1.put { Tree.rp0 with xid := q.r.xid, zxid := q.T.zxid, err := er } q.T q.r.path
  | some n =>
    if q.r.kind = 9 then { Tree.Rp1.put { Tree.rp0 with xid := q.r.xid, zxid := q.T.zxid, err := er } q.T q.r.path with data := n.data }
    else if q.r.kind = 11 then { Tree.Rp1.put { Tree.rp0 with xid := q.r.xid, zxid := q.T.zxid, err := er } q.T q.r.path with kids := q.T.kids q.r.path }
    else if q.r.kind = 12 then { Tree.Rp1.put { Tree.rp0 with xid := q.r.xid, zxid := q.T.zxid, err := er } q.T q.r.path with acl := n.acl }
    else Tree.Rp1.put { Tree.rp0 with xid := q.r.xid, zxid := q.T.zxid, err := er } q.T q.r.path) := by
  unfold Tree.read
  rw [hkn, hes, her]
  rfl
 obtain ⟨res, hres⟩ : ∃ res, q.T.read q.ids q.r = res := ⟨_, rfl⟩
 rw [hres] at hE ⊢
 have HQ := Lib.hid hq
 have HFT := Lib.hid hf
 have HES := Lib.hid hes
 have HER := Lib.hid her
 have HE := Lib.hid hE
 have HKN := Lib.hid hkn
 have hci : q.carr = #[.pointer (some ⟨q.tb, 0, none⟩), .int .i64 0, .slice q.ia q.ids.length q.ic, .int .i64 q.r.kind, .int .i64 q.r.xid, .string q.r.path, .string q.r.data, .slice q.aa q.r.acl.length q.ac, .int .i64 q.r.flags, .int .i64 q.r.version, .bool q.r.watch, .slice q.sa q.sn q.sc, .slice q.ra q.rn q.rc] := by unfold WishR.carr; rw [h0]
 have HCI := Lib.hid hci
 have CZ : Hid (∀ W, Mod (fun _ => False) w W → Calls Tryz.prog 20 #[.pointer (some ⟨q.tb, 0, none⟩)] W (CpPost (.int .i64 q.T.zxid) W)) := Lib.hid fun W k => zxid_any W q.tb q.T (hq.tree.old k)
 have HB := Lib.hid (((St.start w).box1 #[.int .i64 q.r.kind, .int .i64 q.r.xid, .string q.r.path, .string q.r.data, .slice q.aa q.r.acl.length q.ac, .int .i64 q.r.flags, .int .i64 q.r.version, .bool q.r.watch, .slice q.sa q.sn q.sc, .slice q.ra q.rn q.rc] 40).box1 #[.int .i64 0, .int .i64 0, .int .i64 0, .string ⟨#[]⟩, .string ⟨#[]⟩, .int .i64 0, .int .i64 0, .int .i64 0, .int .i64 0, .int .i64 0, .int .i64 0, .int .i64 0, .int .i64 0, .int .i64 0, .slice none 0 0, .slice none 0 0, .slice none 0 0] 33)
 rw [World.size_alloc] at HB
 show Calls _ _ #[_, _, .agg #[.int .i64 q.r.kind, .int .i64 q.r.xid, .string q.r.path, .string q.r.data, .slice q.aa q.r.acl.length q.ac, .int .i64 q.r.flags, .int .i64 q.r.version, .bool q.r.watch, .slice q.sa q.sn q.sc, .slice q.ra q.rn q.rc]] _ _
 clear hq hf hes her hE hci hkn hres h0
 go_enter Tryz.func65, Tryz.ntmps65
 go_upto_region 3 with (fail)
 generalize hW : (w.alloc _).alloc _ = W at HB ⊢
 generalize w.heap.size = rb at HB ⊢
 clear hW
 have KP : Hid (∀ (w' : World) (A : Thing), St w w' (A :: bx rb #[.int .i64 q.r.kind, .int .i64 q.r.xid, .string q.r.path, .string q.r.data, .slice q.aa q.r.acl.length q.ac, .int .i64 q.r.flags, .int .i64 q.r.version, .bool q.r.watch, .slice q.sa q.sn q.sc, .slice q.ra q.rn q.rc] 40 :: []) → w'.cell? ⟨rb, 1, none⟩ = some (.int .i64 q.r.xid)) := Lib.hid fun w' A h => blk_cell (h.box 1 rfl) 1 _ rfl
 have HA := Lib.hid HB.out.drew
 go_cut [7] (fun y wx => ∃ ob : Nat, y = .pointer (some ⟨ob, 0, none⟩) ∧ St w wx (bx ob (([.int .i64 q.r.xid, .int .i64 q.T.zxid, .int .i64 0, .string ⟨#[]⟩, .string ⟨#[]⟩] ++ Tree.st0.vals 0 0 ++ [.slice none 0 0, .slice none 0 0, .slice none 0 0] : List Value)).toArray 33 :: bx (rb + 1) #[.int .i64 0, .int .i64 0, .int .i64 0, .string ⟨#[]⟩, .string ⟨#[]⟩, .int .i64 0, .int .i64 0, .int .i64 0, .int .i64 0, .int .i64 0, .int .i64 0, .int .i64 0, .int .i64 0, .int .i64 0, .slice none 0 0, .slice none 0 0, .slice none 0 0] 33 :: bx rb #[.int .i64 q.r.kind, .int .i64 q.r.xid, .string q.r.path, .string q.r.data, .slice q.aa q.r.acl.length q.ac, .int .i64 q.r.flags, .int .i64 q.r.version, .bool q.r.watch, .slice q.sa q.sn q.sc, .slice q.ra q.rn q.rc] 40 :: []))
 case first =>
  refine wp_region_held_drew (S := fun w' => w'.cell? ⟨rb, 1, none⟩ = some (.int .i64 q.r.xid)) (by kernel_rfl) (KP.out _ _ HA.out) (fun hHeld => ?_)
  clear HB
  generalize W.drew = W at HA hHeld ⊢
  refine tk 0 (some 13) ?_ rfl rfl hHeld ?_ ?_
  rotate_left
  ·intro wq hSw; (try dsimp only at hSw); go_simp; try with_reducible rfl
  refine tk 1 (some 14) ?_ rfl rfl hHeld ?_ ?_
  rotate_left
  ·intro wq hSw; (try dsimp only at hSw); go_simp; try with_reducible rfl
  try simp only [Act.put, Nat.zero_add, zA, zB, zC]
  refine tk 2 (some 15) ?_ rfl rfl hHeld ?_ ?_
  rotate_left
  ·intro wq hSw; (try dsimp only at hSw); go_simp; try with_reducible rfl
  try simp only [Act.put, Nat.zero_add, zA, zB, zC]
  refine wpAnyH_ready (rs := [3, 5]) (by kernel_rfl) (by simp) ?_
  refine (AllReadyH.cons (o := ⟨some 16, _, _, _, _, _⟩) rfl (fun K hK => ?_) (AllReadyH.cons (o := ⟨some 7, _, _, _, _, _⟩) rfl (fun K hK => ?_) AllReadyH.nil))
  focus
   go_simp
   refine (CZ.out _ HA.out.1).mono ?_
   rintro e w10 ⟨rfl, hM10⟩
   have H10 := Lib.hid (HA.out.mod hM10)
   clear hM10
   refine hK.out _ _ (KP.out _ _ H10.out) (fun hHeld => ?_)
   clear hK K
   try simp only [Act.put, Nat.zero_add, zA, zB, zC]
   refine tk 4 (some 17) ?_ rfl rfl hHeld ?_ ?_
   rotate_left
   ·intro wq hSw; (try dsimp only at hSw); go_simp; try with_reducible rfl
   try simp only [Act.put, Nat.zero_add, zA, zB, zC]
   refine wpAnyH_ready (rs := [5]) (by kernel_rfl) (by simp) ?_
   refine (AllReadyH.cons (o := ⟨some 7, _, _, _, _, _⟩) rfl (fun K hK => ?_) AllReadyH.nil)
   go_simp
   have H11 := Lib.hid (H10.out.box1 #[.int .i64 0, .int .i64 0, .int .i64 0, .string ⟨#[]⟩, .string ⟨#[]⟩, .int .i64 0, .int .i64 0, .int .i64 0, .int .i64 0, .int .i64 0, .int .i64 0, .int .i64 0, .int .i64 0, .int .i64 0, .slice none 0 0, .slice none 0 0, .slice none 0 0] 33)
   refine hK.out _ _ (KP.out _ _ H11.out.tail) (fun hHeld => ?_)
   clear hK K
   try simp only [Act.put, Nat.zero_add, zA, zB, zC]
   refine wpAnyH_ready (rs := [6]) (by kernel_rfl) (by simp) ?_
   refine (AllReadyH.cons (o := ⟨none, _, _, _, _, _⟩) rfl (fun K hK => ?_) AllReadyH.nil)
   refine step_store_whole rfl rfl rfl 17 sizeRp w10.heap.size rfl _ _ (H11.out.box 0 rfl) rfl (([.int .i64 q.r.xid, .int .i64 q.T.zxid, .int .i64 0, .string ⟨#[]⟩, .string ⟨#[]⟩] ++ Tree.st0.vals 0 0 ++ [.slice none 0 0, .slice none 0 0, .slice none 0 0] : List Value)) rfl rfl rfl ?_
   intro w12 hg12 hM12 hz12
   have H12 := Lib.hid (H11.out.rebox 0 rfl hg12 hM12)
   clear hg12 hM12 hz12
   refine hK.out _ _ (KP.out _ _ H12.out.tail) (fun hHeld => ?_)
   clear hK K
   try simp only [Act.put, Nat.zero_add, zA, zB, zC]
   refine wpAnyH_done (by kernel_rfl) ?_ _
   clear hHeld
   go_wp2
   go_meet
   exact ⟨_, rfl, H12.out⟩
  focus
   go_simp
   have H10 := Lib.hid (HA.out.box1 #[.int .i64 0, .int .i64 0, .int .i64 0, .string ⟨#[]⟩, .string ⟨#[]⟩, .int .i64 0, .int .i64 0, .int .i64 0, .int .i64 0, .int .i64 0, .int .i64 0, .int .i64 0, .int .i64 0, .int .i64 0, .slice none 0 0, .slice none 0 0, .slice none 0 0] 33)
   refine hK.out _ _ (KP.out _ _ H10.out.tail) (fun hHeld => ?_)
   clear hK K
   try simp only [Act.put, Nat.zero_add, zA, zB, zC]
   refine wpAnyH_ready (rs := [3]) (by kernel_rfl) (by simp) ?_
   refine (AllReadyH.cons (o := ⟨some 16, _, _, _, _, _⟩) rfl (fun K hK => ?_) AllReadyH.nil)
   go_simp
   refine (CZ.out _ H10.out.1).mono ?_
   rintro e w10 ⟨rfl, hM10⟩
   have H11 := Lib.hid (H10.out.mod hM10)
   clear hM10
   refine hK.out _ _ (KP.out _ _ H11.out.tail) (fun hHeld => ?_)
   clear hK K
   try simp only [Act.put, Nat.zero_add, zA, zB, zC]
   refine tk 4 (some 17) ?_ rfl rfl hHeld ?_ ?_
   rotate_left
   ·intro wq hSw; (try dsimp only at hSw); go_simp; try with_reducible rfl
   try simp only [Act.put, Nat.zero_add, zA, zB, zC]
   refine wpAnyH_ready (rs := [6]) (by kernel_rfl) (by simp) ?_
   refine (AllReadyH.cons (o := ⟨none, _, _, _, _, _⟩) rfl (fun K hK => ?_) AllReadyH.nil)
   refine step_store_whole rfl rfl rfl 17 sizeRp W.heap.size rfl _ _ (H11.out.box 0 rfl) rfl (([.int .i64 q.r.xid, .int .i64 q.T.zxid, .int .i64 0, .string ⟨#[]⟩, .string ⟨#[]⟩] ++ Tree.st0.vals 0 0 ++ [.slice none 0 0, .slice none 0 0, .slice none 0 0] : List Value)) rfl rfl rfl ?_
   intro w12 hg12 hM12 hz12
   have H12 := Lib.hid (H11.out.rebox 0 rfl hg12 hM12)
   clear hg12 hM12 hz12
   refine hK.out _ _ (KP.out _ _ H12.out.tail) (fun hHeld => ?_)
   clear hK K
   try simp only [Act.put, Nat.zero_add, zA, zB, zC]
   refine wpAnyH_done (by kernel_rfl) ?_ _
   clear hHeld
   go_wp2
   go_meet
   exact ⟨_, rfl, H12.out⟩
 clear HB HA KP CZ
 obtain ⟨ob, rfl, hS⟩ := hcut
 have H1 := Lib.hid hS
 clear hS
 have zr := heap_lt (H1.out.box 2 rfl)
 go_upto_region 5 with (first
  | ((with_reducible refine at_list ?_); refine wpList_load_chunk 10 _ Tryz.underlying40 rfl sizeRqT ⟨rb, 0, none⟩ rfl ([.int .i64 q.r.kind, .int .i64 q.r.xid, .string q.r.path, .string q.r.data, .slice q.aa q.r.acl.length q.ac, .int .i64 q.r.flags, .int .i64 q.r.version, .bool q.r.watch, .slice q.sa q.sn q.sc, .slice q.ra q.rn q.rc] : List Value) rfl (box_chunk0 (H1.out.box 2 rfl)) ?_))
 have H2 := Lib.hid (H1.out.box1 #[.pointer (some ⟨q.tb, 0, none⟩), .int .i64 0, .slice q.ia q.ids.length q.ic, .int .i64 q.r.kind, .int .i64 q.r.xid, .string q.r.path, .string q.r.data, .slice q.aa q.r.acl.length q.ac, .int .i64 q.r.flags, .int .i64 q.r.version, .bool q.r.watch, .slice q.sa q.sn q.sc, .slice q.ra q.rn q.rc] 144)
 clear H1
 generalize wc.alloc _ = W2 at H2 ⊢
 generalize wc.heap.size = xb at H2 ⊢
 clear zr
 go_cut [9] (fun y wx => ∃ kb : Nat, y = .pointer (some ⟨kb, 0, none⟩) ∧ St w wx (bx kb #[.bool kn] 4 :: bx xb #[.pointer (some ⟨q.tb, 0, none⟩), .int .i64 0, .slice q.ia q.ids.length q.ic, .int .i64 q.r.kind, .int .i64 q.r.xid, .string q.r.path, .string q.r.data, .slice q.aa q.r.acl.length q.ac, .int .i64 q.r.flags, .int .i64 q.r.version, .bool q.r.watch, .slice q.sa q.sn q.sc, .slice q.ra q.rn q.rc] 144 :: bx ob (([.int .i64 q.r.xid, .int .i64 q.T.zxid, .int .i64 0, .string ⟨#[]⟩, .string ⟨#[]⟩] ++ Tree.st0.vals 0 0 ++ [.slice none 0 0, .slice none 0 0, .slice none 0 0] : List Value)).toArray 33 :: bx (rb + 1) #[.int .i64 0, .int .i64 0, .int .i64 0, .string ⟨#[]⟩, .string ⟨#[]⟩, .int .i64 0, .int .i64 0, .int .i64 0, .int .i64 0, .int .i64 0, .int .i64 0, .int .i64 0, .int .i64 0, .int .i64 0, .slice none 0 0, .slice none 0 0, .slice none 0 0] 33 :: bx rb #[.int .i64 q.r.kind, .int .i64 q.r.xid, .string q.r.path, .string q.r.data, .slice q.aa q.r.acl.length q.ac, .int .i64 q.r.flags, .int .i64 q.r.version, .bool q.r.watch, .slice q.sa q.sn q.sc, .slice q.ra q.rn q.rc] 40 :: []))
 case first =>
  have H3 := Lib.hid (H2.out.box1 #[.bool kn] 4)
  have r0 := blk_cell (H2.out.box 3 rfl) 0 (.int .i64 q.r.kind) rfl
  have zr := heap_lt (H2.out.box 3 rfl)
  have hkn := HKN.out
  clear HKN HES HE HER HQ HFT HCI H2
  obtain ⟨kd, hkd⟩ : ∃ kd, q.r.kind = kd := ⟨_, rfl⟩
  rw [hkd] at r0 hkn
  clear hkd
  by_cases h9 : kd = 9
  ·have hk : kn = true := by rw [← hkn, h9]; rfl
   clear hkn
   subst h9; subst hk
   go_wp2
   go_meet
   exact ⟨_, rfl, H3.out⟩
  have g9 : (kd == 9) = false := by simpa using h9
  by_cases h10 : kd = 10
  ·have hk : kn = true := by rw [← hkn, h10]; rfl
   clear hkn h9 g9
   subst h10; subst hk
   go_wp2
   go_meet
   exact ⟨_, rfl, H3.out⟩
  have g10 : (kd == 10) = false := by simpa using h10
  by_cases h11 : kd = 11
  ·have hk : kn = true := by rw [← hkn, h11]; rfl
   clear hkn h9 g9 h10 g10
   subst h11; subst hk
   go_wp2
   go_meet
   exact ⟨_, rfl, H3.out⟩
  have g11 : (kd == 11) = false := by simpa using h11
  by_cases h12 : kd = 12
  ·have hk : kn = true := by rw [← hkn, h12]; rfl
   clear hkn h9 g9 h10 g10 h11 g11
   subst h12; subst hk
   go_wp2
   go_meet
   exact ⟨_, rfl, H3.out⟩
  have g12 : (kd == 12) = false := by simpa using h12
  have hk : kn = false := by rw [← hkn]; simp [h9, h10, h11, h12]
  clear hkn h9 h10 h11 h12
  subst hk
  go_wp2
  go_meet
  exact ⟨_, rfl, H3.out⟩
 clear H2
 obtain ⟨kb, rfl, hS⟩ := hcut
 have H3 := Lib.hid hS
 clear hS
 have CF : Hid (Calls Tryz.prog 119 #[.slice (some ⟨wc.heap.size, 0, none⟩) 4 4] (wc.alloc (.cells #[.func (.func 132) #[] #[.pointer (some ⟨kb, 0, none⟩)], .func (.func 133) #[] #[.pointer (some ⟨rb, 0, none⟩)], .func (.func 134) #[] #[.pointer (some ⟨xb, 0, none⟩), .pointer (some ⟨rb, 0, none⟩)], .func (.func 136) #[] #[.pointer (some ⟨rb, 0, none⟩), .pointer (some ⟨xb, 0, none⟩)]] 125)) (CpPost (.int .i64 er) (wc.alloc (.cells #[.func (.func 132) #[] #[.pointer (some ⟨kb, 0, none⟩)], .func (.func 133) #[] #[.pointer (some ⟨rb, 0, none⟩)], .func (.func 134) #[] #[.pointer (some ⟨xb, 0, none⟩), .pointer (some ⟨rb, 0, none⟩)], .func (.func 136) #[] #[.pointer (some ⟨rb, 0, none⟩), .pointer (some ⟨xb, 0, none⟩)]] 125)))) := Lib.hid (by
  have hS8 := H3.out.mod ((Mod.refl _ wc).alloc (.cells #[.func (.func 132) #[] #[.pointer (some ⟨kb, 0, none⟩)], .func (.func 133) #[] #[.pointer (some ⟨rb, 0, none⟩)], .func (.func 134) #[] #[.pointer (some ⟨xb, 0, none⟩), .pointer (some ⟨rb, 0, none⟩)], .func (.func 136) #[] #[.pointer (some ⟨rb, 0, none⟩), .pointer (some ⟨xb, 0, none⟩)]] 125))
  have hnew := heap_alloc_new wc (.cells #[.func (.func 132) #[] #[.pointer (some ⟨kb, 0, none⟩)], .func (.func 133) #[] #[.pointer (some ⟨rb, 0, none⟩)], .func (.func 134) #[] #[.pointer (some ⟨xb, 0, none⟩), .pointer (some ⟨rb, 0, none⟩)], .func (.func 136) #[] #[.pointer (some ⟨rb, 0, none⟩), .pointer (some ⟨xb, 0, none⟩)]] 125)
  generalize wc.alloc _ = W8 at hS8 hnew ⊢
  have hwb : W8.heap[xb]? = some (.cells q.carr 144 (0, 0)) := by rw [HCI.out]; exact hS8.box 1 rfl
  have hqo := HQ.out.old hS8.1
  have hrq : W8.heap[rb]? = some (.cells q.rcells.toArray 40 (0, 0)) := hS8.box 4 rfl
  rw [← HER.out, ← HES.out]
  refine first_any W8 wc.heap.size 125 [(.func (.func 132) #[] #[.pointer (some ⟨kb, 0, none⟩)], whenE (!kn) 110), (.func (.func 133) #[] #[.pointer (some ⟨rb, 0, none⟩)], checkB q.r.path), (.func (.func 134) #[] #[.pointer (some ⟨xb, 0, none⟩), .pointer (some ⟨rb, 0, none⟩)], whenE (!q.T.is q.r.path) 60), (.func (.func 136) #[] #[.pointer (some ⟨rb, 0, none⟩), .pointer (some ⟨xb, 0, none⟩)], whenE (decide (q.r.kind ≠ 10) && !q.T.mayAt q.ids q.r.path 1) 65)] 4 rfl (by omega) hnew ?_
  intro f hf
  simp only [List.mem_cons, List.not_mem_nil, or_false] at hf
  rcases hf with rfl | rfl | rfl | rfl
  ·exact cl_read1 W8 kb kn ⟨_, hS8.box 0 rfl⟩
  ·exact cl_read2 W8 q xb hwb hqo HFT.out rb hrq
  ·exact cl_read3 W8 q xb hwb hqo HFT.out rb hrq
  ·exact cl_read4 W8 q xb hwb hqo HFT.out rb hrq)
 have H8 := Lib.hid (H3.out.mod ((Mod.refl _ wc).alloc (.cells #[.func (.func 132) #[] #[.pointer (some ⟨kb, 0, none⟩)], .func (.func 133) #[] #[.pointer (some ⟨rb, 0, none⟩)], .func (.func 134) #[] #[.pointer (some ⟨xb, 0, none⟩), .pointer (some ⟨rb, 0, none⟩)], .func (.func 136) #[] #[.pointer (some ⟨rb, 0, none⟩), .pointer (some ⟨xb, 0, none⟩)]] 125)))
 have e2 := blk_cell (H8.out.box 2 rfl) 2 (.int .i64 0) rfl
 have ze := heap_lt (H8.out.box 2 rfl)
 go_upto_region 7 with (go_at_call 119; refine CF.out.mono ?_; rintro e w9 ⟨rfl, hM9⟩; have hS9 := H8.out.mod hM9; have e2 := blk_cell (hS9.box 2 rfl) 2 (.int .i64 0) rfl; have fe := blk_free (hS9.box 2 rfl) 2; have ze := heap_lt (hS9.box 2 rfl); have H9 := Lib.hid hS9; clear hM9 hS9)
 clear CF H8 H3 e2 ze fe
 have H10 : Hid (St w (w9.setCell ⟨ob, 2, none⟩ (.int .i64 er)) (bx kb #[.bool kn] 4 :: bx xb #[.pointer (some ⟨q.tb, 0, none⟩), .int .i64 0, .slice q.ia q.ids.length q.ic, .int .i64 q.r.kind, .int .i64 q.r.xid, .string q.r.path, .string q.r.data, .slice q.aa q.r.acl.length q.ac, .int .i64 q.r.flags, .int .i64 q.r.version, .bool q.r.watch, .slice q.sa q.sn q.sc, .slice q.ra q.rn q.rc] 144 :: bx ob (([.int .i64 q.r.xid, .int .i64 q.T.zxid, .int .i64 er, .string ⟨#[]⟩, .string ⟨#[]⟩] ++ Tree.st0.vals 0 0 ++ [.slice none 0 0, .slice none 0 0, .slice none 0 0] : List Value)).toArray 33 :: bx (rb + 1) #[.int .i64 0, .int .i64 0, .int .i64 0, .string ⟨#[]⟩, .string ⟨#[]⟩, .int .i64 0, .int .i64 0, .int .i64 0, .int .i64 0, .int .i64 0, .int .i64 0, .int .i64 0, .int .i64 0, .int .i64 0, .slice none 0 0, .slice none 0 0, .slice none 0 0] 33 :: bx rb #[.int .i64 q.r.kind, .int .i64 q.r.xid, .string q.r.path, .string q.r.data, .slice q.aa q.r.acl.length q.ac, .int .i64 q.r.flags, .int .i64 q.r.version, .bool q.r.watch, .slice q.sa q.sn q.sc, .slice q.ra q.rn q.rc] 40 :: [])) := Lib.hid (H9.out.set 2 rfl 2 _)
 clear H9
 generalize w9.setCell _ _ = W3 at H10 ⊢
 have e2 := blk_cell (H10.out.box 2 rfl) 2 (.int .i64 er) rfl
 have ze := heap_lt (H10.out.box 2 rfl)
 by_cases h0 : er = 0
 ·subst h0
  have HI := Lib.hid HQ.out.tree
  obtain ⟨nd, hnd⟩ : ∃ nd, q.T.node q.r.path = some nd := by
   cases hn : q.T.node q.r.path with
   | some n => exact ⟨n, rfl⟩
   | none =>
     exfalso
     have hz := HER.out
     rw [← HES.out] at hz
     have hi : q.T.is q.r.path = false := by unfold Tree.is; rw [hn]; rfl
     rw [hi] at hz
     exact firstE_60x _ _ _ hz
  have his : q.T.is q.r.path = true := by unfold Tree.is; rw [hnd]; rfl
  obtain ⟨ln, hln⟩ : ∃ ln : Int, (nd.data.size : Int) = ln := ⟨_, rfl⟩
  obtain ⟨kc, hkc⟩ : ∃ kc : Int, ((q.T.kids q.r.path).length : Int) = kc := ⟨_, rfl⟩
  have hsv : q.T.statV q.r.path = nd.st.vals ln kc := by unfold Tree.statV; rw [hnd, ← hln, ← hkc]
  have hp : q.r.path.size ≤ maxLen := by have := HFT.out.path; unfold maxLen; omega
  have CS : Hid (∀ W, Mod (fun _ => False) w W → Calls Tryz.prog 87 #[.pointer (some ⟨q.tb, 0, none⟩), .string q.r.path] W (CpPost (.tuple #[.agg (nd.st.vals ln kc).toArray, .bool true]) W)) := Lib.hid fun W k => by
   have h := stat_any W q.tb q.T (HI.out.old k) HFT.out.tree q.r.path hp
   rw [hsv, his] at h
   exact h
  have CG : Hid (∀ W, Mod (fun _ => False) w W → Calls Tryz.prog 137 #[.pointer (some ⟨q.tb, 0, none⟩), .string q.r.path] W (CpPost (.tuple #[.string nd.data, .agg (nd.st.vals ln kc).toArray, .int .i64 (q.T.noneE q.r.path)]) W)) := Lib.hid fun W k => by
   have h := get_any W q.tb q.T (HI.out.old k) HFT.out.tree q.r.path hp
   have hdv : q.T.dataV q.r.path = nd.data := by unfold Tree.dataV; rw [hnd]
   rw [hsv, hdv] at h
   exact h
  have CK : Hid (∀ W, Mod (fun _ => False) w W → Calls Tryz.prog 138 #[.pointer (some ⟨q.tb, 0, none⟩), .string q.r.path] W (KidsPost q.T q.r.path W)) := Lib.hid fun W k => kidsX_any W q.tb q.T (HI.out.old k) HFT.out.tree q.r.path hp
  have CA : Hid (∀ W, Mod (fun _ => False) w W → Calls Tryz.prog 139 #[.pointer (some ⟨q.tb, 0, none⟩), .string q.r.path] W (AclPost (some nd) W)) := Lib.hid fun W k => by
   have h := acl_any W q.tb q.T (HI.out.old k) q.r.path hp (fun n hn => Nat.le_trans (HFT.out.tree.acl _ (node_mem hn)) (by decide))
   rw [hnd] at h
   exact h
  have HR : Hid (res = if q.r.kind = 9 then { Tree.rp0 with xid := q.r.xid, zxid := q.T.zxid, err := 0, st := nd.st, length := ln, kidn := kc, data := nd.data } else if q.r.kind = 11 then { Tree.rp0 with xid := q.r.xid, zxid := q.T.zxid, err := 0, st := nd.st, length := ln, kidn := kc, kids := q.T.kids q.r.path } else if q.r.kind = 12 then { Tree.rp0 with xid := q.r.xid, zxid := q.T.zxid, err := 0, st := nd.st, length := ln, kidn := kc, acl := nd.acl } else { Tree.rp0 with xid := q.r.xid, zxid := q.T.zxid, err := 0, st := nd.st, length := ln, kidn := kc }) := Lib.hid (by
   have e := HE.out
   rw [if_neg (by simp), hnd] at e
   rw [e]
   have hput : ∀ p : Tree.Rp1, p.put q.T q.r.path = { p with st := nd.st, length := ln, kidn := kc } := fun p => by unfold Tree.Rp1.put; rw [hnd, ← hln, ← hkc]
   simp only [hput])
  have HIS := Lib.hid his
  clear hnd his hln hkc hsv hp HE HES HER HKN HCI
  have p2 := blk_cell (H10.out.box 4 rfl) 2 (.string q.r.path) rfl
  have zr := heap_lt (H10.out.box 4 rfl)
  go_upto_region 10 with (first
   | (go_at_call 87; refine (CS.out _ H10.out.1).mono ?_; rintro e w3 ⟨rfl, hM3⟩; have H3 := Lib.hid (H10.out.mod hM3); clear hM3)
   | ((with_reducible refine at_list ?_); refine wpList_store_chunk 9 sizeStatT ob 5 rfl _ _ (H3.out.box 2 rfl) (.agg (nd.st.vals ln kc).toArray) rfl (nd.st.vals ln kc) rfl rfl (by show 5 + 9 ≤ 17; omega) (fun u hu => List.all_eq_true.1 (vals_one nd.st ln kc) u hu) ?_; intro w4 hg4 hM4 hz4; have H4 : Hid (St w w4 (bx kb #[.bool kn] 4 :: bx xb #[.pointer (some ⟨q.tb, 0, none⟩), .int .i64 0, .slice q.ia q.ids.length q.ic, .int .i64 q.r.kind, .int .i64 q.r.xid, .string q.r.path, .string q.r.data, .slice q.aa q.r.acl.length q.ac, .int .i64 q.r.flags, .int .i64 q.r.version, .bool q.r.watch, .slice q.sa q.sn q.sc, .slice q.ra q.rn q.rc] 144 :: bx ob (RpC { Tree.rp0 with xid := q.r.xid, zxid := q.T.zxid, err := 0, st := nd.st, length := ln, kidn := kc } none 0 none 0 none 0 0).toArray 33 :: bx (rb + 1) #[.int .i64 0, .int .i64 0, .int .i64 0, .string ⟨#[]⟩, .string ⟨#[]⟩, .int .i64 0, .int .i64 0, .int .i64 0, .int .i64 0, .int .i64 0, .int .i64 0, .int .i64 0, .int .i64 0, .int .i64 0, .slice none 0 0, .slice none 0 0, .slice none 0 0] 33 :: bx rb #[.int .i64 q.r.kind, .int .i64 q.r.xid, .string q.r.path, .string q.r.data, .slice q.aa q.r.acl.length q.ac, .int .i64 q.r.flags, .int .i64 q.r.version, .bool q.r.watch, .slice q.sa q.sn q.sc, .slice q.ra q.rn q.rc] 40 :: [])) := Lib.hid (H3.out.rebox 2 rfl hg4 hM4); clear hg4 hM4 hz4))
  clear CS H3 H10 e2 ze p2 zr
  have r0 := blk_cell (H4.out.box 4 rfl) 0 (.int .i64 q.r.kind) rfl
  have p2 := blk_cell (H4.out.box 4 rfl) 2 (.string q.r.path) rfl
  have zr := heap_lt (H4.out.box 4 rfl)
  have hRR := HR.out
  obtain ⟨kd, hkd⟩ : ∃ kd, q.r.kind = kd := ⟨_, rfl⟩
  rw [hkd] at r0 hRR
  by_cases h9 : kd = 9
  ·have hR : res = { Tree.rp0 with xid := q.r.xid, zxid := q.T.zxid, err := 0, st := nd.st, length := ln, kidn := kc, data := nd.data } := by rw [hRR, if_pos h9]
   subst h9
   clear hRR CK CA
   have HR := Lib.hid hR
   clear hR
   go_wp2_with (first
    | ((with_reducible refine at_list ?_); refine wpList_load_chunk 17 _ Tryz.underlying33 rfl sizeRp ⟨ob, 0, none⟩ rfl (RpC { Tree.rp0 with xid := q.r.xid, zxid := q.T.zxid, err := 0, st := nd.st, length := ln, kidn := kc, data := nd.data } none 0 none 0 none 0 0) rfl (box_chunk0 (H6.out.box 2 rfl)) ?_)
    | ((with_reducible refine at_list ?_); refine wpList_store_whole 17 sizeRp (rb + 1) rfl _ _ (H6.out.box 3 rfl) rfl (RpC { Tree.rp0 with xid := q.r.xid, zxid := q.T.zxid, err := 0, st := nd.st, length := ln, kidn := kc, data := nd.data } none 0 none 0 none 0 0) rfl rfl rfl ?_; intro w8 hg8 hM8 hz8; have HZ := Lib.hid (H6.out.rebox 3 rfl hg8 hM8); clear hg8 hM8 hz8)
    | (go_at_call 137; refine (CG.out _ H4.out.1).mono ?_; rintro e w6 ⟨rfl, hM6⟩; have hS6 := H4.out.mod hM6; have e4 := blk_cell (hS6.box 2 rfl) 4 (.string ⟨#[]⟩) rfl; have ze := heap_lt (hS6.box 2 rfl); have fe := blk_free (hS6.box 2 rfl) 4; have H6 : Hid (St w (w6.setCell ⟨ob, 4, none⟩ (.string nd.data)) (bx kb #[.bool kn] 4 :: bx xb #[.pointer (some ⟨q.tb, 0, none⟩), .int .i64 0, .slice q.ia q.ids.length q.ic, .int .i64 q.r.kind, .int .i64 q.r.xid, .string q.r.path, .string q.r.data, .slice q.aa q.r.acl.length q.ac, .int .i64 q.r.flags, .int .i64 q.r.version, .bool q.r.watch, .slice q.sa q.sn q.sc, .slice q.ra q.rn q.rc] 144 :: bx ob (RpC { Tree.rp0 with xid := q.r.xid, zxid := q.T.zxid, err := 0, st := nd.st, length := ln, kidn := kc, data := nd.data } none 0 none 0 none 0 0).toArray 33 :: bx (rb + 1) #[.int .i64 0, .int .i64 0, .int .i64 0, .string ⟨#[]⟩, .string ⟨#[]⟩, .int .i64 0, .int .i64 0, .int .i64 0, .int .i64 0, .int .i64 0, .int .i64 0, .int .i64 0, .int .i64 0, .int .i64 0, .slice none 0 0, .slice none 0 0, .slice none 0 0] 33 :: bx rb #[.int .i64 q.r.kind, .int .i64 q.r.xid, .string q.r.path, .string q.r.data, .slice q.aa q.r.acl.length q.ac, .int .i64 q.r.flags, .int .i64 q.r.version, .bool q.r.watch, .slice q.sa q.sn q.sc, .slice q.ra q.rn q.rc] 40 :: [])) := Lib.hid (hS6.set 2 rfl 4 _); clear hM6 hS6))
   have hR := HR.out
   refine bodyPost_ret (results_c1 rfl _ w8 (rb + 1) _ _ _ _ rfl (HZ.out.box 3 rfl) Tryz.underlying33 rfl sizeRp) rfl ?_
   rw [hR]
   exact ⟨none, 0, none, 0, rfl, ((HZ.out.sub (List.nil_sublist _)).nilSlice 9 1).nilSlice 46 2⟩
  clear CG
  have g9 : (kd == 9) = false := by simpa using h9
  rw [if_neg h9] at hRR
  by_cases h11 : kd = 11
  ·have hR : res = { Tree.rp0 with xid := q.r.xid, zxid := q.T.zxid, err := 0, st := nd.st, length := ln, kidn := kc, kids := q.T.kids q.r.path } := by rw [hRR, if_pos h11]
   subst h11
   clear hRR CA h9
   have HR := Lib.hid hR
   clear hR
   have CK' : Hid (∀ W, Mod (fun _ => False) w W → Calls Tryz.prog 138 #[.pointer (some ⟨q.tb, 0, none⟩), .string q.r.path] W (fun e w' => ∃ (a : Option Addr) (cap : Nat), e = .returned (.tuple #[.slice a (q.T.kids q.r.path).length cap, .int .i64 0]) ∧ Sl w' 9 1 a (q.T.kids q.r.path).length cap ((q.T.kids q.r.path).map Value.string) ∧ (∀ b, own a = some b → W.heap.size ≤ b) ∧ Mod (fun _ => False) W w')) := Lib.hid fun W k => by
    have h := CK.out W k
    unfold KidsPost at h
    rw [HIS.out] at h
    simp only [if_true] at h
    exact h
   clear CK
   go_wp2_with (first
    | ((with_reducible refine at_list ?_); refine wpList_load_chunk 17 _ Tryz.underlying33 rfl sizeRp ⟨ob, 0, none⟩ rfl (RpC { Tree.rp0 with xid := q.r.xid, zxid := q.T.zxid, err := 0, st := nd.st, length := ln, kidn := kc, kids := q.T.kids q.r.path } none 0 ka kcap none 0 0) rfl (box_chunk0 (H6.out.box 3 rfl)) ?_)
    | ((with_reducible refine at_list ?_); refine wpList_store_whole 17 sizeRp (rb + 1) rfl _ _ (H6.out.box 4 rfl) rfl (RpC { Tree.rp0 with xid := q.r.xid, zxid := q.T.zxid, err := 0, st := nd.st, length := ln, kidn := kc, kids := q.T.kids q.r.path } none 0 ka kcap none 0 0) rfl rfl rfl ?_; intro w8 hg8 hM8 hz8; have HZ := Lib.hid (H6.out.rebox 4 rfl hg8 hM8); clear hg8 hM8 hz8)
    | (go_at_call 138; refine (CK'.out _ H4.out.1).mono ?_; rintro e w6 ⟨ka, kcap, rfl, hsl, hown, hM6⟩; have hS6 := H4.out.newSlice hM6 hsl hown; have e4 := blk_cell (hS6.box 3 rfl) 15 (.slice none 0 0) rfl; have ze := heap_lt (hS6.box 3 rfl); have fe := blk_free (hS6.box 3 rfl) 15; have H6 : Hid (St w (w6.setCell ⟨ob, 15, none⟩ (.slice ka (q.T.kids q.r.path).length kcap)) (sl 9 1 ka (q.T.kids q.r.path).length kcap ((q.T.kids q.r.path).map Value.string) :: bx kb #[.bool kn] 4 :: bx xb #[.pointer (some ⟨q.tb, 0, none⟩), .int .i64 0, .slice q.ia q.ids.length q.ic, .int .i64 q.r.kind, .int .i64 q.r.xid, .string q.r.path, .string q.r.data, .slice q.aa q.r.acl.length q.ac, .int .i64 q.r.flags, .int .i64 q.r.version, .bool q.r.watch, .slice q.sa q.sn q.sc, .slice q.ra q.rn q.rc] 144 :: bx ob (RpC { Tree.rp0 with xid := q.r.xid, zxid := q.T.zxid, err := 0, st := nd.st, length := ln, kidn := kc, kids := q.T.kids q.r.path } none 0 ka kcap none 0 0).toArray 33 :: bx (rb + 1) #[.int .i64 0, .int .i64 0, .int .i64 0, .string ⟨#[]⟩, .string ⟨#[]⟩, .int .i64 0, .int .i64 0, .int .i64 0, .int .i64 0, .int .i64 0, .int .i64 0, .int .i64 0, .int .i64 0, .int .i64 0, .slice none 0 0, .slice none 0 0, .slice none 0 0] 33 :: bx rb #[.int .i64 q.r.kind, .int .i64 q.r.xid, .string q.r.path, .string q.r.data, .slice q.aa q.r.acl.length q.ac, .int .i64 q.r.flags, .int .i64 q.r.version, .bool q.r.watch, .slice q.sa q.sn q.sc, .slice q.ra q.rn q.rc] 40 :: [])) := Lib.hid (hS6.set 3 rfl 15 _); clear hM6 hsl hown hS6))
   have hR := HR.out
   refine bodyPost_ret (results_c1 rfl _ w8 (rb + 1) _ _ _ _ rfl (HZ.out.box 4 rfl) Tryz.underlying33 rfl sizeRp) rfl ?_
   rw [hR]
   exact ⟨none, 0, ka, kcap, rfl, (HZ.out.one 0 rfl).nilSlice 46 2⟩
  have g11 : (kd == 11) = false := by simpa using h11
  clear CK
  rw [if_neg h11] at hRR
  by_cases h12 : kd = 12
  ·have hR : res = { Tree.rp0 with xid := q.r.xid, zxid := q.T.zxid, err := 0, st := nd.st, length := ln, kidn := kc, acl := nd.acl } := by rw [hRR, if_pos h12]
   subst h12
   clear hRR h9 h11
   have HR := Lib.hid hR
   clear hR
   go_wp2_with (first
    | ((with_reducible refine at_list ?_); refine wpList_load_chunk 17 _ Tryz.underlying33 rfl sizeRp ⟨ob, 0, none⟩ rfl (RpC { Tree.rp0 with xid := q.r.xid, zxid := q.T.zxid, err := 0, st := nd.st, length := ln, kidn := kc, acl := nd.acl } aa nd.acl.length none 0 none 0 0) rfl (box_chunk0 (H6.out.box 3 rfl)) ?_)
    | ((with_reducible refine at_list ?_); refine wpList_store_whole 17 sizeRp (rb + 1) rfl _ _ (H6.out.box 4 rfl) rfl (RpC { Tree.rp0 with xid := q.r.xid, zxid := q.T.zxid, err := 0, st := nd.st, length := ln, kidn := kc, acl := nd.acl } aa nd.acl.length none 0 none 0 0) rfl rfl rfl ?_; intro w8 hg8 hM8 hz8; have HZ := Lib.hid (H6.out.rebox 4 rfl hg8 hM8); clear hg8 hM8 hz8)
    | (go_at_call 139; refine (CA.out _ H4.out.1).mono ?_; rintro e w6 ⟨aa, rfl, hsl, hown, hM6⟩; have hS6 := H4.out.newSlice hM6 hsl hown; have e4 := blk_cell (hS6.box 3 rfl) 14 (.slice none 0 0) rfl; have ze := heap_lt (hS6.box 3 rfl); have fe := blk_free (hS6.box 3 rfl) 14; have H6 : Hid (St w (w6.setCell ⟨ob, 14, none⟩ (.slice aa nd.acl.length nd.acl.length)) (sl 46 2 aa nd.acl.length nd.acl.length (nd.acl.flatMap ARow.cells) :: bx kb #[.bool kn] 4 :: bx xb #[.pointer (some ⟨q.tb, 0, none⟩), .int .i64 0, .slice q.ia q.ids.length q.ic, .int .i64 q.r.kind, .int .i64 q.r.xid, .string q.r.path, .string q.r.data, .slice q.aa q.r.acl.length q.ac, .int .i64 q.r.flags, .int .i64 q.r.version, .bool q.r.watch, .slice q.sa q.sn q.sc, .slice q.ra q.rn q.rc] 144 :: bx ob (RpC { Tree.rp0 with xid := q.r.xid, zxid := q.T.zxid, err := 0, st := nd.st, length := ln, kidn := kc, acl := nd.acl } aa nd.acl.length none 0 none 0 0).toArray 33 :: bx (rb + 1) #[.int .i64 0, .int .i64 0, .int .i64 0, .string ⟨#[]⟩, .string ⟨#[]⟩, .int .i64 0, .int .i64 0, .int .i64 0, .int .i64 0, .int .i64 0, .int .i64 0, .int .i64 0, .int .i64 0, .int .i64 0, .slice none 0 0, .slice none 0 0, .slice none 0 0] 33 :: bx rb #[.int .i64 q.r.kind, .int .i64 q.r.xid, .string q.r.path, .string q.r.data, .slice q.aa q.r.acl.length q.ac, .int .i64 q.r.flags, .int .i64 q.r.version, .bool q.r.watch, .slice q.sa q.sn q.sc, .slice q.ra q.rn q.rc] 40 :: [])) := Lib.hid (hS6.set 3 rfl 14 _); clear hM6 hsl hown hS6))
   have hR := HR.out
   refine bodyPost_ret (results_c1 rfl _ w8 (rb + 1) _ _ _ _ rfl (HZ.out.box 4 rfl) Tryz.underlying33 rfl sizeRp) rfl ?_
   rw [hR]
   exact ⟨aa, nd.acl.length, none, 0, rfl, ((HZ.out.one 0 rfl).nilSlice 9 1).perm (List.Perm.swap _ _ _)⟩
  have g12 : (kd == 12) = false := by simpa using h12
  rw [if_neg h12] at hRR
  have HR2 := Lib.hid hRR
  clear hRR h9 h11 h12 CA
  go_wp2_with (first
   | ((with_reducible refine at_list ?_); refine wpList_load_chunk 17 _ Tryz.underlying33 rfl sizeRp ⟨ob, 0, none⟩ rfl (RpC { Tree.rp0 with xid := q.r.xid, zxid := q.T.zxid, err := 0, st := nd.st, length := ln, kidn := kc } none 0 none 0 none 0 0) rfl (box_chunk0 (H4.out.box 2 rfl)) ?_)
   | ((with_reducible refine at_list ?_); refine wpList_store_whole 17 sizeRp (rb + 1) rfl _ _ (H4.out.box 3 rfl) rfl (RpC { Tree.rp0 with xid := q.r.xid, zxid := q.T.zxid, err := 0, st := nd.st, length := ln, kidn := kc } none 0 none 0 none 0 0) rfl rfl rfl ?_; intro w8 hg8 hM8 hz8; have HZ := Lib.hid (H4.out.rebox 3 rfl hg8 hM8); clear hg8 hM8 hz8))
  have hR := HR2.out
  refine bodyPost_ret (results_c1 rfl _ w8 (rb + 1) _ _ _ _ rfl (HZ.out.box 3 rfl) Tryz.underlying33 rfl sizeRp) rfl ?_
  rw [hR]
  exact ⟨none, 0, none, 0, rfl, ((HZ.out.sub (List.nil_sublist _)).nilSlice 9 1).nilSlice 46 2⟩
 have g0 : (er != 0) = true := by simpa using h0
 have g1 : (er == 0) = false := by simpa using h0
 have hR : res = { Tree.rp0 with xid := q.r.xid, zxid := q.T.zxid, err := er } := by
  have e := HE.out
  rw [if_pos h0] at e
  exact e
 go_wp2_with (first
  | ((with_reducible refine at_list ?_); refine wpList_load_chunk 17 _ Tryz.underlying33 rfl sizeRp ⟨ob, 0, none⟩ rfl (([.int .i64 q.r.xid, .int .i64 q.T.zxid, .int .i64 er, .string ⟨#[]⟩, .string ⟨#[]⟩] ++ Tree.st0.vals 0 0 ++ [.slice none 0 0, .slice none 0 0, .slice none 0 0] : List Value)) rfl (box_chunk0 (H10.out.box 2 rfl)) ?_)
  | ((with_reducible refine at_list ?_); refine wpList_store_whole 17 sizeRp (rb + 1) rfl _ _ (H10.out.box 3 rfl) rfl (([.int .i64 q.r.xid, .int .i64 q.T.zxid, .int .i64 er, .string ⟨#[]⟩, .string ⟨#[]⟩] ++ Tree.st0.vals 0 0 ++ [.slice none 0 0, .slice none 0 0, .slice none 0 0] : List Value)) rfl rfl rfl ?_; intro w5 hg5 hM5 hz5; have H11 := Lib.hid (H10.out.rebox 3 rfl hg5 hM5); clear hg5 hM5 hz5))
 refine bodyPost_ret (results_c1 rfl _ w5 (rb + 1) _ _ _ _ rfl (H11.out.box 3 rfl) Tryz.underlying33 rfl sizeRp) rfl ?_
 subst hR
 exact ⟨none, 0, none, 0, rfl, ((H11.out.sub (List.nil_sublist _)).nilSlice 9 1).nilSlice 46 2⟩
end Go.Proofs.YtonnbkebjeoflaaGreatDoor
