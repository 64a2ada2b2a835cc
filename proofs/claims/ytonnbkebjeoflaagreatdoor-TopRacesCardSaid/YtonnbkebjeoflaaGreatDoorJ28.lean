/-
  Contracts and plain laws of PrepC.
  Conditions: each law states its own.
-/
import Derived.Test.YtonnbkebjeoflaaGreatDoorJ27
set_option linter.unusedSectionVars false
set_option linter.unusedSimpArgs false
set_option linter.unusedVariables false
set_option maxRecDepth 100000
namespace Go.Proofs.YtonnbkebjeoflaaGreatDoor
open Go.RowKit Go.Maps
def TxPost (R : Tx × Int) (w : World) (e : Ending) (w' : World) : Prop :=
 ∃ (a : Option Addr) (cap : Nat), e = .returned (.tuple #[.agg (TxR.cells ⟨R.1, a, cap, none, 0, 0⟩).toArray, .int .i64 R.2]) ∧ St w w' [sl 46 2 a R.1.acl.length cap (R.1.acl.flatMap ARow.cells)]
theorem statV_vals (T : Tree) (p : ByteArray) : ∃ len kn, T.statV p = (T.stat p).vals len kn ∧ (T.is p = true → kn = ((T.kids p).length : Int)) ∧ (T.is p = false → kn = 0) := by
 unfold Tree.statV Tree.stat Tree.is
 cases T.node p with
 | none => exact ⟨0, 0, rfl, fun h => by simp at h, fun _ => rfl⟩
 | some n => exact ⟨_, _, rfl, fun _ => rfl, fun h => by simp at h⟩
theorem stat_int {T : Tree} (h : ∀ n ∈ T.nodes, okInt n.2.st.cversion) (p : ByteArray) : okInt (T.stat p).cversion := by
 unfold Tree.stat
 cases hn : T.node p with
 | none => exact ⟨by decide, by decide⟩
 | some n => exact h (p, n) (node_mem hn)
theorem St.one {w0 w : World} {l : List Thing} (h : St w0 w l) (i : Nat) {t : Thing} (hi : l[i]? = some t) : St w0 w [t] := (h.pick i hi).sub ((List.nil_sublist _).cons_cons _)
theorem numbered_any (p : ByteArray) (n : Int) (hp : p.size ≤ 2000000000) (hn : okInt n) (w : World) (hT : Env w) : Calls Tryz.prog 185 #[.string p, .int .i64 n] w (CpPost (.string (numberedB p n)) w) := (Numbered_any p n (by omega) hn.1 hn.2 w hT.tab).mono fun e w' h => h
theorem numbered_le (p : ByteArray) (n : Int) (hn : okInt n) : (numberedB p n).size ≤ p.size + 30 := by
 have hl : p.data.toList.length = p.size := by rw [Array.length_toList]; rfl
 have hs : (numberedB p n).size = (numL p.data.toList n).length := by unfold numberedB tx; show Array.size _ = _; simp
 rw [hs, numL, List.length_append, lowT_length, hl]
 omega
set_option maxHeartbeats 16000000 in
theorem create_ff (q : WishR) (w : World) (hq : q.ok w) (hf : q.fit) (h0 : q.s ≠ 0) (hn2 : flag q.r.flags 2 = false) (hn1 : flag q.r.flags 1 = false) :
 Calls Tryz.prog 116 #[.agg q.cells.toArray] w (TxPost (q.T.mkTx q.s q.ids q.r) w) := by
 obtain ⟨up, hup⟩ : ∃ up, parentB q.r.path = up := ⟨_, rfl⟩
 have hpl := parent_le q.r.path
 rw [hup] at hpl
 have hpth := hf.path
 have hups : up.size ≤ maxLen := by unfold maxLen; omega
 obtain ⟨len, kn, hsv, hk1, hk0⟩ := statV_vals q.T up
 have hci := stat_int hf.stats up
 obtain ⟨st, hst⟩ : ∃ st, q.T.stat up = st := ⟨_, rfl⟩
 obtain ⟨is, his⟩ : ∃ is, q.T.is up = is := ⟨_, rfl⟩
 rw [hst] at hsv hci
 obtain ⟨cv, hcv⟩ : ∃ cv, st.cversion = cv := ⟨_, rfl⟩
 rw [hcv] at hci
 obtain ⟨whole, hwhole⟩ : ∃ wh, q.r.path = wh := ⟨_, rfl⟩
 have hwl : whole.size ≤ 4000000000 := by rw [← hwhole]; omega
 obtain ⟨es, hes⟩ : ∃ es : List Int, [checkB q.r.path, whenE (decide (100 < q.r.data.size) || decide (q.r.flags < 0) || decide (3 < q.r.flags)) 1, whenE (!A.rightL q.r.acl) 50, whenE (!is) 60, whenE (decide (st.owner ≠ 0)) 63, whenE (!q.T.mayAt q.ids up 4) 65, whenE (decide (checkB whole ≠ 0)) 41, whenE (q.T.is whole) 61, whenE (decide (64 ≤ q.T.nodes.length)) 64, whenE (flag q.r.flags 1 && decide (32 ≤ (q.T.owned q.s).length)) 64] = es := ⟨_, rfl⟩
 have hE : q.T.mkTx q.s q.ids q.r = (⟨1, whole, q.r.data, q.r.acl, 0, inc cv, 0⟩, firstE es) := by
  unfold Tree.mkTx
  simp only [hup, hst, his, hcv, hn2, ← hes]
  simp only [Bool.false_eq_true, if_false, hwhole, hn1]
  try simp only [Bool.false_eq_true, if_false]
 rw [hE]
 obtain ⟨f2, hf2⟩ : ∃ f2, bits .and .i64 q.r.flags 2 = f2 := ⟨_, rfl⟩
 obtain ⟨f1, hf1⟩ : ∃ f1, bits .and .i64 q.r.flags 1 = f1 := ⟨_, rfl⟩
 have g2 : (f2 != 0) = false := by unfold flag at hn2; rw [hf2] at hn2; simpa using hn2
 have g1 : (f1 != 0) = false := by unfold flag at hn1; rw [hf1] at hn1; simpa using hn1
 have HQ := Lib.hid hq
 have HFT := Lib.hid hf
 have H0 := Lib.hid h0
 have HUP := Lib.hid (And.intro hups hwl)
 have HES := Lib.hid hes
 have CP : Hid (∀ W, Calls Tryz.prog 115 #[.string q.r.path] W (CpPost (.string up) W)) := Lib.hid fun W => by rw [← hup]; exact parentP_any q.r.path (by omega) W
 have CS : Hid (∀ W, Mod (fun _ => False) w W → Calls Tryz.prog 87 #[.pointer (some ⟨q.tb, 0, none⟩), .string up] W (CpPost (.tuple #[.agg (st.vals len kn).toArray, .bool is]) W)) := Lib.hid fun W k => by
  have := stat_any W q.tb q.T (hq.tree.old k) hf.tree up hups
  rw [hsv, his] at this
  exact this
 have CC : Hid (∀ W, Mod (fun _ => False) w W → Calls Tryz.prog 84 #[.slice q.aa q.r.acl.length q.ac] W (NewSl 46 2 (q.r.acl.flatMap ARow.cells) q.r.acl.length W)) := Lib.hid fun W k => cloneAcl_any q.aa q.r.acl.length q.ac (q.r.acl.flatMap ARow.cells) W (hq.acl.mod k (fun _ _ h => h)) arow_one (by have := hf.acl; omega)
 have HW := Lib.hid hwhole
 obtain ⟨an, han⟩ : ∃ an, q.r.acl.length = an := ⟨_, rfl⟩
 have HAN := Lib.hid han
 have HB := Lib.hid (((St.start w).box1 q.carr 144).box1 #[.int .i64 0, .string ⟨#[]⟩, .string ⟨#[]⟩, .slice none 0 0, .int .i64 0, .int .i64 0, .int .i64 0, .slice none 0 0] 61)
 rw [carr_eq]
 clear hq hf h0 hups hwl hup hpl hsv hk1 hk0 hst his hci hE hes hn2 hn1 hpth hwhole han
 go_enter Tryz.func116, Tryz.ntmps116
 go_upto_region 1 with (fail)
 rw [World.size_alloc] at HB
 generalize hW : (w.alloc _).alloc _ = W at HB ⊢
 generalize w.heap.size = xb at HB ⊢
 clear hW
 have c5 := blk_cell (HB.out.box 1 rfl) 5 (.string q.r.path) rfl
 have c0 := blk_cell (HB.out.box 1 rfl) 0 (.pointer (some ⟨q.tb, 0, none⟩)) rfl
 have zx := heap_lt (HB.out.box 1 rfl)
 go_upto_region 3 with (first
  | (go_at_call 115; refine (CP.out _).mono ?_; rintro e w2 ⟨rfl, hM2⟩; have c0 := hM2.cell c0 id; have zx := Nat.lt_of_lt_of_le zx hM2.size; have H2 := Lib.hid ((HB.out.mod hM2).box1 #[.string up] 9); clear hM2)
  | (go_at_call 87; refine (CS.out _ H2.out.1).mono ?_; rintro e w3 ⟨rfl, hM3⟩; have H3 := Lib.hid (((H2.out.mod hM3).box1 #[.int .i64 0, .int .i64 0, .int .i64 0, .int .i64 0, .int .i64 0, .int .i64 0, .int .i64 0, .int .i64 0, .int .i64 0] 29).box1 #[.bool false] 4); clear hM3)
  | ((with_reducible refine at_list ?_); refine wpList_store_whole 9 sizeStatT w3.heap.size rfl _ _ (H3.out.box 1 rfl) rfl (st.vals len kn) rfl rfl rfl ?_; intro w4 hg4 hM4 hz4; have hS4 := H3.out.rebox 1 rfl hg4 hM4; rw [World.size_alloc] at hS4; simp only [List.set_cons_succ, List.set_cons_zero] at hS4; have cb := blk_cell (hS4.box 0 rfl) 0 (.bool false) rfl; have fb := blk_free (hS4.box 0 rfl) 0; have zb := heap_lt (hS4.box 0 rfl); have H4 := Lib.hid (hS4.set 0 rfl 0 (.bool is)); clear hg4 hM4 hz4 hS4 H3))
 have h4 := H4.out
 simp only [List.set_cons_zero] at h4
 generalize w4.setCell _ _ = w5 at h4 ⊢
 generalize w3.heap.size + 1 = ib at h4 ⊢
 generalize w3.heap.size = sb at h4 ⊢
 generalize w2.heap.size = ub at h4 ⊢
 have H5 := Lib.hid h4
 clear h4 H4 H2 HB cb fb zb c0 c5 zx CP CS
 have c5 := blk_cell (H5.out.box 4 rfl) 5 (.string q.r.path) rfl
 have c8 := blk_cell (H5.out.box 4 rfl) 8 (.int .i64 q.r.flags) rfl
 have zx := heap_lt (H5.out.box 4 rfl)
 have s4 := blk_cell (H5.out.box 1 rfl) 4 (.int .i64 st.cversion) rfl
 have zs := heap_lt (H5.out.box 1 rfl)
 rw [hcv] at s4
 have H6 := Lib.hid (H5.out.box1 #[.string q.r.path] 9)
 go_upto_region 6 with (fail)
 have h7 : St w (w5.alloc (.cells #[.string whole] 9)) (bx w5.heap.size #[.string whole] 9 :: bx ib #[.bool is] 4 :: bx sb (st.vals len kn).toArray 29 :: bx ub #[.string up] 9 :: bx (xb + 1) #[.int .i64 0, .string ⟨#[]⟩, .string ⟨#[]⟩, .slice none 0 0, .int .i64 0, .int .i64 0, .int .i64 0, .slice none 0 0] 61 :: bx xb q.carr 144 :: []) := by rw [← HW.out]; exact H6.out
 rw [HW.out]
 generalize w5.alloc _ = w7 at h7 ⊢
 generalize w5.heap.size = vb at h7 ⊢
 have H7 := Lib.hid h7
 clear h7 H6 H5 c5 c8 zx s4 zs
 have CF : Hid (Calls Tryz.prog 119 #[.slice (some ⟨w7.heap.size, 0, none⟩) 10 10] (w7.alloc (.cells #[.func (.func 186) #[] #[.pointer (some ⟨xb, 0, none⟩)], .func (.func 187) #[] #[.pointer (some ⟨xb, 0, none⟩)], .func (.func 188) #[] #[.pointer (some ⟨xb, 0, none⟩)], .func (.func 190) #[] #[.pointer (some ⟨ib, 0, none⟩)], .func (.func 191) #[] #[.pointer (some ⟨sb, 0, none⟩)], .func (.func 192) #[] #[.pointer (some ⟨xb, 0, none⟩), .pointer (some ⟨ub, 0, none⟩)], .func (.func 193) #[] #[.pointer (some ⟨vb, 0, none⟩)], .func (.func 194) #[] #[.pointer (some ⟨xb, 0, none⟩), .pointer (some ⟨vb, 0, none⟩)], .func (.func 195) #[] #[.pointer (some ⟨xb, 0, none⟩)], .func (.func 196) #[] #[.pointer (some ⟨xb, 0, none⟩)]] 125)) (CpPost (.int .i64 (firstE es)) (w7.alloc (.cells #[.func (.func 186) #[] #[.pointer (some ⟨xb, 0, none⟩)], .func (.func 187) #[] #[.pointer (some ⟨xb, 0, none⟩)], .func (.func 188) #[] #[.pointer (some ⟨xb, 0, none⟩)], .func (.func 190) #[] #[.pointer (some ⟨ib, 0, none⟩)], .func (.func 191) #[] #[.pointer (some ⟨sb, 0, none⟩)], .func (.func 192) #[] #[.pointer (some ⟨xb, 0, none⟩), .pointer (some ⟨ub, 0, none⟩)], .func (.func 193) #[] #[.pointer (some ⟨vb, 0, none⟩)], .func (.func 194) #[] #[.pointer (some ⟨xb, 0, none⟩), .pointer (some ⟨vb, 0, none⟩)], .func (.func 195) #[] #[.pointer (some ⟨xb, 0, none⟩)], .func (.func 196) #[] #[.pointer (some ⟨xb, 0, none⟩)]] 125)))) := Lib.hid (by
  have hS8 := H7.out.mod ((Mod.refl _ w7).alloc (.cells #[.func (.func 186) #[] #[.pointer (some ⟨xb, 0, none⟩)], .func (.func 187) #[] #[.pointer (some ⟨xb, 0, none⟩)], .func (.func 188) #[] #[.pointer (some ⟨xb, 0, none⟩)], .func (.func 190) #[] #[.pointer (some ⟨ib, 0, none⟩)], .func (.func 191) #[] #[.pointer (some ⟨sb, 0, none⟩)], .func (.func 192) #[] #[.pointer (some ⟨xb, 0, none⟩), .pointer (some ⟨ub, 0, none⟩)], .func (.func 193) #[] #[.pointer (some ⟨vb, 0, none⟩)], .func (.func 194) #[] #[.pointer (some ⟨xb, 0, none⟩), .pointer (some ⟨vb, 0, none⟩)], .func (.func 195) #[] #[.pointer (some ⟨xb, 0, none⟩)], .func (.func 196) #[] #[.pointer (some ⟨xb, 0, none⟩)]] 125))
  have hnew := heap_alloc_new w7 (.cells #[.func (.func 186) #[] #[.pointer (some ⟨xb, 0, none⟩)], .func (.func 187) #[] #[.pointer (some ⟨xb, 0, none⟩)], .func (.func 188) #[] #[.pointer (some ⟨xb, 0, none⟩)], .func (.func 190) #[] #[.pointer (some ⟨ib, 0, none⟩)], .func (.func 191) #[] #[.pointer (some ⟨sb, 0, none⟩)], .func (.func 192) #[] #[.pointer (some ⟨xb, 0, none⟩), .pointer (some ⟨ub, 0, none⟩)], .func (.func 193) #[] #[.pointer (some ⟨vb, 0, none⟩)], .func (.func 194) #[] #[.pointer (some ⟨xb, 0, none⟩), .pointer (some ⟨vb, 0, none⟩)], .func (.func 195) #[] #[.pointer (some ⟨xb, 0, none⟩)], .func (.func 196) #[] #[.pointer (some ⟨xb, 0, none⟩)]] 125)
  generalize w7.alloc _ = W8 at hS8 hnew ⊢
  have hwb := hS8.box 5 rfl
  have hqo := HQ.out.old hS8.1
  rw [← HES.out]
  refine first_any W8 w7.heap.size 125 [(.func (.func 186) #[] #[.pointer (some ⟨xb, 0, none⟩)], checkB q.r.path), (.func (.func 187) #[] #[.pointer (some ⟨xb, 0, none⟩)], whenE (decide (100 < q.r.data.size) || decide (q.r.flags < 0) || decide (3 < q.r.flags)) 1), (.func (.func 188) #[] #[.pointer (some ⟨xb, 0, none⟩)], whenE (!A.rightL q.r.acl) 50), (.func (.func 190) #[] #[.pointer (some ⟨ib, 0, none⟩)], whenE (!is) 60), (.func (.func 191) #[] #[.pointer (some ⟨sb, 0, none⟩)], whenE (decide (st.owner ≠ 0)) 63), (.func (.func 192) #[] #[.pointer (some ⟨xb, 0, none⟩), .pointer (some ⟨ub, 0, none⟩)], whenE (!q.T.mayAt q.ids up 4) 65), (.func (.func 193) #[] #[.pointer (some ⟨vb, 0, none⟩)], whenE (decide (checkB whole ≠ 0)) 41), (.func (.func 194) #[] #[.pointer (some ⟨xb, 0, none⟩), .pointer (some ⟨vb, 0, none⟩)], whenE (q.T.is whole) 61), (.func (.func 195) #[] #[.pointer (some ⟨xb, 0, none⟩)], whenE (decide (64 ≤ q.T.nodes.length)) 64), (.func (.func 196) #[] #[.pointer (some ⟨xb, 0, none⟩)], whenE (flag q.r.flags 1 && decide (32 ≤ (q.T.owned q.s).length)) 64)] 10 rfl (by omega) hnew ?_
  intro f hf
  simp only [List.mem_cons, List.not_mem_nil, or_false] at hf
  rcases hf with rfl | rfl | rfl | rfl | rfl | rfl | rfl | rfl | rfl | rfl
  ·exact cl_create1 W8 q xb hwb hqo HFT.out
  ·exact cl_create2 W8 q xb hwb hqo HFT.out
  ·exact cl_create3 W8 q xb hwb hqo HFT.out
  ·exact cl_create4 W8 ib is ⟨_, hS8.box 1 rfl⟩
  ·exact cl_create5 W8 sb st len kn (hS8.box 2 rfl)
  ·exact cl_create6 W8 q xb hwb hqo HFT.out ub up ⟨_, hS8.box 3 rfl⟩ HUP.out.1
  ·exact cl_create7 W8 vb whole ⟨_, hS8.box 0 rfl⟩ HUP.out.2 hqo.env.rdy
  ·exact cl_create8 W8 q xb hwb hqo HFT.out vb whole ⟨_, hS8.box 0 rfl⟩ (by have := HUP.out.2; unfold maxLen; omega)
  ·exact cl_create9 W8 q xb hwb hqo HFT.out
  ·exact cl_create10 W8 q xb hwb hqo HFT.out H0.out)
 have H8 := Lib.hid (H7.out.mod ((Mod.refl _ w7).alloc (.cells #[.func (.func 186) #[] #[.pointer (some ⟨xb, 0, none⟩)], .func (.func 187) #[] #[.pointer (some ⟨xb, 0, none⟩)], .func (.func 188) #[] #[.pointer (some ⟨xb, 0, none⟩)], .func (.func 190) #[] #[.pointer (some ⟨ib, 0, none⟩)], .func (.func 191) #[] #[.pointer (some ⟨sb, 0, none⟩)], .func (.func 192) #[] #[.pointer (some ⟨xb, 0, none⟩), .pointer (some ⟨ub, 0, none⟩)], .func (.func 193) #[] #[.pointer (some ⟨vb, 0, none⟩)], .func (.func 194) #[] #[.pointer (some ⟨xb, 0, none⟩), .pointer (some ⟨vb, 0, none⟩)], .func (.func 195) #[] #[.pointer (some ⟨xb, 0, none⟩)], .func (.func 196) #[] #[.pointer (some ⟨xb, 0, none⟩)]] 125)))
 go_upto_region 7 with (go_at_call 119; refine CF.out.mono ?_; rintro e w9 ⟨rfl, hM9⟩; have H9 := Lib.hid (H8.out.mod hM9); clear hM9)
 clear CF H8 H7
 have HCV := Lib.hid hcv
 have KP : Hid (∀ (w' : World), St w w' (bx vb #[.string whole] 9 :: bx ib #[.bool is] 4 :: bx sb (st.vals len kn).toArray 29 :: bx ub #[.string up] 9 :: bx (xb + 1) #[.int .i64 0, .string ⟨#[]⟩, .string ⟨#[]⟩, .slice none 0 0, .int .i64 0, .int .i64 0, .int .i64 0, .slice none 0 0] 61 :: bx xb q.carr 144 :: []) → w'.cell? ⟨vb, 0, none⟩ = some (.string whole) ∧ w'.cell? ⟨xb, 6, none⟩ = some (.string q.r.data) ∧ w'.cell? ⟨xb, 7, none⟩ = some (.slice q.aa q.r.acl.length q.ac) ∧ w'.cell? ⟨sb, 4, none⟩ = some (.int .i64 cv)) := Lib.hid fun w' h => ⟨blk_cell (h.box 0 rfl) 0 _ rfl, blk_cell (h.box 5 rfl) 6 _ rfl, blk_cell (h.box 5 rfl) 7 _ rfl, by rw [← HCV.out]; exact blk_cell (h.box 2 rfl) 4 _ rfl⟩
 have HA := Lib.hid H9.out.drew
 refine wp_region_held_drew (S := fun w' => w'.cell? ⟨vb, 0, none⟩ = some (.string whole) ∧ w'.cell? ⟨xb, 6, none⟩ = some (.string q.r.data) ∧ w'.cell? ⟨xb, 7, none⟩ = some (.slice q.aa q.r.acl.length q.ac) ∧ w'.cell? ⟨sb, 4, none⟩ = some (.int .i64 cv)) (by kernel_rfl) (KP.out _ HA.out) (fun hHeld => ?_)
 clear H9
 generalize w9.drew = w9 at HA hHeld ⊢
 refine tk 0 (some 47) ?_ rfl rfl hHeld ?_ ?_
 rotate_left
 ·intro wq hSw; (try dsimp only at hSw); go_simp; try with_reducible rfl
 refine tk 1 (some 48) ?_ rfl rfl hHeld ?_ ?_
 rotate_left
 ·intro wq hSw; (try dsimp only at hSw); go_simp; try with_reducible rfl
 refine tk 2 (some 49) ?_ rfl rfl hHeld ?_ ?_
 rotate_left
 ·intro wq hSw; (try dsimp only at hSw); go_simp; try with_reducible rfl
 refine tk 3 (some 50) ?_ rfl rfl hHeld ?_ ?_
 rotate_left
 ·intro wq hSw; (try dsimp only at hSw); go_simp; try with_reducible rfl
 refine tk 4 (some 51) ?_ rfl rfl hHeld ?_ ?_
 rotate_left
 ·intro wq hSw; (try dsimp only at hSw); go_simp; try with_reducible rfl
 refine tk 5 (some 52) ?_ rfl rfl hHeld ?_ ?_
 rotate_left
 ·intro wq hSw; (try dsimp only at hSw); go_simp; try with_reducible rfl
 refine tk 6 (some 53) ?_ rfl rfl hHeld ?_ ?_
 rotate_left
 ·intro wq hSw; (try dsimp only at hSw); go_simp; try with_reducible rfl
 try simp only [Act.put, Nat.zero_add, List.setIfInBounds_toArray, List.set_cons_zero, List.set_cons_succ]
 refine tk 8 (some 55) ?_ rfl rfl hHeld ?_ ?_
 rotate_left
 ·intro wq hSw; (try dsimp only at hSw); go_simp; try with_reducible rfl
 refine tk 9 (some 56) ?_ rfl rfl hHeld ?_ ?_
 rotate_left
 ·intro wq hSw; (try dsimp only at hSw); go_simp; try with_reducible rfl
 refine tk 10 (some 57) ?_ rfl rfl hHeld ?_ ?_
 rotate_left
 ·intro wq hSw; (try dsimp only at hSw); go_simp; try with_reducible rfl
 try simp only [Act.put, Nat.zero_add, List.setIfInBounds_toArray, List.set_cons_zero, List.set_cons_succ]
 refine wpAnyH_ready (rs := [7, 12]) (by kernel_rfl) (by simp) ?_
 refine (AllReadyH.cons (o := ⟨some 54, _, _, _, _, _⟩) rfl (fun K hK => ?_) (AllReadyH.cons (o := ⟨some 9, _, _, _, _, _⟩) rfl (fun K hK => ?_) AllReadyH.nil))
 focus
  go_simp
  refine (CC.out _ HA.out.1).mono ?_
  rintro e w10 ⟨a2, cap2, rfl, hs2, hf2, hM10⟩
  have H10 := Lib.hid (HA.out.newSlice hM10 hs2 hf2)
  clear hs2 hf2 hM10
  refine hK.out _ _ (KP.out _ H10.out.tail) (fun hHeld => ?_)
  clear hK K
  try simp only [Act.put, Nat.zero_add, List.setIfInBounds_toArray, List.set_cons_zero, List.set_cons_succ]
  refine tk 11 (some 58) ?_ rfl rfl hHeld ?_ ?_
  rotate_left
  ·intro wq hSw; (try dsimp only at hSw); go_simp; try with_reducible rfl
  try simp only [Act.put, Nat.zero_add, List.setIfInBounds_toArray, List.set_cons_zero, List.set_cons_succ]
  refine wpAnyH_ready (rs := [12]) (by kernel_rfl) (by simp) ?_
  refine (AllReadyH.cons (o := ⟨some 9, _, _, _, _, _⟩) rfl (fun K hK => ?_) AllReadyH.nil)
  go_simp
  have H11 := Lib.hid (H10.out.box1 #[.int .i64 0, .string ⟨#[]⟩, .string ⟨#[]⟩, .slice none 0 0, .int .i64 0, .int .i64 0, .int .i64 0, .slice none 0 0] 61)
  refine hK.out _ _ (KP.out _ H11.out.tail.tail) (fun hHeld => ?_)
  clear hK K
  try simp only [Act.put, Nat.zero_add, List.setIfInBounds_toArray, List.set_cons_zero, List.set_cons_succ]
  refine wpAnyH_ready (rs := [13]) (by kernel_rfl) (by simp) ?_
  refine (AllReadyH.cons (o := ⟨none, _, _, _, _, _⟩) rfl (fun K hK => ?_) AllReadyH.nil)
  refine step_store_whole rfl rfl rfl 8 sizeTxnT (w10.heap.size) rfl _ _ (H11.out.box 0 rfl) rfl [.int .i64 1, .string whole, .string q.r.data, .slice a2 q.r.acl.length cap2, .int .i64 0, .int .i64 (inc cv), .int .i64 0, .slice none 0 0] rfl rfl rfl ?_
  intro w12 hg12 hM12 hz12
  have H12 := Lib.hid (H11.out.rebox 0 rfl hg12 hM12)
  clear hg12 hM12 hz12
  refine hK.out _ _ (KP.out _ H12.out.tail.tail) (fun hHeld => ?_)
  clear hK K
  try simp only [Act.put, Nat.zero_add, List.setIfInBounds_toArray, List.set_cons_zero, List.set_cons_succ]
  refine wpAnyH_done (by kernel_rfl) ?_ _
  have c8 := blk_cell (H12.out.box 7 rfl) 8 (.int .i64 q.r.flags) rfl
  have zx := heap_lt (H12.out.box 7 rfl)
  clear KP HA hHeld
  have H13 := H12
  clear H12
  go_wp2_with (first
   | ((with_reducible refine at_list ?_); refine wpList_load_chunk 8 _ Tryz.underlying61 rfl sizeTxnT ⟨w10.heap.size, 0, none⟩ rfl [.int .i64 1, .string whole, .string q.r.data, .slice a2 q.r.acl.length cap2, .int .i64 0, .int .i64 (inc cv), .int .i64 0, .slice none 0 0] rfl (box_chunk0 (H13.out.box 0 rfl)) ?_)
   | ((with_reducible refine at_list ?_); refine wpList_store_whole 8 sizeTxnT (xb + 1) rfl _ _ (H13.out.box 6 rfl) rfl [.int .i64 1, .string whole, .string q.r.data, .slice a2 q.r.acl.length cap2, .int .i64 0, .int .i64 (inc cv), .int .i64 0, .slice none 0 0] rfl rfl rfl ?_; intro w14 hg14 hM14 hz14; have H14 := Lib.hid (H13.out.rebox 6 rfl hg14 hM14); clear hg14 hM14 hz14))
  refine bodyPost_ret (results_cell_tmp rfl _ w14 (xb + 1) _ _ _ _ rfl (H14.out.box 6 rfl) Tryz.underlying61 rfl sizeTxnT) rfl ?_
  exact ⟨a2, cap2, rfl, H14.out.one 1 rfl⟩
 focus
  go_simp
  have H11 := Lib.hid (HA.out.box1 #[.int .i64 0, .string ⟨#[]⟩, .string ⟨#[]⟩, .slice none 0 0, .int .i64 0, .int .i64 0, .int .i64 0, .slice none 0 0] 61)
  refine hK.out _ _ (KP.out _ H11.out.tail) (fun hHeld => ?_)
  clear hK K
  try simp only [Act.put, Nat.zero_add, List.setIfInBounds_toArray, List.set_cons_zero, List.set_cons_succ]
  refine wpAnyH_ready (rs := [7]) (by kernel_rfl) (by simp) ?_
  refine (AllReadyH.cons (o := ⟨some 54, _, _, _, _, _⟩) rfl (fun K hK => ?_) AllReadyH.nil)
  go_simp
  refine (CC.out _ H11.out.1).mono ?_
  rintro e w10 ⟨a2, cap2, rfl, hs2, hf2, hM10⟩
  have H10 := Lib.hid (H11.out.newSlice hM10 hs2 hf2)
  clear hs2 hf2 hM10
  refine hK.out _ _ (KP.out _ H10.out.tail.tail) (fun hHeld => ?_)
  clear hK K
  try simp only [Act.put, Nat.zero_add, List.setIfInBounds_toArray, List.set_cons_zero, List.set_cons_succ]
  refine tk 11 (some 58) ?_ rfl rfl hHeld ?_ ?_
  rotate_left
  ·intro wq hSw; (try dsimp only at hSw); go_simp; try with_reducible rfl
  try simp only [Act.put, Nat.zero_add, List.setIfInBounds_toArray, List.set_cons_zero, List.set_cons_succ]
  refine wpAnyH_ready (rs := [13]) (by kernel_rfl) (by simp) ?_
  refine (AllReadyH.cons (o := ⟨none, _, _, _, _, _⟩) rfl (fun K hK => ?_) AllReadyH.nil)
  refine step_store_whole rfl rfl rfl 8 sizeTxnT (w9.heap.size) rfl _ _ (H10.out.box 1 rfl) rfl [.int .i64 1, .string whole, .string q.r.data, .slice a2 q.r.acl.length cap2, .int .i64 0, .int .i64 (inc cv), .int .i64 0, .slice none 0 0] rfl rfl rfl ?_
  intro w12 hg12 hM12 hz12
  have H12 := Lib.hid (H10.out.rebox 1 rfl hg12 hM12)
  clear hg12 hM12 hz12
  refine hK.out _ _ (KP.out _ H12.out.tail.tail) (fun hHeld => ?_)
  clear hK K
  try simp only [Act.put, Nat.zero_add, List.setIfInBounds_toArray, List.set_cons_zero, List.set_cons_succ]
  refine wpAnyH_done (by kernel_rfl) ?_ _
  have c8 := blk_cell (H12.out.box 7 rfl) 8 (.int .i64 q.r.flags) rfl
  have zx := heap_lt (H12.out.box 7 rfl)
  clear KP HA hHeld
  have H13 := H12
  clear H12
  go_wp2_with (first
   | ((with_reducible refine at_list ?_); refine wpList_load_chunk 8 _ Tryz.underlying61 rfl sizeTxnT ⟨w9.heap.size, 0, none⟩ rfl [.int .i64 1, .string whole, .string q.r.data, .slice a2 q.r.acl.length cap2, .int .i64 0, .int .i64 (inc cv), .int .i64 0, .slice none 0 0] rfl (box_chunk0 (H13.out.box 1 rfl)) ?_)
   | ((with_reducible refine at_list ?_); refine wpList_store_whole 8 sizeTxnT (xb + 1) rfl _ _ (H13.out.box 6 rfl) rfl [.int .i64 1, .string whole, .string q.r.data, .slice a2 q.r.acl.length cap2, .int .i64 0, .int .i64 (inc cv), .int .i64 0, .slice none 0 0] rfl rfl rfl ?_; intro w14 hg14 hM14 hz14; have H14 := Lib.hid (H13.out.rebox 6 rfl hg14 hM14); clear hg14 hM14 hz14))
  refine bodyPost_ret (results_cell_tmp rfl _ w14 (xb + 1) _ _ _ _ rfl (H14.out.box 6 rfl) Tryz.underlying61 rfl sizeTxnT) rfl ?_
  exact ⟨a2, cap2, rfl, H14.out.one 0 rfl⟩
set_option maxHeartbeats 16000000 in
theorem create_ft (q : WishR) (w : World) (hq : q.ok w) (hf : q.fit) (h0 : q.s ≠ 0) (hn2 : flag q.r.flags 2 = false) (hn1 : flag q.r.flags 1 = true) :
 Calls Tryz.prog 116 #[.agg q.cells.toArray] w (TxPost (q.T.mkTx q.s q.ids q.r) w) := by
 obtain ⟨up, hup⟩ : ∃ up, parentB q.r.path = up := ⟨_, rfl⟩
 have hpl := parent_le q.r.path
 rw [hup] at hpl
 have hpth := hf.path
 have hups : up.size ≤ maxLen := by unfold maxLen; omega
 obtain ⟨len, kn, hsv, hk1, hk0⟩ := statV_vals q.T up
 have hci := stat_int hf.stats up
 obtain ⟨st, hst⟩ : ∃ st, q.T.stat up = st := ⟨_, rfl⟩
 obtain ⟨is, his⟩ : ∃ is, q.T.is up = is := ⟨_, rfl⟩
 rw [hst] at hsv hci
 obtain ⟨cv, hcv⟩ : ∃ cv, st.cversion = cv := ⟨_, rfl⟩
 rw [hcv] at hci
 obtain ⟨whole, hwhole⟩ : ∃ wh, q.r.path = wh := ⟨_, rfl⟩
 have hwl : whole.size ≤ 4000000000 := by rw [← hwhole]; omega
 obtain ⟨es, hes⟩ : ∃ es : List Int, [checkB q.r.path, whenE (decide (100 < q.r.data.size) || decide (q.r.flags < 0) || decide (3 < q.r.flags)) 1, whenE (!A.rightL q.r.acl) 50, whenE (!is) 60, whenE (decide (st.owner ≠ 0)) 63, whenE (!q.T.mayAt q.ids up 4) 65, whenE (decide (checkB whole ≠ 0)) 41, whenE (q.T.is whole) 61, whenE (decide (64 ≤ q.T.nodes.length)) 64, whenE (flag q.r.flags 1 && decide (32 ≤ (q.T.owned q.s).length)) 64] = es := ⟨_, rfl⟩
 have hE : q.T.mkTx q.s q.ids q.r = (⟨1, whole, q.r.data, q.r.acl, q.s, inc cv, 0⟩, firstE es) := by
  unfold Tree.mkTx
  simp only [hup, hst, his, hcv, hn2, ← hes]
  simp only [Bool.false_eq_true, if_false, hwhole, hn1]
  try simp only [if_true]
 rw [hE]
 obtain ⟨f2, hf2⟩ : ∃ f2, bits .and .i64 q.r.flags 2 = f2 := ⟨_, rfl⟩
 obtain ⟨f1, hf1⟩ : ∃ f1, bits .and .i64 q.r.flags 1 = f1 := ⟨_, rfl⟩
 have g2 : (f2 != 0) = false := by unfold flag at hn2; rw [hf2] at hn2; simpa using hn2
 have g1 : (f1 != 0) = true := by unfold flag at hn1; rw [hf1] at hn1; simpa using hn1
 have HQ := Lib.hid hq
 have HFT := Lib.hid hf
 have H0 := Lib.hid h0
 have HUP := Lib.hid (And.intro hups hwl)
 have HES := Lib.hid hes
 have CP : Hid (∀ W, Calls Tryz.prog 115 #[.string q.r.path] W (CpPost (.string up) W)) := Lib.hid fun W => by rw [← hup]; exact parentP_any q.r.path (by omega) W
 have CS : Hid (∀ W, Mod (fun _ => False) w W → Calls Tryz.prog 87 #[.pointer (some ⟨q.tb, 0, none⟩), .string up] W (CpPost (.tuple #[.agg (st.vals len kn).toArray, .bool is]) W)) := Lib.hid fun W k => by
  have := stat_any W q.tb q.T (hq.tree.old k) hf.tree up hups
  rw [hsv, his] at this
  exact this
 have CC : Hid (∀ W, Mod (fun _ => False) w W → Calls Tryz.prog 84 #[.slice q.aa q.r.acl.length q.ac] W (NewSl 46 2 (q.r.acl.flatMap ARow.cells) q.r.acl.length W)) := Lib.hid fun W k => cloneAcl_any q.aa q.r.acl.length q.ac (q.r.acl.flatMap ARow.cells) W (hq.acl.mod k (fun _ _ h => h)) arow_one (by have := hf.acl; omega)
 have HW := Lib.hid hwhole
 obtain ⟨an, han⟩ : ∃ an, q.r.acl.length = an := ⟨_, rfl⟩
 have HAN := Lib.hid han
 have HB := Lib.hid (((St.start w).box1 q.carr 144).box1 #[.int .i64 0, .string ⟨#[]⟩, .string ⟨#[]⟩, .slice none 0 0, .int .i64 0, .int .i64 0, .int .i64 0, .slice none 0 0] 61)
 rw [carr_eq]
 clear hq hf h0 hups hwl hup hpl hsv hk1 hk0 hst his hci hE hes hn2 hn1 hpth hwhole han
 go_enter Tryz.func116, Tryz.ntmps116
 go_upto_region 1 with (fail)
 rw [World.size_alloc] at HB
 generalize hW : (w.alloc _).alloc _ = W at HB ⊢
 generalize w.heap.size = xb at HB ⊢
 clear hW
 have c5 := blk_cell (HB.out.box 1 rfl) 5 (.string q.r.path) rfl
 have c0 := blk_cell (HB.out.box 1 rfl) 0 (.pointer (some ⟨q.tb, 0, none⟩)) rfl
 have zx := heap_lt (HB.out.box 1 rfl)
 go_upto_region 3 with (first
  | (go_at_call 115; refine (CP.out _).mono ?_; rintro e w2 ⟨rfl, hM2⟩; have c0 := hM2.cell c0 id; have zx := Nat.lt_of_lt_of_le zx hM2.size; have H2 := Lib.hid ((HB.out.mod hM2).box1 #[.string up] 9); clear hM2)
  | (go_at_call 87; refine (CS.out _ H2.out.1).mono ?_; rintro e w3 ⟨rfl, hM3⟩; have H3 := Lib.hid (((H2.out.mod hM3).box1 #[.int .i64 0, .int .i64 0, .int .i64 0, .int .i64 0, .int .i64 0, .int .i64 0, .int .i64 0, .int .i64 0, .int .i64 0] 29).box1 #[.bool false] 4); clear hM3)
  | ((with_reducible refine at_list ?_); refine wpList_store_whole 9 sizeStatT w3.heap.size rfl _ _ (H3.out.box 1 rfl) rfl (st.vals len kn) rfl rfl rfl ?_; intro w4 hg4 hM4 hz4; have hS4 := H3.out.rebox 1 rfl hg4 hM4; rw [World.size_alloc] at hS4; simp only [List.set_cons_succ, List.set_cons_zero] at hS4; have cb := blk_cell (hS4.box 0 rfl) 0 (.bool false) rfl; have fb := blk_free (hS4.box 0 rfl) 0; have zb := heap_lt (hS4.box 0 rfl); have H4 := Lib.hid (hS4.set 0 rfl 0 (.bool is)); clear hg4 hM4 hz4 hS4 H3))
 have h4 := H4.out
 simp only [List.set_cons_zero] at h4
 generalize w4.setCell _ _ = w5 at h4 ⊢
 generalize w3.heap.size + 1 = ib at h4 ⊢
 generalize w3.heap.size = sb at h4 ⊢
 generalize w2.heap.size = ub at h4 ⊢
 have H5 := Lib.hid h4
 clear h4 H4 H2 HB cb fb zb c0 c5 zx CP CS
 have c5 := blk_cell (H5.out.box 4 rfl) 5 (.string q.r.path) rfl
 have c8 := blk_cell (H5.out.box 4 rfl) 8 (.int .i64 q.r.flags) rfl
 have zx := heap_lt (H5.out.box 4 rfl)
 have s4 := blk_cell (H5.out.box 1 rfl) 4 (.int .i64 st.cversion) rfl
 have zs := heap_lt (H5.out.box 1 rfl)
 rw [hcv] at s4
 have H6 := Lib.hid (H5.out.box1 #[.string q.r.path] 9)
 go_upto_region 6 with (fail)
 have h7 : St w (w5.alloc (.cells #[.string whole] 9)) (bx w5.heap.size #[.string whole] 9 :: bx ib #[.bool is] 4 :: bx sb (st.vals len kn).toArray 29 :: bx ub #[.string up] 9 :: bx (xb + 1) #[.int .i64 0, .string ⟨#[]⟩, .string ⟨#[]⟩, .slice none 0 0, .int .i64 0, .int .i64 0, .int .i64 0, .slice none 0 0] 61 :: bx xb q.carr 144 :: []) := by rw [← HW.out]; exact H6.out
 rw [HW.out]
 generalize w5.alloc _ = w7 at h7 ⊢
 generalize w5.heap.size = vb at h7 ⊢
 have H7 := Lib.hid h7
 clear h7 H6 H5 c5 c8 zx s4 zs
 have CF : Hid (Calls Tryz.prog 119 #[.slice (some ⟨w7.heap.size, 0, none⟩) 10 10] (w7.alloc (.cells #[.func (.func 186) #[] #[.pointer (some ⟨xb, 0, none⟩)], .func (.func 187) #[] #[.pointer (some ⟨xb, 0, none⟩)], .func (.func 188) #[] #[.pointer (some ⟨xb, 0, none⟩)], .func (.func 190) #[] #[.pointer (some ⟨ib, 0, none⟩)], .func (.func 191) #[] #[.pointer (some ⟨sb, 0, none⟩)], .func (.func 192) #[] #[.pointer (some ⟨xb, 0, none⟩), .pointer (some ⟨ub, 0, none⟩)], .func (.func 193) #[] #[.pointer (some ⟨vb, 0, none⟩)], .func (.func 194) #[] #[.pointer (some ⟨xb, 0, none⟩), .pointer (some ⟨vb, 0, none⟩)], .func (.func 195) #[] #[.pointer (some ⟨xb, 0, none⟩)], .func (.func 196) #[] #[.pointer (some ⟨xb, 0, none⟩)]] 125)) (CpPost (.int .i64 (firstE es)) (w7.alloc (.cells #[.func (.func 186) #[] #[.pointer (some ⟨xb, 0, none⟩)], .func (.func 187) #[] #[.pointer (some ⟨xb, 0, none⟩)], .func (.func 188) #[] #[.pointer (some ⟨xb, 0, none⟩)], .func (.func 190) #[] #[.pointer (some ⟨ib, 0, none⟩)], .func (.func 191) #[] #[.pointer (some ⟨sb, 0, none⟩)], .func (.func 192) #[] #[.pointer (some ⟨xb, 0, none⟩), .pointer (some ⟨ub, 0, none⟩)], .func (.func 193) #[] #[.pointer (some ⟨vb, 0, none⟩)], .func (.func 194) #[] #[.pointer (some ⟨xb, 0, none⟩), .pointer (some ⟨vb, 0, none⟩)], .func (.func 195) #[] #[.pointer (some ⟨xb, 0, none⟩)], .func (.func 196) #[] #[.pointer (some ⟨xb, 0, none⟩)]] 125)))) := Lib.hid (by
  have hS8 := H7.out.mod ((Mod.refl _ w7).alloc (.cells #[.func (.func 186) #[] #[.pointer (some ⟨xb, 0, none⟩)], .func (.func 187) #[] #[.pointer (some ⟨xb, 0, none⟩)], .func (.func 188) #[] #[.pointer (some ⟨xb, 0, none⟩)], .func (.func 190) #[] #[.pointer (some ⟨ib, 0, none⟩)], .func (.func 191) #[] #[.pointer (some ⟨sb, 0, none⟩)], .func (.func 192) #[] #[.pointer (some ⟨xb, 0, none⟩), .pointer (some ⟨ub, 0, none⟩)], .func (.func 193) #[] #[.pointer (some ⟨vb, 0, none⟩)], .func (.func 194) #[] #[.pointer (some ⟨xb, 0, none⟩), .pointer (some ⟨vb, 0, none⟩)], .func (.func 195) #[] #[.pointer (some ⟨xb, 0, none⟩)], .func (.func 196) #[] #[.pointer (some ⟨xb, 0, none⟩)]] 125))
  have hnew := heap_alloc_new w7 (.cells #[.func (.func 186) #[] #[.pointer (some ⟨xb, 0, none⟩)], .func (.func 187) #[] #[.pointer (some ⟨xb, 0, none⟩)], .func (.func 188) #[] #[.pointer (some ⟨xb, 0, none⟩)], .func (.func 190) #[] #[.pointer (some ⟨ib, 0, none⟩)], .func (.func 191) #[] #[.pointer (some ⟨sb, 0, none⟩)], .func (.func 192) #[] #[.pointer (some ⟨xb, 0, none⟩), .pointer (some ⟨ub, 0, none⟩)], .func (.func 193) #[] #[.pointer (some ⟨vb, 0, none⟩)], .func (.func 194) #[] #[.pointer (some ⟨xb, 0, none⟩), .pointer (some ⟨vb, 0, none⟩)], .func (.func 195) #[] #[.pointer (some ⟨xb, 0, none⟩)], .func (.func 196) #[] #[.pointer (some ⟨xb, 0, none⟩)]] 125)
  generalize w7.alloc _ = W8 at hS8 hnew ⊢
  have hwb := hS8.box 5 rfl
  have hqo := HQ.out.old hS8.1
  rw [← HES.out]
  refine first_any W8 w7.heap.size 125 [(.func (.func 186) #[] #[.pointer (some ⟨xb, 0, none⟩)], checkB q.r.path), (.func (.func 187) #[] #[.pointer (some ⟨xb, 0, none⟩)], whenE (decide (100 < q.r.data.size) || decide (q.r.flags < 0) || decide (3 < q.r.flags)) 1), (.func (.func 188) #[] #[.pointer (some ⟨xb, 0, none⟩)], whenE (!A.rightL q.r.acl) 50), (.func (.func 190) #[] #[.pointer (some ⟨ib, 0, none⟩)], whenE (!is) 60), (.func (.func 191) #[] #[.pointer (some ⟨sb, 0, none⟩)], whenE (decide (st.owner ≠ 0)) 63), (.func (.func 192) #[] #[.pointer (some ⟨xb, 0, none⟩), .pointer (some ⟨ub, 0, none⟩)], whenE (!q.T.mayAt q.ids up 4) 65), (.func (.func 193) #[] #[.pointer (some ⟨vb, 0, none⟩)], whenE (decide (checkB whole ≠ 0)) 41), (.func (.func 194) #[] #[.pointer (some ⟨xb, 0, none⟩), .pointer (some ⟨vb, 0, none⟩)], whenE (q.T.is whole) 61), (.func (.func 195) #[] #[.pointer (some ⟨xb, 0, none⟩)], whenE (decide (64 ≤ q.T.nodes.length)) 64), (.func (.func 196) #[] #[.pointer (some ⟨xb, 0, none⟩)], whenE (flag q.r.flags 1 && decide (32 ≤ (q.T.owned q.s).length)) 64)] 10 rfl (by omega) hnew ?_
  intro f hf
  simp only [List.mem_cons, List.not_mem_nil, or_false] at hf
  rcases hf with rfl | rfl | rfl | rfl | rfl | rfl | rfl | rfl | rfl | rfl
  ·exact cl_create1 W8 q xb hwb hqo HFT.out
  ·exact cl_create2 W8 q xb hwb hqo HFT.out
  ·exact cl_create3 W8 q xb hwb hqo HFT.out
  ·exact cl_create4 W8 ib is ⟨_, hS8.box 1 rfl⟩
  ·exact cl_create5 W8 sb st len kn (hS8.box 2 rfl)
  ·exact cl_create6 W8 q xb hwb hqo HFT.out ub up ⟨_, hS8.box 3 rfl⟩ HUP.out.1
  ·exact cl_create7 W8 vb whole ⟨_, hS8.box 0 rfl⟩ HUP.out.2 hqo.env.rdy
  ·exact cl_create8 W8 q xb hwb hqo HFT.out vb whole ⟨_, hS8.box 0 rfl⟩ (by have := HUP.out.2; unfold maxLen; omega)
  ·exact cl_create9 W8 q xb hwb hqo HFT.out
  ·exact cl_create10 W8 q xb hwb hqo HFT.out H0.out)
 have H8 := Lib.hid (H7.out.mod ((Mod.refl _ w7).alloc (.cells #[.func (.func 186) #[] #[.pointer (some ⟨xb, 0, none⟩)], .func (.func 187) #[] #[.pointer (some ⟨xb, 0, none⟩)], .func (.func 188) #[] #[.pointer (some ⟨xb, 0, none⟩)], .func (.func 190) #[] #[.pointer (some ⟨ib, 0, none⟩)], .func (.func 191) #[] #[.pointer (some ⟨sb, 0, none⟩)], .func (.func 192) #[] #[.pointer (some ⟨xb, 0, none⟩), .pointer (some ⟨ub, 0, none⟩)], .func (.func 193) #[] #[.pointer (some ⟨vb, 0, none⟩)], .func (.func 194) #[] #[.pointer (some ⟨xb, 0, none⟩), .pointer (some ⟨vb, 0, none⟩)], .func (.func 195) #[] #[.pointer (some ⟨xb, 0, none⟩)], .func (.func 196) #[] #[.pointer (some ⟨xb, 0, none⟩)]] 125)))
 go_upto_region 7 with (go_at_call 119; refine CF.out.mono ?_; rintro e w9 ⟨rfl, hM9⟩; have H9 := Lib.hid (H8.out.mod hM9); clear hM9)
 clear CF H8 H7
 have HCV := Lib.hid hcv
 have KP : Hid (∀ (w' : World), St w w' (bx vb #[.string whole] 9 :: bx ib #[.bool is] 4 :: bx sb (st.vals len kn).toArray 29 :: bx ub #[.string up] 9 :: bx (xb + 1) #[.int .i64 0, .string ⟨#[]⟩, .string ⟨#[]⟩, .slice none 0 0, .int .i64 0, .int .i64 0, .int .i64 0, .slice none 0 0] 61 :: bx xb q.carr 144 :: []) → w'.cell? ⟨vb, 0, none⟩ = some (.string whole) ∧ w'.cell? ⟨xb, 6, none⟩ = some (.string q.r.data) ∧ w'.cell? ⟨xb, 7, none⟩ = some (.slice q.aa q.r.acl.length q.ac) ∧ w'.cell? ⟨sb, 4, none⟩ = some (.int .i64 cv)) := Lib.hid fun w' h => ⟨blk_cell (h.box 0 rfl) 0 _ rfl, blk_cell (h.box 5 rfl) 6 _ rfl, blk_cell (h.box 5 rfl) 7 _ rfl, by rw [← HCV.out]; exact blk_cell (h.box 2 rfl) 4 _ rfl⟩
 have HA := Lib.hid H9.out.drew
 refine wp_region_held_drew (S := fun w' => w'.cell? ⟨vb, 0, none⟩ = some (.string whole) ∧ w'.cell? ⟨xb, 6, none⟩ = some (.string q.r.data) ∧ w'.cell? ⟨xb, 7, none⟩ = some (.slice q.aa q.r.acl.length q.ac) ∧ w'.cell? ⟨sb, 4, none⟩ = some (.int .i64 cv)) (by kernel_rfl) (KP.out _ HA.out) (fun hHeld => ?_)
 clear H9
 generalize w9.drew = w9 at HA hHeld ⊢
 refine tk 0 (some 47) ?_ rfl rfl hHeld ?_ ?_
 rotate_left
 ·intro wq hSw; (try dsimp only at hSw); go_simp; try with_reducible rfl
 refine tk 1 (some 48) ?_ rfl rfl hHeld ?_ ?_
 rotate_left
 ·intro wq hSw; (try dsimp only at hSw); go_simp; try with_reducible rfl
 refine tk 2 (some 49) ?_ rfl rfl hHeld ?_ ?_
 rotate_left
 ·intro wq hSw; (try dsimp only at hSw); go_simp; try with_reducible rfl
 refine tk 3 (some 50) ?_ rfl rfl hHeld ?_ ?_
 rotate_left
 ·intro wq hSw; (try dsimp only at hSw); go_simp; try with_reducible rfl
 refine tk 4 (some 51) ?_ rfl rfl hHeld ?_ ?_
 rotate_left
 ·intro wq hSw; (try dsimp only at hSw); go_simp; try with_reducible rfl
 refine tk 5 (some 52) ?_ rfl rfl hHeld ?_ ?_
 rotate_left
 ·intro wq hSw; (try dsimp only at hSw); go_simp; try with_reducible rfl
 refine tk 6 (some 53) ?_ rfl rfl hHeld ?_ ?_
 rotate_left
 ·intro wq hSw; (try dsimp only at hSw); go_simp; try with_reducible rfl
 try simp only [Act.put, Nat.zero_add, List.setIfInBounds_toArray, List.set_cons_zero, List.set_cons_succ]
 refine tk 8 (some 55) ?_ rfl rfl hHeld ?_ ?_
 rotate_left
 ·intro wq hSw; (try dsimp only at hSw); go_simp; try with_reducible rfl
 refine tk 9 (some 56) ?_ rfl rfl hHeld ?_ ?_
 rotate_left
 ·intro wq hSw; (try dsimp only at hSw); go_simp; try with_reducible rfl
 refine tk 10 (some 57) ?_ rfl rfl hHeld ?_ ?_
 rotate_left
 ·intro wq hSw; (try dsimp only at hSw); go_simp; try with_reducible rfl
 try simp only [Act.put, Nat.zero_add, List.setIfInBounds_toArray, List.set_cons_zero, List.set_cons_succ]
 refine wpAnyH_ready (rs := [7, 12]) (by kernel_rfl) (by simp) ?_
 refine (AllReadyH.cons (o := ⟨some 54, _, _, _, _, _⟩) rfl (fun K hK => ?_) (AllReadyH.cons (o := ⟨some 9, _, _, _, _, _⟩) rfl (fun K hK => ?_) AllReadyH.nil))
 focus
  go_simp
  refine (CC.out _ HA.out.1).mono ?_
  rintro e w10 ⟨a2, cap2, rfl, hs2, hf2, hM10⟩
  have H10 := Lib.hid (HA.out.newSlice hM10 hs2 hf2)
  clear hs2 hf2 hM10
  refine hK.out _ _ (KP.out _ H10.out.tail) (fun hHeld => ?_)
  clear hK K
  try simp only [Act.put, Nat.zero_add, List.setIfInBounds_toArray, List.set_cons_zero, List.set_cons_succ]
  refine tk 11 (some 58) ?_ rfl rfl hHeld ?_ ?_
  rotate_left
  ·intro wq hSw; (try dsimp only at hSw); go_simp; try with_reducible rfl
  try simp only [Act.put, Nat.zero_add, List.setIfInBounds_toArray, List.set_cons_zero, List.set_cons_succ]
  refine wpAnyH_ready (rs := [12]) (by kernel_rfl) (by simp) ?_
  refine (AllReadyH.cons (o := ⟨some 9, _, _, _, _, _⟩) rfl (fun K hK => ?_) AllReadyH.nil)
  go_simp
  have H11 := Lib.hid (H10.out.box1 #[.int .i64 0, .string ⟨#[]⟩, .string ⟨#[]⟩, .slice none 0 0, .int .i64 0, .int .i64 0, .int .i64 0, .slice none 0 0] 61)
  refine hK.out _ _ (KP.out _ H11.out.tail.tail) (fun hHeld => ?_)
  clear hK K
  try simp only [Act.put, Nat.zero_add, List.setIfInBounds_toArray, List.set_cons_zero, List.set_cons_succ]
  refine wpAnyH_ready (rs := [13]) (by kernel_rfl) (by simp) ?_
  refine (AllReadyH.cons (o := ⟨none, _, _, _, _, _⟩) rfl (fun K hK => ?_) AllReadyH.nil)
  refine step_store_whole rfl rfl rfl 8 sizeTxnT (w10.heap.size) rfl _ _ (H11.out.box 0 rfl) rfl [.int .i64 1, .string whole, .string q.r.data, .slice a2 q.r.acl.length cap2, .int .i64 0, .int .i64 (inc cv), .int .i64 0, .slice none 0 0] rfl rfl rfl ?_
  intro w12 hg12 hM12 hz12
  have H12 := Lib.hid (H11.out.rebox 0 rfl hg12 hM12)
  clear hg12 hM12 hz12
  refine hK.out _ _ (KP.out _ H12.out.tail.tail) (fun hHeld => ?_)
  clear hK K
  try simp only [Act.put, Nat.zero_add, List.setIfInBounds_toArray, List.set_cons_zero, List.set_cons_succ]
  refine wpAnyH_done (by kernel_rfl) ?_ _
  have c8 := blk_cell (H12.out.box 7 rfl) 8 (.int .i64 q.r.flags) rfl
  have zx := heap_lt (H12.out.box 7 rfl)
  clear KP HA hHeld
  have c1 := blk_cell (H12.out.box 7 rfl) 1 (.int .i64 q.s) rfl
  have n4 := blk_cell (H12.out.box 0 rfl) 4 (.int .i64 0) rfl
  have f4 := blk_free (H12.out.box 0 rfl) 4
  have zn := heap_lt (H12.out.box 0 rfl)
  have H13 := Lib.hid (H12.out.set 0 rfl 4 (.int .i64 q.s))
  clear H12
  go_wp2_with (first
   | ((with_reducible refine at_list ?_); refine wpList_load_chunk 8 _ Tryz.underlying61 rfl sizeTxnT ⟨w10.heap.size, 0, none⟩ rfl [.int .i64 1, .string whole, .string q.r.data, .slice a2 q.r.acl.length cap2, .int .i64 q.s, .int .i64 (inc cv), .int .i64 0, .slice none 0 0] rfl (box_chunk0 (H13.out.box 0 rfl)) ?_)
   | ((with_reducible refine at_list ?_); refine wpList_store_whole 8 sizeTxnT (xb + 1) rfl _ _ (H13.out.box 6 rfl) rfl [.int .i64 1, .string whole, .string q.r.data, .slice a2 q.r.acl.length cap2, .int .i64 q.s, .int .i64 (inc cv), .int .i64 0, .slice none 0 0] rfl rfl rfl ?_; intro w14 hg14 hM14 hz14; have H14 := Lib.hid (H13.out.rebox 6 rfl hg14 hM14); clear hg14 hM14 hz14))
  refine bodyPost_ret (results_cell_tmp rfl _ w14 (xb + 1) _ _ _ _ rfl (H14.out.box 6 rfl) Tryz.underlying61 rfl sizeTxnT) rfl ?_
  exact ⟨a2, cap2, rfl, H14.out.one 1 rfl⟩
 focus
  go_simp
  have H11 := Lib.hid (HA.out.box1 #[.int .i64 0, .string ⟨#[]⟩, .string ⟨#[]⟩, .slice none 0 0, .int .i64 0, .int .i64 0, .int .i64 0, .slice none 0 0] 61)
  refine hK.out _ _ (KP.out _ H11.out.tail) (fun hHeld => ?_)
  clear hK K
  try simp only [Act.put, Nat.zero_add, List.setIfInBounds_toArray, List.set_cons_zero, List.set_cons_succ]
  refine wpAnyH_ready (rs := [7]) (by kernel_rfl) (by simp) ?_
  refine (AllReadyH.cons (o := ⟨some 54, _, _, _, _, _⟩) rfl (fun K hK => ?_) AllReadyH.nil)
  go_simp
  refine (CC.out _ H11.out.1).mono ?_
  rintro e w10 ⟨a2, cap2, rfl, hs2, hf2, hM10⟩
  have H10 := Lib.hid (H11.out.newSlice hM10 hs2 hf2)
  clear hs2 hf2 hM10
  refine hK.out _ _ (KP.out _ H10.out.tail.tail) (fun hHeld => ?_)
  clear hK K
  try simp only [Act.put, Nat.zero_add, List.setIfInBounds_toArray, List.set_cons_zero, List.set_cons_succ]
  refine tk 11 (some 58) ?_ rfl rfl hHeld ?_ ?_
  rotate_left
  ·intro wq hSw; (try dsimp only at hSw); go_simp; try with_reducible rfl
  try simp only [Act.put, Nat.zero_add, List.setIfInBounds_toArray, List.set_cons_zero, List.set_cons_succ]
  refine wpAnyH_ready (rs := [13]) (by kernel_rfl) (by simp) ?_
  refine (AllReadyH.cons (o := ⟨none, _, _, _, _, _⟩) rfl (fun K hK => ?_) AllReadyH.nil)
  refine step_store_whole rfl rfl rfl 8 sizeTxnT (w9.heap.size) rfl _ _ (H10.out.box 1 rfl) rfl [.int .i64 1, .string whole, .string q.r.data, .slice a2 q.r.acl.length cap2, .int .i64 0, .int .i64 (inc cv), .int .i64 0, .slice none 0 0] rfl rfl rfl ?_
  intro w12 hg12 hM12 hz12
  have H12 := Lib.hid (H10.out.rebox 1 rfl hg12 hM12)
  clear hg12 hM12 hz12
  refine hK.out _ _ (KP.out _ H12.out.tail.tail) (fun hHeld => ?_)
  clear hK K
  try simp only [Act.put, Nat.zero_add, List.setIfInBounds_toArray, List.set_cons_zero, List.set_cons_succ]
  refine wpAnyH_done (by kernel_rfl) ?_ _
  have c8 := blk_cell (H12.out.box 7 rfl) 8 (.int .i64 q.r.flags) rfl
  have zx := heap_lt (H12.out.box 7 rfl)
  clear KP HA hHeld
  have c1 := blk_cell (H12.out.box 7 rfl) 1 (.int .i64 q.s) rfl
  have n4 := blk_cell (H12.out.box 1 rfl) 4 (.int .i64 0) rfl
  have f4 := blk_free (H12.out.box 1 rfl) 4
  have zn := heap_lt (H12.out.box 1 rfl)
  have H13 := Lib.hid (H12.out.set 1 rfl 4 (.int .i64 q.s))
  clear H12
  go_wp2_with (first
   | ((with_reducible refine at_list ?_); refine wpList_load_chunk 8 _ Tryz.underlying61 rfl sizeTxnT ⟨w9.heap.size, 0, none⟩ rfl [.int .i64 1, .string whole, .string q.r.data, .slice a2 q.r.acl.length cap2, .int .i64 q.s, .int .i64 (inc cv), .int .i64 0, .slice none 0 0] rfl (box_chunk0 (H13.out.box 1 rfl)) ?_)
   | ((with_reducible refine at_list ?_); refine wpList_store_whole 8 sizeTxnT (xb + 1) rfl _ _ (H13.out.box 6 rfl) rfl [.int .i64 1, .string whole, .string q.r.data, .slice a2 q.r.acl.length cap2, .int .i64 q.s, .int .i64 (inc cv), .int .i64 0, .slice none 0 0] rfl rfl rfl ?_; intro w14 hg14 hM14 hz14; have H14 := Lib.hid (H13.out.rebox 6 rfl hg14 hM14); clear hg14 hM14 hz14))
  refine bodyPost_ret (results_cell_tmp rfl _ w14 (xb + 1) _ _ _ _ rfl (H14.out.box 6 rfl) Tryz.underlying61 rfl sizeTxnT) rfl ?_
  exact ⟨a2, cap2, rfl, H14.out.one 0 rfl⟩
set_option maxHeartbeats 16000000 in
theorem create_tf (q : WishR) (w : World) (hq : q.ok w) (hf : q.fit) (h0 : q.s ≠ 0) (hn2 : flag q.r.flags 2 = true) (hn1 : flag q.r.flags 1 = false) :
 Calls Tryz.prog 116 #[.agg q.cells.toArray] w (TxPost (q.T.mkTx q.s q.ids q.r) w) := by
 obtain ⟨up, hup⟩ : ∃ up, parentB q.r.path = up := ⟨_, rfl⟩
 have hpl := parent_le q.r.path
 rw [hup] at hpl
 have hpth := hf.path
 have hups : up.size ≤ maxLen := by unfold maxLen; omega
 obtain ⟨len, kn, hsv, hk1, hk0⟩ := statV_vals q.T up
 have hci := stat_int hf.stats up
 obtain ⟨st, hst⟩ : ∃ st, q.T.stat up = st := ⟨_, rfl⟩
 obtain ⟨is, his⟩ : ∃ is, q.T.is up = is := ⟨_, rfl⟩
 rw [hst] at hsv hci
 obtain ⟨cv, hcv⟩ : ∃ cv, st.cversion = cv := ⟨_, rfl⟩
 rw [hcv] at hci
 obtain ⟨whole, hwhole⟩ : ∃ wh, numberedB q.r.path cv = wh := ⟨_, rfl⟩
 have hwl : whole.size ≤ 4000000000 := by have := numbered_le q.r.path cv hci; rw [hwhole] at this; omega
 obtain ⟨es, hes⟩ : ∃ es : List Int, [checkB q.r.path, whenE (decide (100 < q.r.data.size) || decide (q.r.flags < 0) || decide (3 < q.r.flags)) 1, whenE (!A.rightL q.r.acl) 50, whenE (!is) 60, whenE (decide (st.owner ≠ 0)) 63, whenE (!q.T.mayAt q.ids up 4) 65, whenE (decide (checkB whole ≠ 0)) 41, whenE (q.T.is whole) 61, whenE (decide (64 ≤ q.T.nodes.length)) 64, whenE (flag q.r.flags 1 && decide (32 ≤ (q.T.owned q.s).length)) 64] = es := ⟨_, rfl⟩
 have hE : q.T.mkTx q.s q.ids q.r = (⟨1, whole, q.r.data, q.r.acl, 0, inc cv, 0⟩, firstE es) := by
  unfold Tree.mkTx
  simp only [hup, hst, his, hcv, hn2, ← hes]
  simp only [if_true, hwhole, hn1]
  try simp only [Bool.false_eq_true, if_false]
 rw [hE]
 obtain ⟨f2, hf2⟩ : ∃ f2, bits .and .i64 q.r.flags 2 = f2 := ⟨_, rfl⟩
 obtain ⟨f1, hf1⟩ : ∃ f1, bits .and .i64 q.r.flags 1 = f1 := ⟨_, rfl⟩
 have g2 : (f2 != 0) = true := by unfold flag at hn2; rw [hf2] at hn2; simpa using hn2
 have g1 : (f1 != 0) = false := by unfold flag at hn1; rw [hf1] at hn1; simpa using hn1
 have HQ := Lib.hid hq
 have HFT := Lib.hid hf
 have H0 := Lib.hid h0
 have HUP := Lib.hid (And.intro hups hwl)
 have HES := Lib.hid hes
 have CP : Hid (∀ W, Calls Tryz.prog 115 #[.string q.r.path] W (CpPost (.string up) W)) := Lib.hid fun W => by rw [← hup]; exact parentP_any q.r.path (by omega) W
 have CS : Hid (∀ W, Mod (fun _ => False) w W → Calls Tryz.prog 87 #[.pointer (some ⟨q.tb, 0, none⟩), .string up] W (CpPost (.tuple #[.agg (st.vals len kn).toArray, .bool is]) W)) := Lib.hid fun W k => by
  have := stat_any W q.tb q.T (hq.tree.old k) hf.tree up hups
  rw [hsv, his] at this
  exact this
 have CC : Hid (∀ W, Mod (fun _ => False) w W → Calls Tryz.prog 84 #[.slice q.aa q.r.acl.length q.ac] W (NewSl 46 2 (q.r.acl.flatMap ARow.cells) q.r.acl.length W)) := Lib.hid fun W k => cloneAcl_any q.aa q.r.acl.length q.ac (q.r.acl.flatMap ARow.cells) W (hq.acl.mod k (fun _ _ h => h)) arow_one (by have := hf.acl; omega)
 have CN : Hid (∀ W, Mod (fun _ => False) w W → Calls Tryz.prog 185 #[.string q.r.path, .int .i64 cv] W (CpPost (.string whole) W)) := Lib.hid fun W k => by rw [← hwhole]; exact numbered_any q.r.path cv hpth hci W (hq.env.old k)
 have HW := Lib.hid hwhole
 obtain ⟨an, han⟩ : ∃ an, q.r.acl.length = an := ⟨_, rfl⟩
 have HAN := Lib.hid han
 have HB := Lib.hid (((St.start w).box1 q.carr 144).box1 #[.int .i64 0, .string ⟨#[]⟩, .string ⟨#[]⟩, .slice none 0 0, .int .i64 0, .int .i64 0, .int .i64 0, .slice none 0 0] 61)
 rw [carr_eq]
 clear hq hf h0 hups hwl hup hpl hsv hk1 hk0 hst his hci hE hes hn2 hn1 hpth hwhole han
 go_enter Tryz.func116, Tryz.ntmps116
 go_upto_region 1 with (fail)
 rw [World.size_alloc] at HB
 generalize hW : (w.alloc _).alloc _ = W at HB ⊢
 generalize w.heap.size = xb at HB ⊢
 clear hW
 have c5 := blk_cell (HB.out.box 1 rfl) 5 (.string q.r.path) rfl
 have c0 := blk_cell (HB.out.box 1 rfl) 0 (.pointer (some ⟨q.tb, 0, none⟩)) rfl
 have zx := heap_lt (HB.out.box 1 rfl)
 go_upto_region 3 with (first
  | (go_at_call 115; refine (CP.out _).mono ?_; rintro e w2 ⟨rfl, hM2⟩; have c0 := hM2.cell c0 id; have zx := Nat.lt_of_lt_of_le zx hM2.size; have H2 := Lib.hid ((HB.out.mod hM2).box1 #[.string up] 9); clear hM2)
  | (go_at_call 87; refine (CS.out _ H2.out.1).mono ?_; rintro e w3 ⟨rfl, hM3⟩; have H3 := Lib.hid (((H2.out.mod hM3).box1 #[.int .i64 0, .int .i64 0, .int .i64 0, .int .i64 0, .int .i64 0, .int .i64 0, .int .i64 0, .int .i64 0, .int .i64 0] 29).box1 #[.bool false] 4); clear hM3)
  | ((with_reducible refine at_list ?_); refine wpList_store_whole 9 sizeStatT w3.heap.size rfl _ _ (H3.out.box 1 rfl) rfl (st.vals len kn) rfl rfl rfl ?_; intro w4 hg4 hM4 hz4; have hS4 := H3.out.rebox 1 rfl hg4 hM4; rw [World.size_alloc] at hS4; simp only [List.set_cons_succ, List.set_cons_zero] at hS4; have cb := blk_cell (hS4.box 0 rfl) 0 (.bool false) rfl; have fb := blk_free (hS4.box 0 rfl) 0; have zb := heap_lt (hS4.box 0 rfl); have H4 := Lib.hid (hS4.set 0 rfl 0 (.bool is)); clear hg4 hM4 hz4 hS4 H3))
 have h4 := H4.out
 simp only [List.set_cons_zero] at h4
 generalize w4.setCell _ _ = w5 at h4 ⊢
 generalize w3.heap.size + 1 = ib at h4 ⊢
 generalize w3.heap.size = sb at h4 ⊢
 generalize w2.heap.size = ub at h4 ⊢
 have H5 := Lib.hid h4
 clear h4 H4 H2 HB cb fb zb c0 c5 zx CP CS
 have c5 := blk_cell (H5.out.box 4 rfl) 5 (.string q.r.path) rfl
 have c8 := blk_cell (H5.out.box 4 rfl) 8 (.int .i64 q.r.flags) rfl
 have zx := heap_lt (H5.out.box 4 rfl)
 have s4 := blk_cell (H5.out.box 1 rfl) 4 (.int .i64 st.cversion) rfl
 have zs := heap_lt (H5.out.box 1 rfl)
 rw [hcv] at s4
 have H6 := Lib.hid (H5.out.box1 #[.string q.r.path] 9)
 go_upto_region 6 with (go_at_call 185; refine (CN.out _ H6.out.1).mono ?_; rintro e w6 ⟨rfl, hM6⟩; have hH := H6.out.mod hM6; have cb := blk_cell (hH.box 0 rfl) 0 (.string q.r.path) rfl; have fb := blk_free (hH.box 0 rfl) 0; have zb := heap_lt (hH.box 0 rfl); have H7 := Lib.hid (hH.set 0 rfl 0 (.string whole)); clear hH hM6)
 have h7 := H7.out
 simp only [List.set_cons_zero] at h7
 generalize w6.setCell _ _ = w7 at h7 ⊢
 have h7 : St w w7 (bx w5.heap.size #[.string whole] 9 :: bx ib #[.bool is] 4 :: bx sb (st.vals len kn).toArray 29 :: bx ub #[.string up] 9 :: bx (xb + 1) #[.int .i64 0, .string ⟨#[]⟩, .string ⟨#[]⟩, .slice none 0 0, .int .i64 0, .int .i64 0, .int .i64 0, .slice none 0 0] 61 :: bx xb q.carr 144 :: []) := h7
 clear cb fb zb H7 CN
 generalize w5.heap.size = vb at h7 ⊢
 have H7 := Lib.hid h7
 clear h7 H6 H5 c5 c8 zx s4 zs
 have CF : Hid (Calls Tryz.prog 119 #[.slice (some ⟨w7.heap.size, 0, none⟩) 10 10] (w7.alloc (.cells #[.func (.func 186) #[] #[.pointer (some ⟨xb, 0, none⟩)], .func (.func 187) #[] #[.pointer (some ⟨xb, 0, none⟩)], .func (.func 188) #[] #[.pointer (some ⟨xb, 0, none⟩)], .func (.func 190) #[] #[.pointer (some ⟨ib, 0, none⟩)], .func (.func 191) #[] #[.pointer (some ⟨sb, 0, none⟩)], .func (.func 192) #[] #[.pointer (some ⟨xb, 0, none⟩), .pointer (some ⟨ub, 0, none⟩)], .func (.func 193) #[] #[.pointer (some ⟨vb, 0, none⟩)], .func (.func 194) #[] #[.pointer (some ⟨xb, 0, none⟩), .pointer (some ⟨vb, 0, none⟩)], .func (.func 195) #[] #[.pointer (some ⟨xb, 0, none⟩)], .func (.func 196) #[] #[.pointer (some ⟨xb, 0, none⟩)]] 125)) (CpPost (.int .i64 (firstE es)) (w7.alloc (.cells #[.func (.func 186) #[] #[.pointer (some ⟨xb, 0, none⟩)], .func (.func 187) #[] #[.pointer (some ⟨xb, 0, none⟩)], .func (.func 188) #[] #[.pointer (some ⟨xb, 0, none⟩)], .func (.func 190) #[] #[.pointer (some ⟨ib, 0, none⟩)], .func (.func 191) #[] #[.pointer (some ⟨sb, 0, none⟩)], .func (.func 192) #[] #[.pointer (some ⟨xb, 0, none⟩), .pointer (some ⟨ub, 0, none⟩)], .func (.func 193) #[] #[.pointer (some ⟨vb, 0, none⟩)], .func (.func 194) #[] #[.pointer (some ⟨xb, 0, none⟩), .pointer (some ⟨vb, 0, none⟩)], .func (.func 195) #[] #[.pointer (some ⟨xb, 0, none⟩)], .func (.func 196) #[] #[.pointer (some ⟨xb, 0, none⟩)]] 125)))) := Lib.hid (by
  have hS8 := H7.out.mod ((Mod.refl _ w7).alloc (.cells #[.func (.func 186) #[] #[.pointer (some ⟨xb, 0, none⟩)], .func (.func 187) #[] #[.pointer (some ⟨xb, 0, none⟩)], .func (.func 188) #[] #[.pointer (some ⟨xb, 0, none⟩)], .func (.func 190) #[] #[.pointer (some ⟨ib, 0, none⟩)], .func (.func 191) #[] #[.pointer (some ⟨sb, 0, none⟩)], .func (.func 192) #[] #[.pointer (some ⟨xb, 0, none⟩), .pointer (some ⟨ub, 0, none⟩)], .func (.func 193) #[] #[.pointer (some ⟨vb, 0, none⟩)], .func (.func 194) #[] #[.pointer (some ⟨xb, 0, none⟩), .pointer (some ⟨vb, 0, none⟩)], .func (.func 195) #[] #[.pointer (some ⟨xb, 0, none⟩)], .func (.func 196) #[] #[.pointer (some ⟨xb, 0, none⟩)]] 125))
  have hnew := heap_alloc_new w7 (.cells #[.func (.func 186) #[] #[.pointer (some ⟨xb, 0, none⟩)], .func (.func 187) #[] #[.pointer (some ⟨xb, 0, none⟩)], .func (.func 188) #[] #[.pointer (some ⟨xb, 0, none⟩)], .func (.func 190) #[] #[.pointer (some ⟨ib, 0, none⟩)], .func (.func 191) #[] #[.pointer (some ⟨sb, 0, none⟩)], .func (.func 192) #[] #[.pointer (some ⟨xb, 0, none⟩), .pointer (some ⟨ub, 0, none⟩)], .func (.func 193) #[] #[.pointer (some ⟨vb, 0, none⟩)], .func (.func 194) #[] #[.pointer (some ⟨xb, 0, none⟩), .pointer (some ⟨vb, 0, none⟩)], .func (.func 195) #[] #[.pointer (some ⟨xb, 0, none⟩)], .func (.func 196) #[] #[.pointer (some ⟨xb, 0, none⟩)]] 125)
  generalize w7.alloc _ = W8 at hS8 hnew ⊢
  have hwb := hS8.box 5 rfl
  have hqo := HQ.out.old hS8.1
  rw [← HES.out]
  refine first_any W8 w7.heap.size 125 [(.func (.func 186) #[] #[.pointer (some ⟨xb, 0, none⟩)], checkB q.r.path), (.func (.func 187) #[] #[.pointer (some ⟨xb, 0, none⟩)], whenE (decide (100 < q.r.data.size) || decide (q.r.flags < 0) || decide (3 < q.r.flags)) 1), (.func (.func 188) #[] #[.pointer (some ⟨xb, 0, none⟩)], whenE (!A.rightL q.r.acl) 50), (.func (.func 190) #[] #[.pointer (some ⟨ib, 0, none⟩)], whenE (!is) 60), (.func (.func 191) #[] #[.pointer (some ⟨sb, 0, none⟩)], whenE (decide (st.owner ≠ 0)) 63), (.func (.func 192) #[] #[.pointer (some ⟨xb, 0, none⟩), .pointer (some ⟨ub, 0, none⟩)], whenE (!q.T.mayAt q.ids up 4) 65), (.func (.func 193) #[] #[.pointer (some ⟨vb, 0, none⟩)], whenE (decide (checkB whole ≠ 0)) 41), (.func (.func 194) #[] #[.pointer (some ⟨xb, 0, none⟩), .pointer (some ⟨vb, 0, none⟩)], whenE (q.T.is whole) 61), (.func (.func 195) #[] #[.pointer (some ⟨xb, 0, none⟩)], whenE (decide (64 ≤ q.T.nodes.length)) 64), (.func (.func 196) #[] #[.pointer (some ⟨xb, 0, none⟩)], whenE (flag q.r.flags 1 && decide (32 ≤ (q.T.owned q.s).length)) 64)] 10 rfl (by omega) hnew ?_
  intro f hf
  simp only [List.mem_cons, List.not_mem_nil, or_false] at hf
  rcases hf with rfl | rfl | rfl | rfl | rfl | rfl | rfl | rfl | rfl | rfl
  ·exact cl_create1 W8 q xb hwb hqo HFT.out
  ·exact cl_create2 W8 q xb hwb hqo HFT.out
  ·exact cl_create3 W8 q xb hwb hqo HFT.out
  ·exact cl_create4 W8 ib is ⟨_, hS8.box 1 rfl⟩
  ·exact cl_create5 W8 sb st len kn (hS8.box 2 rfl)
  ·exact cl_create6 W8 q xb hwb hqo HFT.out ub up ⟨_, hS8.box 3 rfl⟩ HUP.out.1
  ·exact cl_create7 W8 vb whole ⟨_, hS8.box 0 rfl⟩ HUP.out.2 hqo.env.rdy
  ·exact cl_create8 W8 q xb hwb hqo HFT.out vb whole ⟨_, hS8.box 0 rfl⟩ (by have := HUP.out.2; unfold maxLen; omega)
  ·exact cl_create9 W8 q xb hwb hqo HFT.out
  ·exact cl_create10 W8 q xb hwb hqo HFT.out H0.out)
 have H8 := Lib.hid (H7.out.mod ((Mod.refl _ w7).alloc (.cells #[.func (.func 186) #[] #[.pointer (some ⟨xb, 0, none⟩)], .func (.func 187) #[] #[.pointer (some ⟨xb, 0, none⟩)], .func (.func 188) #[] #[.pointer (some ⟨xb, 0, none⟩)], .func (.func 190) #[] #[.pointer (some ⟨ib, 0, none⟩)], .func (.func 191) #[] #[.pointer (some ⟨sb, 0, none⟩)], .func (.func 192) #[] #[.pointer (some ⟨xb, 0, none⟩), .pointer (some ⟨ub, 0, none⟩)], .func (.func 193) #[] #[.pointer (some ⟨vb, 0, none⟩)], .func (.func 194) #[] #[.pointer (some ⟨xb, 0, none⟩), .pointer (some ⟨vb, 0, none⟩)], .func (.func 195) #[] #[.pointer (some ⟨xb, 0, none⟩)], .func (.func 196) #[] #[.pointer (some ⟨xb, 0, none⟩)]] 125)))
 go_upto_region 7 with (go_at_call 119; refine CF.out.mono ?_; rintro e w9 ⟨rfl, hM9⟩; have H9 := Lib.hid (H8.out.mod hM9); clear hM9)
 clear CF H8 H7
 have HCV := Lib.hid hcv
 have KP : Hid (∀ (w' : World), St w w' (bx vb #[.string whole] 9 :: bx ib #[.bool is] 4 :: bx sb (st.vals len kn).toArray 29 :: bx ub #[.string up] 9 :: bx (xb + 1) #[.int .i64 0, .string ⟨#[]⟩, .string ⟨#[]⟩, .slice none 0 0, .int .i64 0, .int .i64 0, .int .i64 0, .slice none 0 0] 61 :: bx xb q.carr 144 :: []) → w'.cell? ⟨vb, 0, none⟩ = some (.string whole) ∧ w'.cell? ⟨xb, 6, none⟩ = some (.string q.r.data) ∧ w'.cell? ⟨xb, 7, none⟩ = some (.slice q.aa q.r.acl.length q.ac) ∧ w'.cell? ⟨sb, 4, none⟩ = some (.int .i64 cv)) := Lib.hid fun w' h => ⟨blk_cell (h.box 0 rfl) 0 _ rfl, blk_cell (h.box 5 rfl) 6 _ rfl, blk_cell (h.box 5 rfl) 7 _ rfl, by rw [← HCV.out]; exact blk_cell (h.box 2 rfl) 4 _ rfl⟩
 have HA := Lib.hid H9.out.drew
 refine wp_region_held_drew (S := fun w' => w'.cell? ⟨vb, 0, none⟩ = some (.string whole) ∧ w'.cell? ⟨xb, 6, none⟩ = some (.string q.r.data) ∧ w'.cell? ⟨xb, 7, none⟩ = some (.slice q.aa q.r.acl.length q.ac) ∧ w'.cell? ⟨sb, 4, none⟩ = some (.int .i64 cv)) (by kernel_rfl) (KP.out _ HA.out) (fun hHeld => ?_)
 clear H9
 generalize w9.drew = w9 at HA hHeld ⊢
 refine tk 0 (some 47) ?_ rfl rfl hHeld ?_ ?_
 rotate_left
 ·intro wq hSw; (try dsimp only at hSw); go_simp; try with_reducible rfl
 refine tk 1 (some 48) ?_ rfl rfl hHeld ?_ ?_
 rotate_left
 ·intro wq hSw; (try dsimp only at hSw); go_simp; try with_reducible rfl
 refine tk 2 (some 49) ?_ rfl rfl hHeld ?_ ?_
 rotate_left
 ·intro wq hSw; (try dsimp only at hSw); go_simp; try with_reducible rfl
 refine tk 3 (some 50) ?_ rfl rfl hHeld ?_ ?_
 rotate_left
 ·intro wq hSw; (try dsimp only at hSw); go_simp; try with_reducible rfl
 refine tk 4 (some 51) ?_ rfl rfl hHeld ?_ ?_
 rotate_left
 ·intro wq hSw; (try dsimp only at hSw); go_simp; try with_reducible rfl
 refine tk 5 (some 52) ?_ rfl rfl hHeld ?_ ?_
 rotate_left
 ·intro wq hSw; (try dsimp only at hSw); go_simp; try with_reducible rfl
 refine tk 6 (some 53) ?_ rfl rfl hHeld ?_ ?_
 rotate_left
 ·intro wq hSw; (try dsimp only at hSw); go_simp; try with_reducible rfl
 try simp only [Act.put, Nat.zero_add, List.setIfInBounds_toArray, List.set_cons_zero, List.set_cons_succ]
 refine tk 8 (some 55) ?_ rfl rfl hHeld ?_ ?_
 rotate_left
 ·intro wq hSw; (try dsimp only at hSw); go_simp; try with_reducible rfl
 refine tk 9 (some 56) ?_ rfl rfl hHeld ?_ ?_
 rotate_left
 ·intro wq hSw; (try dsimp only at hSw); go_simp; try with_reducible rfl
 refine tk 10 (some 57) ?_ rfl rfl hHeld ?_ ?_
 rotate_left
 ·intro wq hSw; (try dsimp only at hSw); go_simp; try with_reducible rfl
 try simp only [Act.put, Nat.zero_add, List.setIfInBounds_toArray, List.set_cons_zero, List.set_cons_succ]
 refine wpAnyH_ready (rs := [7, 12]) (by kernel_rfl) (by simp) ?_
 refine (AllReadyH.cons (o := ⟨some 54, _, _, _, _, _⟩) rfl (fun K hK => ?_) (AllReadyH.cons (o := ⟨some 9, _, _, _, _, _⟩) rfl (fun K hK => ?_) AllReadyH.nil))
 focus
  go_simp
  refine (CC.out _ HA.out.1).mono ?_
  rintro e w10 ⟨a2, cap2, rfl, hs2, hf2, hM10⟩
  have H10 := Lib.hid (HA.out.newSlice hM10 hs2 hf2)
  clear hs2 hf2 hM10
  refine hK.out _ _ (KP.out _ H10.out.tail) (fun hHeld => ?_)
  clear hK K
  try simp only [Act.put, Nat.zero_add, List.setIfInBounds_toArray, List.set_cons_zero, List.set_cons_succ]
  refine tk 11 (some 58) ?_ rfl rfl hHeld ?_ ?_
  rotate_left
  ·intro wq hSw; (try dsimp only at hSw); go_simp; try with_reducible rfl
  try simp only [Act.put, Nat.zero_add, List.setIfInBounds_toArray, List.set_cons_zero, List.set_cons_succ]
  refine wpAnyH_ready (rs := [12]) (by kernel_rfl) (by simp) ?_
  refine (AllReadyH.cons (o := ⟨some 9, _, _, _, _, _⟩) rfl (fun K hK => ?_) AllReadyH.nil)
  go_simp
  have H11 := Lib.hid (H10.out.box1 #[.int .i64 0, .string ⟨#[]⟩, .string ⟨#[]⟩, .slice none 0 0, .int .i64 0, .int .i64 0, .int .i64 0, .slice none 0 0] 61)
  refine hK.out _ _ (KP.out _ H11.out.tail.tail) (fun hHeld => ?_)
  clear hK K
  try simp only [Act.put, Nat.zero_add, List.setIfInBounds_toArray, List.set_cons_zero, List.set_cons_succ]
  refine wpAnyH_ready (rs := [13]) (by kernel_rfl) (by simp) ?_
  refine (AllReadyH.cons (o := ⟨none, _, _, _, _, _⟩) rfl (fun K hK => ?_) AllReadyH.nil)
  refine step_store_whole rfl rfl rfl 8 sizeTxnT (w10.heap.size) rfl _ _ (H11.out.box 0 rfl) rfl [.int .i64 1, .string whole, .string q.r.data, .slice a2 q.r.acl.length cap2, .int .i64 0, .int .i64 (inc cv), .int .i64 0, .slice none 0 0] rfl rfl rfl ?_
  intro w12 hg12 hM12 hz12
  have H12 := Lib.hid (H11.out.rebox 0 rfl hg12 hM12)
  clear hg12 hM12 hz12
  refine hK.out _ _ (KP.out _ H12.out.tail.tail) (fun hHeld => ?_)
  clear hK K
  try simp only [Act.put, Nat.zero_add, List.setIfInBounds_toArray, List.set_cons_zero, List.set_cons_succ]
  refine wpAnyH_done (by kernel_rfl) ?_ _
  have c8 := blk_cell (H12.out.box 7 rfl) 8 (.int .i64 q.r.flags) rfl
  have zx := heap_lt (H12.out.box 7 rfl)
  clear KP HA hHeld
  have H13 := H12
  clear H12
  go_wp2_with (first
   | ((with_reducible refine at_list ?_); refine wpList_load_chunk 8 _ Tryz.underlying61 rfl sizeTxnT ⟨w10.heap.size, 0, none⟩ rfl [.int .i64 1, .string whole, .string q.r.data, .slice a2 q.r.acl.length cap2, .int .i64 0, .int .i64 (inc cv), .int .i64 0, .slice none 0 0] rfl (box_chunk0 (H13.out.box 0 rfl)) ?_)
   | ((with_reducible refine at_list ?_); refine wpList_store_whole 8 sizeTxnT (xb + 1) rfl _ _ (H13.out.box 6 rfl) rfl [.int .i64 1, .string whole, .string q.r.data, .slice a2 q.r.acl.length cap2, .int .i64 0, .int .i64 (inc cv), .int .i64 0, .slice none 0 0] rfl rfl rfl ?_; intro w14 hg14 hM14 hz14; have H14 := Lib.hid (H13.out.rebox 6 rfl hg14 hM14); clear hg14 hM14 hz14))
  refine bodyPost_ret (results_cell_tmp rfl _ w14 (xb + 1) _ _ _ _ rfl (H14.out.box 6 rfl) Tryz.underlying61 rfl sizeTxnT) rfl ?_
  exact ⟨a2, cap2, rfl, H14.out.one 1 rfl⟩
 focus
  go_simp
  have H11 := Lib.hid (HA.out.box1 #[.int .i64 0, .string ⟨#[]⟩, .string ⟨#[]⟩, .slice none 0 0, .int .i64 0, .int .i64 0, .int .i64 0, .slice none 0 0] 61)
  refine hK.out _ _ (KP.out _ H11.out.tail) (fun hHeld => ?_)
  clear hK K
  try simp only [Act.put, Nat.zero_add, List.setIfInBounds_toArray, List.set_cons_zero, List.set_cons_succ]
  refine wpAnyH_ready (rs := [7]) (by kernel_rfl) (by simp) ?_
  refine (AllReadyH.cons (o := ⟨some 54, _, _, _, _, _⟩) rfl (fun K hK => ?_) AllReadyH.nil)
  go_simp
  refine (CC.out _ H11.out.1).mono ?_
  rintro e w10 ⟨a2, cap2, rfl, hs2, hf2, hM10⟩
  have H10 := Lib.hid (H11.out.newSlice hM10 hs2 hf2)
  clear hs2 hf2 hM10
  refine hK.out _ _ (KP.out _ H10.out.tail.tail) (fun hHeld => ?_)
  clear hK K
  try simp only [Act.put, Nat.zero_add, List.setIfInBounds_toArray, List.set_cons_zero, List.set_cons_succ]
  refine tk 11 (some 58) ?_ rfl rfl hHeld ?_ ?_
  rotate_left
  ·intro wq hSw; (try dsimp only at hSw); go_simp; try with_reducible rfl
  try simp only [Act.put, Nat.zero_add, List.setIfInBounds_toArray, List.set_cons_zero, List.set_cons_succ]
  refine wpAnyH_ready (rs := [13]) (by kernel_rfl) (by simp) ?_
  refine (AllReadyH.cons (o := ⟨none, _, _, _, _, _⟩) rfl (fun K hK => ?_) AllReadyH.nil)
  refine step_store_whole rfl rfl rfl 8 sizeTxnT (w9.heap.size) rfl _ _ (H10.out.box 1 rfl) rfl [.int .i64 1, .string whole, .string q.r.data, .slice a2 q.r.acl.length cap2, .int .i64 0, .int .i64 (inc cv), .int .i64 0, .slice none 0 0] rfl rfl rfl ?_
  intro w12 hg12 hM12 hz12
  have H12 := Lib.hid (H10.out.rebox 1 rfl hg12 hM12)
  clear hg12 hM12 hz12
  refine hK.out _ _ (KP.out _ H12.out.tail.tail) (fun hHeld => ?_)
  clear hK K
  try simp only [Act.put, Nat.zero_add, List.setIfInBounds_toArray, List.set_cons_zero, List.set_cons_succ]
  refine wpAnyH_done (by kernel_rfl) ?_ _
  have c8 := blk_cell (H12.out.box 7 rfl) 8 (.int .i64 q.r.flags) rfl
  have zx := heap_lt (H12.out.box 7 rfl)
  clear KP HA hHeld
  have H13 := H12
  clear H12
  go_wp2_with (first
   | ((with_reducible refine at_list ?_); refine wpList_load_chunk 8 _ Tryz.underlying61 rfl sizeTxnT ⟨w9.heap.size, 0, none⟩ rfl [.int .i64 1, .string whole, .string q.r.data, .slice a2 q.r.acl.length cap2, .int .i64 0, .int .i64 (inc cv), .int .i64 0, .slice none 0 0] rfl (box_chunk0 (H13.out.box 1 rfl)) ?_)
   | ((with_reducible refine at_list ?_); refine wpList_store_whole 8 sizeTxnT (xb + 1) rfl _ _ (H13.out.box 6 rfl) rfl [.int .i64 1, .string whole, .string q.r.data, .slice a2 q.r.acl.length cap2, .int .i64 0, .int .i64 (inc cv), .int .i64 0, .slice none 0 0] rfl rfl rfl ?_; intro w14 hg14 hM14 hz14; have H14 := Lib.hid (H13.out.rebox 6 rfl hg14 hM14); clear hg14 hM14 hz14))
  refine bodyPost_ret (results_cell_tmp rfl _ w14 (xb + 1) _ _ _ _ rfl (H14.out.box 6 rfl) Tryz.underlying61 rfl sizeTxnT) rfl ?_
  exact ⟨a2, cap2, rfl, H14.out.one 0 rfl⟩
set_option maxHeartbeats 16000000 in
theorem create_tt (q : WishR) (w : World) (hq : q.ok w) (hf : q.fit) (h0 : q.s ≠ 0) (hn2 : flag q.r.flags 2 = true) (hn1 : flag q.r.flags 1 = true) :
 Calls Tryz.prog 116 #[.agg q.cells.toArray] w (TxPost (q.T.mkTx q.s q.ids q.r) w) := by
 obtain ⟨up, hup⟩ : ∃ up, parentB q.r.path = up := ⟨_, rfl⟩
 have hpl := parent_le q.r.path
 rw [hup] at hpl
 have hpth := hf.path
 have hups : up.size ≤ maxLen := by unfold maxLen; omega
 obtain ⟨len, kn, hsv, hk1, hk0⟩ := statV_vals q.T up
 have hci := stat_int hf.stats up
 obtain ⟨st, hst⟩ : ∃ st, q.T.stat up = st := ⟨_, rfl⟩
 obtain ⟨is, his⟩ : ∃ is, q.T.is up = is := ⟨_, rfl⟩
 rw [hst] at hsv hci
 obtain ⟨cv, hcv⟩ : ∃ cv, st.cversion = cv := ⟨_, rfl⟩
 rw [hcv] at hci
 obtain ⟨whole, hwhole⟩ : ∃ wh, numberedB q.r.path cv = wh := ⟨_, rfl⟩
 have hwl : whole.size ≤ 4000000000 := by have := numbered_le q.r.path cv hci; rw [hwhole] at this; omega
 obtain ⟨es, hes⟩ : ∃ es : List Int, [checkB q.r.path, whenE (decide (100 < q.r.data.size) || decide (q.r.flags < 0) || decide (3 < q.r.flags)) 1, whenE (!A.rightL q.r.acl) 50, whenE (!is) 60, whenE (decide (st.owner ≠ 0)) 63, whenE (!q.T.mayAt q.ids up 4) 65, whenE (decide (checkB whole ≠ 0)) 41, whenE (q.T.is whole) 61, whenE (decide (64 ≤ q.T.nodes.length)) 64, whenE (flag q.r.flags 1 && decide (32 ≤ (q.T.owned q.s).length)) 64] = es := ⟨_, rfl⟩
 have hE : q.T.mkTx q.s q.ids q.r = (⟨1, whole, q.r.data, q.r.acl, q.s, inc cv, 0⟩, firstE es) := by
  unfold Tree.mkTx
  simp only [hup, hst, his, hcv, hn2, ← hes]
  simp only [if_true, hwhole, hn1]
  try simp only [if_true]
 rw [hE]
 obtain ⟨f2, hf2⟩ : ∃ f2, bits .and .i64 q.r.flags 2 = f2 := ⟨_, rfl⟩
 obtain ⟨f1, hf1⟩ : ∃ f1, bits .and .i64 q.r.flags 1 = f1 := ⟨_, rfl⟩
 have g2 : (f2 != 0) = true := by unfold flag at hn2; rw [hf2] at hn2; simpa using hn2
 have g1 : (f1 != 0) = true := by unfold flag at hn1; rw [hf1] at hn1; simpa using hn1
 have HQ := Lib.hid hq
 have HFT := Lib.hid hf
 have H0 := Lib.hid h0
 have HUP := Lib.hid (And.intro hups hwl)
 have HES := Lib.hid hes
 have CP : Hid (∀ W, Calls Tryz.prog 115 #[.string q.r.path] W (CpPost (.string up) W)) := Lib.hid fun W => by rw [← hup]; exact parentP_any q.r.path (by omega) W
 have CS : Hid (∀ W, Mod (fun _ => False) w W → Calls Tryz.prog 87 #[.pointer (some ⟨q.tb, 0, none⟩), .string up] W (CpPost (.tuple #[.agg (st.vals len kn).toArray, .bool is]) W)) := Lib.hid fun W k => by
  have := stat_any W q.tb q.T (hq.tree.old k) hf.tree up hups
  rw [hsv, his] at this
  exact this
 have CC : Hid (∀ W, Mod (fun _ => False) w W → Calls Tryz.prog 84 #[.slice q.aa q.r.acl.length q.ac] W (NewSl 46 2 (q.r.acl.flatMap ARow.cells) q.r.acl.length W)) := Lib.hid fun W k => cloneAcl_any q.aa q.r.acl.length q.ac (q.r.acl.flatMap ARow.cells) W (hq.acl.mod k (fun _ _ h => h)) arow_one (by have := hf.acl; omega)
 have CN : Hid (∀ W, Mod (fun _ => False) w W → Calls Tryz.prog 185 #[.string q.r.path, .int .i64 cv] W (CpPost (.string whole) W)) := Lib.hid fun W k => by rw [← hwhole]; exact numbered_any q.r.path cv hpth hci W (hq.env.old k)
 have HW := Lib.hid hwhole
 obtain ⟨an, han⟩ : ∃ an, q.r.acl.length = an := ⟨_, rfl⟩
 have HAN := Lib.hid han
 have HB := Lib.hid (((St.start w).box1 q.carr 144).box1 #[.int .i64 0, .string ⟨#[]⟩, .string ⟨#[]⟩, .slice none 0 0, .int .i64 0, .int .i64 0, .int .i64 0, .slice none 0 0] 61)
 rw [carr_eq]
 clear hq hf h0 hups hwl hup hpl hsv hk1 hk0 hst his hci hE hes hn2 hn1 hpth hwhole han
 go_enter Tryz.func116, Tryz.ntmps116
 go_upto_region 1 with (fail)
 rw [World.size_alloc] at HB
 generalize hW : (w.alloc _).alloc _ = W at HB ⊢
 generalize w.heap.size = xb at HB ⊢
 clear hW
 have c5 := blk_cell (HB.out.box 1 rfl) 5 (.string q.r.path) rfl
 have c0 := blk_cell (HB.out.box 1 rfl) 0 (.pointer (some ⟨q.tb, 0, none⟩)) rfl
 have zx := heap_lt (HB.out.box 1 rfl)
 go_upto_region 3 with (first
  | (go_at_call 115; refine (CP.out _).mono ?_; rintro e w2 ⟨rfl, hM2⟩; have c0 := hM2.cell c0 id; have zx := Nat.lt_of_lt_of_le zx hM2.size; have H2 := Lib.hid ((HB.out.mod hM2).box1 #[.string up] 9); clear hM2)
  | (go_at_call 87; refine (CS.out _ H2.out.1).mono ?_; rintro e w3 ⟨rfl, hM3⟩; have H3 := Lib.hid (((H2.out.mod hM3).box1 #[.int .i64 0, .int .i64 0, .int .i64 0, .int .i64 0, .int .i64 0, .int .i64 0, .int .i64 0, .int .i64 0, .int .i64 0] 29).box1 #[.bool false] 4); clear hM3)
  | ((with_reducible refine at_list ?_); refine wpList_store_whole 9 sizeStatT w3.heap.size rfl _ _ (H3.out.box 1 rfl) rfl (st.vals len kn) rfl rfl rfl ?_; intro w4 hg4 hM4 hz4; have hS4 := H3.out.rebox 1 rfl hg4 hM4; rw [World.size_alloc] at hS4; simp only [List.set_cons_succ, List.set_cons_zero] at hS4; have cb := blk_cell (hS4.box 0 rfl) 0 (.bool false) rfl; have fb := blk_free (hS4.box 0 rfl) 0; have zb := heap_lt (hS4.box 0 rfl); have H4 := Lib.hid (hS4.set 0 rfl 0 (.bool is)); clear hg4 hM4 hz4 hS4 H3))
 have h4 := H4.out
 simp only [List.set_cons_zero] at h4
 generalize w4.setCell _ _ = w5 at h4 ⊢
 generalize w3.heap.size + 1 = ib at h4 ⊢
 generalize w3.heap.size = sb at h4 ⊢
 generalize w2.heap.size = ub at h4 ⊢
 have H5 := Lib.hid h4
 clear h4 H4 H2 HB cb fb zb c0 c5 zx CP CS
 have c5 := blk_cell (H5.out.box 4 rfl) 5 (.string q.r.path) rfl
 have c8 := blk_cell (H5.out.box 4 rfl) 8 (.int .i64 q.r.flags) rfl
 have zx := heap_lt (H5.out.box 4 rfl)
 have s4 := blk_cell (H5.out.box 1 rfl) 4 (.int .i64 st.cversion) rfl
 have zs := heap_lt (H5.out.box 1 rfl)
 rw [hcv] at s4
 have H6 := Lib.hid (H5.out.box1 #[.string q.r.path] 9)
 go_upto_region 6 with (go_at_call 185; refine (CN.out _ H6.out.1).mono ?_; rintro e w6 ⟨rfl, hM6⟩; have hH := H6.out.mod hM6; have cb := blk_cell (hH.box 0 rfl) 0 (.string q.r.path) rfl; have fb := blk_free (hH.box 0 rfl) 0; have zb := heap_lt (hH.box 0 rfl); have H7 := Lib.hid (hH.set 0 rfl 0 (.string whole)); clear hH hM6)
 have h7 := H7.out
 simp only [List.set_cons_zero] at h7
 generalize w6.setCell _ _ = w7 at h7 ⊢
 have h7 : St w w7 (bx w5.heap.size #[.string whole] 9 :: bx ib #[.bool is] 4 :: bx sb (st.vals len kn).toArray 29 :: bx ub #[.string up] 9 :: bx (xb + 1) #[.int .i64 0, .string ⟨#[]⟩, .string ⟨#[]⟩, .slice none 0 0, .int .i64 0, .int .i64 0, .int .i64 0, .slice none 0 0] 61 :: bx xb q.carr 144 :: []) := h7
 clear cb fb zb H7 CN
 generalize w5.heap.size = vb at h7 ⊢
 have H7 := Lib.hid h7
 clear h7 H6 H5 c5 c8 zx s4 zs
 have CF : Hid (Calls Tryz.prog 119 #[.slice (some ⟨w7.heap.size, 0, none⟩) 10 10] (w7.alloc (.cells #[.func (.func 186) #[] #[.pointer (some ⟨xb, 0, none⟩)], .func (.func 187) #[] #[.pointer (some ⟨xb, 0, none⟩)], .func (.func 188) #[] #[.pointer (some ⟨xb, 0, none⟩)], .func (.func 190) #[] #[.pointer (some ⟨ib, 0, none⟩)], .func (.func 191) #[] #[.pointer (some ⟨sb, 0, none⟩)], .func (.func 192) #[] #[.pointer (some ⟨xb, 0, none⟩), .pointer (some ⟨ub, 0, none⟩)], .func (.func 193) #[] #[.pointer (some ⟨vb, 0, none⟩)], .func (.func 194) #[] #[.pointer (some ⟨xb, 0, none⟩), .pointer (some ⟨vb, 0, none⟩)], .func (.func 195) #[] #[.pointer (some ⟨xb, 0, none⟩)], .func (.func 196) #[] #[.pointer (some ⟨xb, 0, none⟩)]] 125)) (CpPost (.int .i64 (firstE es)) (w7.alloc (.cells #[.func (.func 186) #[] #[.pointer (some ⟨xb, 0, none⟩)], .func (.func 187) #[] #[.pointer (some ⟨xb, 0, none⟩)], .func (.func 188) #[] #[.pointer (some ⟨xb, 0, none⟩)], .func (.func 190) #[] #[.pointer (some ⟨ib, 0, none⟩)], .func (.func 191) #[] #[.pointer (some ⟨sb, 0, none⟩)], .func (.func 192) #[] #[.pointer (some ⟨xb, 0, none⟩), .pointer (some ⟨ub, 0, none⟩)], .func (.func 193) #[] #[.pointer (some ⟨vb, 0, none⟩)], .func (.func 194) #[] #[.pointer (some ⟨xb, 0, none⟩), .pointer (some ⟨vb, 0, none⟩)], .func (.func 195) #[] #[.pointer (some ⟨xb, 0, none⟩)], .func (.func 196) #[] #[.pointer (some ⟨xb, 0, none⟩)]] 125)))) := Lib.hid (by
  have hS8 := H7.out.mod ((Mod.refl _ w7).alloc (.cells #[.func (.func 186) #[] #[.pointer (some ⟨xb, 0, none⟩)], .func (.func 187) #[] #[.pointer (some ⟨xb, 0, none⟩)], .func (.func 188) #[] #[.pointer (some ⟨xb, 0, none⟩)], .func (.func 190) #[] #[.pointer (some ⟨ib, 0, none⟩)], .func (.func 191) #[] #[.pointer (some ⟨sb, 0, none⟩)], .func (.func 192) #[] #[.pointer (some ⟨xb, 0, none⟩), .pointer (some ⟨ub, 0, none⟩)], .func (.func 193) #[] #[.pointer (some ⟨vb, 0, none⟩)], .func (.func 194) #[] #[.pointer (some ⟨xb, 0, none⟩), .pointer (some ⟨vb, 0, none⟩)], .func (.func 195) #[] #[.pointer (some ⟨xb, 0, none⟩)], .func (.func 196) #[] #[.pointer (some ⟨xb, 0, none⟩)]] 125))
  have hnew := heap_alloc_new w7 (.cells #[.func (.func 186) #[] #[.pointer (some ⟨xb, 0, none⟩)], .func (.func 187) #[] #[.pointer (some ⟨xb, 0, none⟩)], .func (.func 188) #[] #[.pointer (some ⟨xb, 0, none⟩)], .func (.func 190) #[] #[.pointer (some ⟨ib, 0, none⟩)], .func (.func 191) #[] #[.pointer (some ⟨sb, 0, none⟩)], .func (.func 192) #[] #[.pointer (some ⟨xb, 0, none⟩), .pointer (some ⟨ub, 0, none⟩)], .func (.func 193) #[] #[.pointer (some ⟨vb, 0, none⟩)], .func (.func 194) #[] #[.pointer (some ⟨xb, 0, none⟩), .pointer (some ⟨vb, 0, none⟩)], .func (.func 195) #[] #[.pointer (some ⟨xb, 0, none⟩)], .func (.func 196) #[] #[.pointer (some ⟨xb, 0, none⟩)]] 125)
  generalize w7.alloc _ = W8 at hS8 hnew ⊢
  have hwb := hS8.box 5 rfl
  have hqo := HQ.out.old hS8.1
  rw [← HES.out]
  refine first_any W8 w7.heap.size 125 [(.func (.func 186) #[] #[.pointer (some ⟨xb, 0, none⟩)], checkB q.r.path), (.func (.func 187) #[] #[.pointer (some ⟨xb, 0, none⟩)], whenE (decide (100 < q.r.data.size) || decide (q.r.flags < 0) || decide (3 < q.r.flags)) 1), (.func (.func 188) #[] #[.pointer (some ⟨xb, 0, none⟩)], whenE (!A.rightL q.r.acl) 50), (.func (.func 190) #[] #[.pointer (some ⟨ib, 0, none⟩)], whenE (!is) 60), (.func (.func 191) #[] #[.pointer (some ⟨sb, 0, none⟩)], whenE (decide (st.owner ≠ 0)) 63), (.func (.func 192) #[] #[.pointer (some ⟨xb, 0, none⟩), .pointer (some ⟨ub, 0, none⟩)], whenE (!q.T.mayAt q.ids up 4) 65), (.func (.func 193) #[] #[.pointer (some ⟨vb, 0, none⟩)], whenE (decide (checkB whole ≠ 0)) 41), (.func (.func 194) #[] #[.pointer (some ⟨xb, 0, none⟩), .pointer (some ⟨vb, 0, none⟩)], whenE (q.T.is whole) 61), (.func (.func 195) #[] #[.pointer (some ⟨xb, 0, none⟩)], whenE (decide (64 ≤ q.T.nodes.length)) 64), (.func (.func 196) #[] #[.pointer (some ⟨xb, 0, none⟩)], whenE (flag q.r.flags 1 && decide (32 ≤ (q.T.owned q.s).length)) 64)] 10 rfl (by omega) hnew ?_
  intro f hf
  simp only [List.mem_cons, List.not_mem_nil, or_false] at hf
  rcases hf with rfl | rfl | rfl | rfl | rfl | rfl | rfl | rfl | rfl | rfl
  ·exact cl_create1 W8 q xb hwb hqo HFT.out
  ·exact cl_create2 W8 q xb hwb hqo HFT.out
  ·exact cl_create3 W8 q xb hwb hqo HFT.out
  ·exact cl_create4 W8 ib is ⟨_, hS8.box 1 rfl⟩
  ·exact cl_create5 W8 sb st len kn (hS8.box 2 rfl)
  ·exact cl_create6 W8 q xb hwb hqo HFT.out ub up ⟨_, hS8.box 3 rfl⟩ HUP.out.1
  ·exact cl_create7 W8 vb whole ⟨_, hS8.box 0 rfl⟩ HUP.out.2 hqo.env.rdy
  ·exact cl_create8 W8 q xb hwb hqo HFT.out vb whole ⟨_, hS8.box 0 rfl⟩ (by have := HUP.out.2; unfold maxLen; omega)
  ·exact cl_create9 W8 q xb hwb hqo HFT.out
  ·exact cl_create10 W8 q xb hwb hqo HFT.out H0.out)
 have H8 := Lib.hid (H7.out.mod ((Mod.refl _ w7).alloc (.cells #[.func (.func 186) #[] #[.pointer (some ⟨xb, 0, none⟩)], .func (.func 187) #[] #[.pointer (some ⟨xb, 0, none⟩)], .func (.func 188) #[] #[.pointer (some ⟨xb, 0, none⟩)], .func (.func 190) #[] #[.pointer (some ⟨ib, 0, none⟩)], .func (.func 191) #[] #[.pointer (some ⟨sb, 0, none⟩)], .func (.func 192) #[] #[.pointer (some ⟨xb, 0, none⟩), .pointer (some ⟨ub, 0, none⟩)], .func (.func 193) #[] #[.pointer (some ⟨vb, 0, none⟩)], .func (.func 194) #[] #[.pointer (some ⟨xb, 0, none⟩), .pointer (some ⟨vb, 0, none⟩)], .func (.func 195) #[] #[.pointer (some ⟨xb, 0, none⟩)], .func (.func 196) #[] #[.pointer (some ⟨xb, 0, none⟩)]] 125)))
 go_upto_region 7 with (go_at_call 119; refine CF.out.mono ?_; rintro e w9 ⟨rfl, hM9⟩; have H9 := Lib.hid (H8.out.mod hM9); clear hM9)
 clear CF H8 H7
 have HCV := Lib.hid hcv
 have KP : Hid (∀ (w' : World), St w w' (bx vb #[.string whole] 9 :: bx ib #[.bool is] 4 :: bx sb (st.vals len kn).toArray 29 :: bx ub #[.string up] 9 :: bx (xb + 1) #[.int .i64 0, .string ⟨#[]⟩, .string ⟨#[]⟩, .slice none 0 0, .int .i64 0, .int .i64 0, .int .i64 0, .slice none 0 0] 61 :: bx xb q.carr 144 :: []) → w'.cell? ⟨vb, 0, none⟩ = some (.string whole) ∧ w'.cell? ⟨xb, 6, none⟩ = some (.string q.r.data) ∧ w'.cell? ⟨xb, 7, none⟩ = some (.slice q.aa q.r.acl.length q.ac) ∧ w'.cell? ⟨sb, 4, none⟩ = some (.int .i64 cv)) := Lib.hid fun w' h => ⟨blk_cell (h.box 0 rfl) 0 _ rfl, blk_cell (h.box 5 rfl) 6 _ rfl, blk_cell (h.box 5 rfl) 7 _ rfl, by rw [← HCV.out]; exact blk_cell (h.box 2 rfl) 4 _ rfl⟩
 have HA := Lib.hid H9.out.drew
 refine wp_region_held_drew (S := fun w' => w'.cell? ⟨vb, 0, none⟩ = some (.string whole) ∧ w'.cell? ⟨xb, 6, none⟩ = some (.string q.r.data) ∧ w'.cell? ⟨xb, 7, none⟩ = some (.slice q.aa q.r.acl.length q.ac) ∧ w'.cell? ⟨sb, 4, none⟩ = some (.int .i64 cv)) (by kernel_rfl) (KP.out _ HA.out) (fun hHeld => ?_)
 clear H9
 generalize w9.drew = w9 at HA hHeld ⊢
 refine tk 0 (some 47) ?_ rfl rfl hHeld ?_ ?_
 rotate_left
 ·intro wq hSw; (try dsimp only at hSw); go_simp; try with_reducible rfl
 refine tk 1 (some 48) ?_ rfl rfl hHeld ?_ ?_
 rotate_left
 ·intro wq hSw; (try dsimp only at hSw); go_simp; try with_reducible rfl
 refine tk 2 (some 49) ?_ rfl rfl hHeld ?_ ?_
 rotate_left
 ·intro wq hSw; (try dsimp only at hSw); go_simp; try with_reducible rfl
 refine tk 3 (some 50) ?_ rfl rfl hHeld ?_ ?_
 rotate_left
 ·intro wq hSw; (try dsimp only at hSw); go_simp; try with_reducible rfl
 refine tk 4 (some 51) ?_ rfl rfl hHeld ?_ ?_
 rotate_left
 ·intro wq hSw; (try dsimp only at hSw); go_simp; try with_reducible rfl
 refine tk 5 (some 52) ?_ rfl rfl hHeld ?_ ?_
 rotate_left
 ·intro wq hSw; (try dsimp only at hSw); go_simp; try with_reducible rfl
 refine tk 6 (some 53) ?_ rfl rfl hHeld ?_ ?_
 rotate_left
 ·intro wq hSw; (try dsimp only at hSw); go_simp; try with_reducible rfl
 try simp only [Act.put, Nat.zero_add, List.setIfInBounds_toArray, List.set_cons_zero, List.set_cons_succ]
 refine tk 8 (some 55) ?_ rfl rfl hHeld ?_ ?_
 rotate_left
 ·intro wq hSw; (try dsimp only at hSw); go_simp; try with_reducible rfl
 refine tk 9 (some 56) ?_ rfl rfl hHeld ?_ ?_
 rotate_left
 ·intro wq hSw; (try dsimp only at hSw); go_simp; try with_reducible rfl
 refine tk 10 (some 57) ?_ rfl rfl hHeld ?_ ?_
 rotate_left
 ·intro wq hSw; (try dsimp only at hSw); go_simp; try with_reducible rfl
 try simp only [Act.put, Nat.zero_add, List.setIfInBounds_toArray, List.set_cons_zero, List.set_cons_succ]
 refine wpAnyH_ready (rs := [7, 12]) (by kernel_rfl) (by simp) ?_
 refine (AllReadyH.cons (o := ⟨some 54, _, _, _, _, _⟩) rfl (fun K hK => ?_) (AllReadyH.cons (o := ⟨some 9, _, _, _, _, _⟩) rfl (fun K hK => ?_) AllReadyH.nil))
 focus
  go_simp
  refine (CC.out _ HA.out.1).mono ?_
  rintro e w10 ⟨a2, cap2, rfl, hs2, hf2, hM10⟩
  have H10 := Lib.hid (HA.out.newSlice hM10 hs2 hf2)
  clear hs2 hf2 hM10
  refine hK.out _ _ (KP.out _ H10.out.tail) (fun hHeld => ?_)
  clear hK K
  try simp only [Act.put, Nat.zero_add, List.setIfInBounds_toArray, List.set_cons_zero, List.set_cons_succ]
  refine tk 11 (some 58) ?_ rfl rfl hHeld ?_ ?_
  rotate_left
  ·intro wq hSw; (try dsimp only at hSw); go_simp; try with_reducible rfl
  try simp only [Act.put, Nat.zero_add, List.setIfInBounds_toArray, List.set_cons_zero, List.set_cons_succ]
  refine wpAnyH_ready (rs := [12]) (by kernel_rfl) (by simp) ?_
  refine (AllReadyH.cons (o := ⟨some 9, _, _, _, _, _⟩) rfl (fun K hK => ?_) AllReadyH.nil)
  go_simp
  have H11 := Lib.hid (H10.out.box1 #[.int .i64 0, .string ⟨#[]⟩, .string ⟨#[]⟩, .slice none 0 0, .int .i64 0, .int .i64 0, .int .i64 0, .slice none 0 0] 61)
  refine hK.out _ _ (KP.out _ H11.out.tail.tail) (fun hHeld => ?_)
  clear hK K
  try simp only [Act.put, Nat.zero_add, List.setIfInBounds_toArray, List.set_cons_zero, List.set_cons_succ]
  refine wpAnyH_ready (rs := [13]) (by kernel_rfl) (by simp) ?_
  refine (AllReadyH.cons (o := ⟨none, _, _, _, _, _⟩) rfl (fun K hK => ?_) AllReadyH.nil)
  refine step_store_whole rfl rfl rfl 8 sizeTxnT (w10.heap.size) rfl _ _ (H11.out.box 0 rfl) rfl [.int .i64 1, .string whole, .string q.r.data, .slice a2 q.r.acl.length cap2, .int .i64 0, .int .i64 (inc cv), .int .i64 0, .slice none 0 0] rfl rfl rfl ?_
  intro w12 hg12 hM12 hz12
  have H12 := Lib.hid (H11.out.rebox 0 rfl hg12 hM12)
  clear hg12 hM12 hz12
  refine hK.out _ _ (KP.out _ H12.out.tail.tail) (fun hHeld => ?_)
  clear hK K
  try simp only [Act.put, Nat.zero_add, List.setIfInBounds_toArray, List.set_cons_zero, List.set_cons_succ]
  refine wpAnyH_done (by kernel_rfl) ?_ _
  have c8 := blk_cell (H12.out.box 7 rfl) 8 (.int .i64 q.r.flags) rfl
  have zx := heap_lt (H12.out.box 7 rfl)
  clear KP HA hHeld
  have c1 := blk_cell (H12.out.box 7 rfl) 1 (.int .i64 q.s) rfl
  have n4 := blk_cell (H12.out.box 0 rfl) 4 (.int .i64 0) rfl
  have f4 := blk_free (H12.out.box 0 rfl) 4
  have zn := heap_lt (H12.out.box 0 rfl)
  have H13 := Lib.hid (H12.out.set 0 rfl 4 (.int .i64 q.s))
  clear H12
  go_wp2_with (first
   | ((with_reducible refine at_list ?_); refine wpList_load_chunk 8 _ Tryz.underlying61 rfl sizeTxnT ⟨w10.heap.size, 0, none⟩ rfl [.int .i64 1, .string whole, .string q.r.data, .slice a2 q.r.acl.length cap2, .int .i64 q.s, .int .i64 (inc cv), .int .i64 0, .slice none 0 0] rfl (box_chunk0 (H13.out.box 0 rfl)) ?_)
   | ((with_reducible refine at_list ?_); refine wpList_store_whole 8 sizeTxnT (xb + 1) rfl _ _ (H13.out.box 6 rfl) rfl [.int .i64 1, .string whole, .string q.r.data, .slice a2 q.r.acl.length cap2, .int .i64 q.s, .int .i64 (inc cv), .int .i64 0, .slice none 0 0] rfl rfl rfl ?_; intro w14 hg14 hM14 hz14; have H14 := Lib.hid (H13.out.rebox 6 rfl hg14 hM14); clear hg14 hM14 hz14))
  refine bodyPost_ret (results_cell_tmp rfl _ w14 (xb + 1) _ _ _ _ rfl (H14.out.box 6 rfl) Tryz.underlying61 rfl sizeTxnT) rfl ?_
  exact ⟨a2, cap2, rfl, H14.out.one 1 rfl⟩
 focus
  go_simp
  have H11 := Lib.hid (HA.out.box1 #[.int .i64 0, .string ⟨#[]⟩, .string ⟨#[]⟩, .slice none 0 0, .int .i64 0, .int .i64 0, .int .i64 0, .slice none 0 0] 61)
  refine hK.out _ _ (KP.out _ H11.out.tail) (fun hHeld => ?_)
  clear hK K
  try simp only [Act.put, Nat.zero_add, List.setIfInBounds_toArray, List.set_cons_zero, List.set_cons_succ]
  refine wpAnyH_ready (rs := [7]) (by kernel_rfl) (by simp) ?_
  refine (AllReadyH.cons (o := ⟨some 54, _, _, _, _, _⟩) rfl (fun K hK => ?_) AllReadyH.nil)
  go_simp
  refine (CC.out _ H11.out.1).mono ?_
  rintro e w10 ⟨a2, cap2, rfl, hs2, hf2, hM10⟩
  have H10 := Lib.hid (H11.out.newSlice hM10 hs2 hf2)
  clear hs2 hf2 hM10
  refine hK.out _ _ (KP.out _ H10.out.tail.tail) (fun hHeld => ?_)
  clear hK K
  try simp only [Act.put, Nat.zero_add, List.setIfInBounds_toArray, List.set_cons_zero, List.set_cons_succ]
  refine tk 11 (some 58) ?_ rfl rfl hHeld ?_ ?_
  rotate_left
  ·intro wq hSw; (try dsimp only at hSw); go_simp; try with_reducible rfl
  try simp only [Act.put, Nat.zero_add, List.setIfInBounds_toArray, List.set_cons_zero, List.set_cons_succ]
  refine wpAnyH_ready (rs := [13]) (by kernel_rfl) (by simp) ?_
  refine (AllReadyH.cons (o := ⟨none, _, _, _, _, _⟩) rfl (fun K hK => ?_) AllReadyH.nil)
  refine step_store_whole rfl rfl rfl 8 sizeTxnT (w9.heap.size) rfl _ _ (H10.out.box 1 rfl) rfl [.int .i64 1, .string whole, .string q.r.data, .slice a2 q.r.acl.length cap2, .int .i64 0, .int .i64 (inc cv), .int .i64 0, .slice none 0 0] rfl rfl rfl ?_
  intro w12 hg12 hM12 hz12
  have H12 := Lib.hid (H10.out.rebox 1 rfl hg12 hM12)
  clear hg12 hM12 hz12
  refine hK.out _ _ (KP.out _ H12.out.tail.tail) (fun hHeld => ?_)
  clear hK K
  try simp only [Act.put, Nat.zero_add, List.setIfInBounds_toArray, List.set_cons_zero, List.set_cons_succ]
  refine wpAnyH_done (by kernel_rfl) ?_ _
  have c8 := blk_cell (H12.out.box 7 rfl) 8 (.int .i64 q.r.flags) rfl
  have zx := heap_lt (H12.out.box 7 rfl)
  clear KP HA hHeld
  have c1 := blk_cell (H12.out.box 7 rfl) 1 (.int .i64 q.s) rfl
  have n4 := blk_cell (H12.out.box 1 rfl) 4 (.int .i64 0) rfl
  have f4 := blk_free (H12.out.box 1 rfl) 4
  have zn := heap_lt (H12.out.box 1 rfl)
  have H13 := Lib.hid (H12.out.set 1 rfl 4 (.int .i64 q.s))
  clear H12
  go_wp2_with (first
   | ((with_reducible refine at_list ?_); refine wpList_load_chunk 8 _ Tryz.underlying61 rfl sizeTxnT ⟨w9.heap.size, 0, none⟩ rfl [.int .i64 1, .string whole, .string q.r.data, .slice a2 q.r.acl.length cap2, .int .i64 q.s, .int .i64 (inc cv), .int .i64 0, .slice none 0 0] rfl (box_chunk0 (H13.out.box 1 rfl)) ?_)
   | ((with_reducible refine at_list ?_); refine wpList_store_whole 8 sizeTxnT (xb + 1) rfl _ _ (H13.out.box 6 rfl) rfl [.int .i64 1, .string whole, .string q.r.data, .slice a2 q.r.acl.length cap2, .int .i64 q.s, .int .i64 (inc cv), .int .i64 0, .slice none 0 0] rfl rfl rfl ?_; intro w14 hg14 hM14 hz14; have H14 := Lib.hid (H13.out.rebox 6 rfl hg14 hM14); clear hg14 hM14 hz14))
  refine bodyPost_ret (results_cell_tmp rfl _ w14 (xb + 1) _ _ _ _ rfl (H14.out.box 6 rfl) Tryz.underlying61 rfl sizeTxnT) rfl ?_
  exact ⟨a2, cap2, rfl, H14.out.one 0 rfl⟩
theorem createW_any (q : WishR) (w : World) (hq : q.ok w) (hf : q.fit) (h0 : q.s ≠ 0) :
 Calls Tryz.prog 116 #[.agg q.cells.toArray] w (TxPost (q.T.mkTx q.s q.ids q.r) w) := by
 cases h2 : flag q.r.flags 2 <;> cases h1 : flag q.r.flags 1
 ·exact create_ff q w hq hf h0 h2 h1
 ·exact create_ft q w hq hf h0 h2 h1
 ·exact create_tf q w hq hf h0 h2 h1
 ·exact create_tt q w hq hf h0 h2 h1
end Go.Proofs.YtonnbkebjeoflaaGreatDoor
