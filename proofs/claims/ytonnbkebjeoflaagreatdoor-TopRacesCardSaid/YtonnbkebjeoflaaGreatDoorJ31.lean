/-
  Laws of PrepH, PrepO.
  Conditions: each law states its own.
-/
import Derived.Test.YtonnbkebjeoflaaGreatDoorJ29
import Derived.Test.YtonnbkebjeoflaaGreatDoorJ30
set_option maxHeartbeats 16000000
set_option linter.unusedSectionVars false
set_option linter.unusedSimpArgs false
set_option linter.unusedVariables false
set_option maxRecDepth 100000
namespace Go.Proofs.YtonnbkebjeoflaaGreatDoor
open Go.RowKit Go.Maps
theorem part_1 (q : WishR) (w : World) (hq : q.ok w) (hf : q.fit) (h0 : q.s ≠ 0) (hk : q.r.kind = 1) (R : Tx × Int) (hR : q.T.partTx q.s q.ids q.r = R) :
 Calls Tryz.prog 62 #[.agg q.cells.toArray] w (TxPost (q.T.partTx q.s q.ids q.r) w) := by
 have HB := Lib.hid (((St.start w).box1 q.carr 144).box1 #[.int .i64 0, .string ⟨#[]⟩, .string ⟨#[]⟩, .slice none 0 0, .int .i64 0, .int .i64 0, .int .i64 0, .slice none 0 0] 61)
 have CC : Hid (∀ W', Mod (fun _ => False) w W' → Calls Tryz.prog 116 #[.agg q.cells.toArray] W' (TxPost R W')) := Lib.hid fun W' m => by
  have h := createW_any q W' (hq.old m) hf h0
  rw [← hR]
  unfold Tree.partTx
  rw [if_pos hk]
  exact h
 rw [hR]
 rw [carr_eq]
 clear hq hf h0 hR
 go_enter Tryz.func62, Tryz.ntmps62
 go_upto_region 1 with (fail)
 rw [World.size_alloc] at HB
 generalize hW : (w.alloc _).alloc _ = W0 at HB ⊢
 generalize w.heap.size = xb at HB ⊢
 clear hW
 have c3 := blk_cell (HB.out.box 1 rfl) 3 (.int .i64 q.r.kind) rfl
 have zx := heap_lt (HB.out.box 1 rfl)
 rw [hk] at c3
 clear hk
 go_wp2_with (first
  | ((with_reducible refine at_list ?_); refine wpList_load_chunk 13 _ Tryz.underlying144 rfl sizeWish ⟨xb, 0, none⟩ rfl q.cells rfl (wish_chunk (HB.out.box 1 rfl)) ?_)
  | (go_at_call 116; refine (CC.out _ HB.out.1).mono ?_; rintro e w3 ⟨a, cap, rfl, hS3⟩; have H3 := Lib.hid (HB.out.join hS3); clear hS3)
  | ((with_reducible refine at_list ?_); refine wpList_store_whole 8 sizeTxnT (xb + 1) rfl _ _ (H3.out.box 1 rfl) rfl (TxR.cells ⟨R.1, a, cap, none, 0, 0⟩) rfl rfl rfl ?_; intro w4 hg4 hM4 hz4; have H4 := Lib.hid (H3.out.rebox 1 rfl hg4 hM4); clear hg4 hM4 hz4))
 refine bodyPost_ret (results_cell_tmp rfl _ w4 (xb + 1) _ _ _ _ rfl (H4.out.box 1 rfl) Tryz.underlying61 rfl sizeTxnT) rfl ?_
 exact ⟨a, cap, rfl, H4.out.one 0 rfl⟩
theorem part_2 (q : WishR) (w : World) (hq : q.ok w) (hf : q.fit) (h0 : q.s ≠ 0) (hk : q.r.kind = 2) (R : Tx × Int) (hR : q.T.partTx q.s q.ids q.r = R) :
 Calls Tryz.prog 62 #[.agg q.cells.toArray] w (TxPost (q.T.partTx q.s q.ids q.r) w) := by
 have HB := Lib.hid (((St.start w).box1 q.carr 144).box1 #[.int .i64 0, .string ⟨#[]⟩, .string ⟨#[]⟩, .slice none 0 0, .int .i64 0, .int .i64 0, .int .i64 0, .slice none 0 0] 61)
 have CC : Hid (∀ W', Mod (fun _ => False) w W' → Calls Tryz.prog 117 #[.agg q.cells.toArray] W' (TxPost R W')) := Lib.hid fun W' m => by
  have h := eraseW_any q W' (hq.old m) hf
  rw [← hR]
  unfold Tree.partTx
  rw [if_neg (by omega), if_pos hk]
  exact h
 rw [hR]
 rw [carr_eq]
 clear hq hf h0 hR
 go_enter Tryz.func62, Tryz.ntmps62
 go_upto_region 1 with (fail)
 rw [World.size_alloc] at HB
 generalize hW : (w.alloc _).alloc _ = W0 at HB ⊢
 generalize w.heap.size = xb at HB ⊢
 clear hW
 have c3 := blk_cell (HB.out.box 1 rfl) 3 (.int .i64 q.r.kind) rfl
 have zx := heap_lt (HB.out.box 1 rfl)
 rw [hk] at c3
 clear hk
 go_wp2_with (first
  | ((with_reducible refine at_list ?_); refine wpList_load_chunk 13 _ Tryz.underlying144 rfl sizeWish ⟨xb, 0, none⟩ rfl q.cells rfl (wish_chunk (HB.out.box 1 rfl)) ?_)
  | (go_at_call 117; refine (CC.out _ HB.out.1).mono ?_; rintro e w3 ⟨a, cap, rfl, hS3⟩; have H3 := Lib.hid (HB.out.join hS3); clear hS3)
  | ((with_reducible refine at_list ?_); refine wpList_store_whole 8 sizeTxnT (xb + 1) rfl _ _ (H3.out.box 1 rfl) rfl (TxR.cells ⟨R.1, a, cap, none, 0, 0⟩) rfl rfl rfl ?_; intro w4 hg4 hM4 hz4; have H4 := Lib.hid (H3.out.rebox 1 rfl hg4 hM4); clear hg4 hM4 hz4))
 refine bodyPost_ret (results_cell_tmp rfl _ w4 (xb + 1) _ _ _ _ rfl (H4.out.box 1 rfl) Tryz.underlying61 rfl sizeTxnT) rfl ?_
 exact ⟨a, cap, rfl, H4.out.one 0 rfl⟩
theorem part_0 (q : WishR) (w : World) (hk : kindOf q.r.kind = (kNil, false)) (h1 : q.r.kind ≠ 1) (h2 : q.r.kind ≠ 2) (hR : q.T.partTx q.s q.ids q.r = (Tree.tx0, 110)) :
 Calls Tryz.prog 62 #[.agg q.cells.toArray] w (TxPost (q.T.partTx q.s q.ids q.r) w) := by
 have HB := Lib.hid (((St.start w).box1 q.carr 144).box1 #[.int .i64 0, .string ⟨#[]⟩, .string ⟨#[]⟩, .slice none 0 0, .int .i64 0, .int .i64 0, .int .i64 0, .slice none 0 0] 61)
 have CK : Hid (∀ W', Calls Tryz.prog 118 #[.int .i64 q.r.kind] W' (CpPost (.tuple #[.agg kNil.toArray, .bool false]) W')) := Lib.hid fun W' => by
  have h := kinds_any q.r.kind W'
  rw [hk] at h
  exact h
 rw [hR, carr_eq]
 clear hR hk
 go_enter Tryz.func62, Tryz.ntmps62
 go_upto_region 1 with (fail)
 rw [World.size_alloc] at HB
 generalize hW : (w.alloc _).alloc _ = W0 at HB ⊢
 generalize w.heap.size = xb at HB ⊢
 clear hW
 have c3 := blk_cell (HB.out.box 1 rfl) 3 (.int .i64 q.r.kind) rfl
 have zx := heap_lt (HB.out.box 1 rfl)
 generalize q.r.kind = k at c3 h1 h2 CK
 have g1 : (k == 1) = false := by simpa using h1
 have g2 : (k == 2) = false := by simpa using h2
 clear h1 h2
 go_wp2_with (first
  | (go_at_call 118; refine (CK.out _).mono ?_; rintro e w3 ⟨rfl, hM3⟩; have H3 := Lib.hid ((HB.out.mod hM3).box1 #[Value.nilFunc, .int .i64 0, Value.nilFunc, Value.nilFunc] 220); clear hM3)
  | ((with_reducible refine at_list ?_); refine wpList_store_whole 4 sizeKind w3.heap.size rfl _ _ (H3.out.box 0 rfl) rfl kNil rfl rfl rfl ?_; intro w4 hg4 hM4 hz4; have H4 := Lib.hid (H3.out.rebox 0 rfl hg4 hM4); clear hg4 hM4 hz4)
  | ((with_reducible refine at_list ?_); refine wpList_store_whole 8 sizeTxnT (xb + 1) rfl _ _ (H4.out.box 1 rfl) rfl [.int .i64 0, .string ⟨#[]⟩, .string ⟨#[]⟩, .slice none 0 0, .int .i64 0, .int .i64 0, .int .i64 0, .slice none 0 0] rfl rfl rfl ?_; intro w5 hg5 hM5 hz5; have H5 := Lib.hid (H4.out.rebox 1 rfl hg5 hM5); clear hg5 hM5 hz5))
 refine bodyPost_ret (results_cell_tmp rfl _ w5 (xb + 1) _ _ _ _ rfl (H5.out.box 1 rfl) Tryz.underlying61 rfl sizeTxnT) rfl ?_
 exact ⟨none, 0, rfl, (H5.out.nilSlice _ _).one 0 rfl⟩
theorem part_go (q : WishR) (w : World) (hq : q.ok w) (hf : q.fit) (W S T : FuncId) (perm we stamp ln kn : Int) (s : St7) (x : Tx) (hk : kindOf q.r.kind = (kindL W perm S T, true)) (h1 : q.r.kind ≠ 1) (h2 : q.r.kind ≠ 2)
 (hs : q.T.statV q.r.path = s.vals ln kn) (ho : KindOk q s ln kn w W S T we stamp x) (hR : q.T.partTx q.s q.ids q.r = (x, firstE [checkB q.r.path, we, whenE (!q.T.is q.r.path) 60, whenE (!q.T.mayAt q.ids q.r.path perm) 65, whenE (decide (q.r.version ≠ -1) && decide (q.r.version ≠ stamp)) 66])) :
 Calls Tryz.prog 62 #[.agg q.cells.toArray] w (TxPost (q.T.partTx q.s q.ids q.r) w) := by
 rw [hR]
 obtain ⟨is, his⟩ : ∃ is, q.T.is q.r.path = is := ⟨_, rfl⟩
 rw [his]
 obtain ⟨es, hes⟩ : ∃ es : List Int, [checkB q.r.path, we, whenE (!is) 60, whenE (!q.T.mayAt q.ids q.r.path perm) 65, whenE (decide (q.r.version ≠ -1) && decide (q.r.version ≠ stamp)) 66] = es := ⟨_, rfl⟩
 rw [hes]
 have HES := Lib.hid hes
 have HQ := Lib.hid hq
 have HFT := Lib.hid hf
 have HO := Lib.hid ho
 have CK : Hid (∀ W', Calls Tryz.prog 118 #[.int .i64 q.r.kind] W' (CpPost (.tuple #[.agg (kindL W perm S T).toArray, .bool true]) W')) := Lib.hid fun W' => by
  have h := kinds_any q.r.kind W'
  rw [hk] at h
  exact h
 have CS : Hid (∀ W', Mod (fun _ => False) w W' → Calls Tryz.prog 87 #[.pointer (some ⟨q.tb, 0, none⟩), .string q.r.path] W' (CpPost (.tuple #[.agg (s.vals ln kn).toArray, .bool is]) W')) := Lib.hid fun W' k => by
  have := stat_any W' q.tb q.T (hq.tree.old k) hf.tree q.r.path (by have := hf.path; unfold maxLen; omega)
  rw [hs, his] at this
  exact this
 have es_ := ho.es
 have et_ := ho.et
 have HB := Lib.hid (((St.start w).box1 q.carr 144).box1 #[.int .i64 0, .string ⟨#[]⟩, .string ⟨#[]⟩, .slice none 0 0, .int .i64 0, .int .i64 0, .int .i64 0, .slice none 0 0] 61)
 rw [carr_eq]
 clear hq hf hk hs ho hR his hes
 go_enter Tryz.func62, Tryz.ntmps62
 go_upto_region 1 with (fail)
 rw [World.size_alloc] at HB
 generalize hW : (w.alloc _).alloc _ = W0 at HB ⊢
 generalize w.heap.size = xb at HB ⊢
 clear hW
 have c3 := blk_cell (HB.out.box 1 rfl) 3 (.int .i64 q.r.kind) rfl
 have zx := heap_lt (HB.out.box 1 rfl)
 have c0 := blk_cell (HB.out.box 1 rfl) 0 (.pointer (some ⟨q.tb, 0, none⟩)) rfl
 have c5 := blk_cell (HB.out.box 1 rfl) 5 (.string q.r.path) rfl
 obtain ⟨kd, hkd⟩ : ∃ kd, q.r.kind = kd := ⟨_, rfl⟩
 rw [hkd] at c3 h1 h2 CK
 have g1 : (kd == 1) = false := by simpa using h1
 have g2 : (kd == 2) = false := by simpa using h2
 clear h1 h2 hkd
 go_upto_region 10 with (first
  | (go_at_call 118; refine (CK.out _).mono ?_; rintro e w3 ⟨rfl, hM3⟩; have H3 := Lib.hid ((HB.out.mod hM3).box1 #[Value.nilFunc, .int .i64 0, Value.nilFunc, Value.nilFunc] 220); clear hM3 c3 c0 c5)
  | ((with_reducible refine at_list ?_); refine wpList_store_whole 4 sizeKind w3.heap.size rfl _ _ (H3.out.box 0 rfl) rfl (kindL W perm S T) rfl rfl rfl ?_; intro w4 hg4 hM4 hz4; have hS4 := H3.out.rebox 0 rfl hg4 hM4; have c0 := blk_cell (hS4.box 2 rfl) 0 (.pointer (some ⟨q.tb, 0, none⟩)) rfl; have c5 := blk_cell (hS4.box 2 rfl) 5 (.string q.r.path) rfl; have zx := heap_lt (hS4.box 2 rfl); have H4 := Lib.hid hS4; clear hg4 hM4 hz4 hS4)
  | (go_at_call 87; refine (CS.out _ H4.out.1).mono ?_; rintro e w5 ⟨rfl, hM5⟩; have H5 := Lib.hid (((H4.out.mod hM5).box1 #[.int .i64 0, .int .i64 0, .int .i64 0, .int .i64 0, .int .i64 0, .int .i64 0, .int .i64 0, .int .i64 0, .int .i64 0] 29).box1 #[.bool false] 4); clear hM5)
  | ((with_reducible refine at_list ?_); refine wpList_store_whole 9 sizeStatT w5.heap.size rfl _ _ (H5.out.box 1 rfl) rfl (s.vals ln kn) rfl rfl rfl ?_; intro w6 hg6 hM6 hz6; have hS6 := H5.out.rebox 1 rfl hg6 hM6; rw [World.size_alloc] at hS6; simp only [zC, zB] at hS6; have cb := blk_cell (hS6.box 0 rfl) 0 (.bool false) rfl; have fb := blk_free (hS6.box 0 rfl) 0; have zb := heap_lt (hS6.box 0 rfl); have H6 := Lib.hid (hS6.set 0 rfl 0 (.bool is)); clear hg6 hM6 hz6 hS6 H5))
 have h7 := H6.out
 simp only [zB] at h7
 generalize w6.setCell _ _ = w7 at h7 ⊢
 generalize w5.heap.size + 1 = ib at h7 ⊢
 generalize w5.heap.size = sb at h7 ⊢
 generalize w3.heap.size = kb at h7 ⊢
 have h7 : St w w7 (bx ib #[.bool is] 4 :: bx sb (s.vals ln kn).toArray 29 :: bx kb (kindL W perm S T).toArray 220 :: bx (xb + 1) #[.int .i64 0, .string ⟨#[]⟩, .string ⟨#[]⟩, .slice none 0 0, .int .i64 0, .int .i64 0, .int .i64 0, .slice none 0 0] 61 :: bx xb q.carr 144 :: []) := h7
 have H7 := Lib.hid h7
 clear h7 H6 H4 H3 HB cb fb zb c0 c5 zx CS CK
 have CF : Hid (Calls Tryz.prog 119 #[.slice (some ⟨w7.heap.size, 0, none⟩) 5 5] (w7.alloc (.cells #[.func (.func 120) #[] #[.pointer (some ⟨xb, 0, none⟩)], .func (.func 122) #[] #[.pointer (some ⟨kb, 0, none⟩), .pointer (some ⟨xb, 0, none⟩)], .func (.func 123) #[] #[.pointer (some ⟨ib, 0, none⟩)], .func (.func 125) #[] #[.pointer (some ⟨xb, 0, none⟩), .pointer (some ⟨kb, 0, none⟩)], .func (.func 127) #[] #[.pointer (some ⟨xb, 0, none⟩), .pointer (some ⟨kb, 0, none⟩), .pointer (some ⟨sb, 0, none⟩)]] 125)) (CpPost (.int .i64 (firstE es)) (w7.alloc (.cells #[.func (.func 120) #[] #[.pointer (some ⟨xb, 0, none⟩)], .func (.func 122) #[] #[.pointer (some ⟨kb, 0, none⟩), .pointer (some ⟨xb, 0, none⟩)], .func (.func 123) #[] #[.pointer (some ⟨ib, 0, none⟩)], .func (.func 125) #[] #[.pointer (some ⟨xb, 0, none⟩), .pointer (some ⟨kb, 0, none⟩)], .func (.func 127) #[] #[.pointer (some ⟨xb, 0, none⟩), .pointer (some ⟨kb, 0, none⟩), .pointer (some ⟨sb, 0, none⟩)]] 125)))) := Lib.hid (by
  have hS8 := H7.out.mod ((Mod.refl _ w7).alloc (.cells #[.func (.func 120) #[] #[.pointer (some ⟨xb, 0, none⟩)], .func (.func 122) #[] #[.pointer (some ⟨kb, 0, none⟩), .pointer (some ⟨xb, 0, none⟩)], .func (.func 123) #[] #[.pointer (some ⟨ib, 0, none⟩)], .func (.func 125) #[] #[.pointer (some ⟨xb, 0, none⟩), .pointer (some ⟨kb, 0, none⟩)], .func (.func 127) #[] #[.pointer (some ⟨xb, 0, none⟩), .pointer (some ⟨kb, 0, none⟩), .pointer (some ⟨sb, 0, none⟩)]] 125))
  have hnew := heap_alloc_new w7 (.cells #[.func (.func 120) #[] #[.pointer (some ⟨xb, 0, none⟩)], .func (.func 122) #[] #[.pointer (some ⟨kb, 0, none⟩), .pointer (some ⟨xb, 0, none⟩)], .func (.func 123) #[] #[.pointer (some ⟨ib, 0, none⟩)], .func (.func 125) #[] #[.pointer (some ⟨xb, 0, none⟩), .pointer (some ⟨kb, 0, none⟩)], .func (.func 127) #[] #[.pointer (some ⟨xb, 0, none⟩), .pointer (some ⟨kb, 0, none⟩), .pointer (some ⟨sb, 0, none⟩)]] 125)
  generalize w7.alloc _ = W8 at hS8 hnew ⊢
  have hwb := hS8.box 4 rfl
  have hkb := hS8.box 2 rfl
  have hqo := HQ.out.old hS8.1
  rw [← HES.out]
  refine first_any W8 w7.heap.size 125 [(.func (.func 120) #[] #[.pointer (some ⟨xb, 0, none⟩)], checkB q.r.path), (.func (.func 122) #[] #[.pointer (some ⟨kb, 0, none⟩), .pointer (some ⟨xb, 0, none⟩)], we), (.func (.func 123) #[] #[.pointer (some ⟨ib, 0, none⟩)], whenE (!is) 60), (.func (.func 125) #[] #[.pointer (some ⟨xb, 0, none⟩), .pointer (some ⟨kb, 0, none⟩)], whenE (!q.T.mayAt q.ids q.r.path perm) 65), (.func (.func 127) #[] #[.pointer (some ⟨xb, 0, none⟩), .pointer (some ⟨kb, 0, none⟩), .pointer (some ⟨sb, 0, none⟩)], whenE (decide (q.r.version ≠ -1) && decide (q.r.version ≠ stamp)) 66)] 5 rfl (by omega) hnew ?_
  intro f hf
  simp only [List.mem_cons, List.not_mem_nil, or_false] at hf
  rcases hf with rfl | rfl | rfl | rfl | rfl
  ·exact cl_part1 W8 q xb hwb hqo HFT.out
  ·exact cl_part2 W8 q xb kb W S T perm we stamp ln kn s x hwb hkb (HO.out.old hS8.1)
  ·exact cl_part3 W8 ib is ⟨_, hS8.box 0 rfl⟩
  ·exact cl_part4 W8 q xb kb W S T perm we stamp ln kn s x hwb hkb hqo HFT.out (HO.out.old hS8.1)
  ·exact cl_part5 W8 q xb kb sb W S T perm we stamp ln kn s x hwb hkb (hS8.box 1 rfl) (HO.out.old hS8.1))
 have H8 := Lib.hid (H7.out.mod ((Mod.refl _ w7).alloc (.cells #[.func (.func 120) #[] #[.pointer (some ⟨xb, 0, none⟩)], .func (.func 122) #[] #[.pointer (some ⟨kb, 0, none⟩), .pointer (some ⟨xb, 0, none⟩)], .func (.func 123) #[] #[.pointer (some ⟨ib, 0, none⟩)], .func (.func 125) #[] #[.pointer (some ⟨xb, 0, none⟩), .pointer (some ⟨kb, 0, none⟩)], .func (.func 127) #[] #[.pointer (some ⟨xb, 0, none⟩), .pointer (some ⟨kb, 0, none⟩), .pointer (some ⟨sb, 0, none⟩)]] 125)))
 go_upto_region 11 with (go_at_call 119; refine CF.out.mono ?_; rintro e w9 ⟨rfl, hM9⟩; have H9 := Lib.hid (H8.out.mod hM9); clear hM9)
 clear CF H8 H7
 have KP : Hid (∀ (w' : World), St w w' (bx ib #[.bool is] 4 :: bx sb (s.vals ln kn).toArray 29 :: bx kb (kindL W perm S T).toArray 220 :: bx (xb + 1) #[.int .i64 0, .string ⟨#[]⟩, .string ⟨#[]⟩, .slice none 0 0, .int .i64 0, .int .i64 0, .int .i64 0, .slice none 0 0] 61 :: bx xb q.carr 144 :: []) → w'.cell? ⟨kb, 3, none⟩ = some (.func (.func T) #[] #[]) ∧ w'.cell? ⟨kb, 2, none⟩ = some (.func (.func S) #[] #[]) ∧ w'.heap[xb]? = some (.cells q.cells.toArray 144 (0, 0)) ∧ w'.heap[sb]? = some (.cells (s.vals ln kn).toArray 29 (0, 0))) := Lib.hid fun w' h => ⟨blk_cell (h.box 2 rfl) 3 _ rfl, blk_cell (h.box 2 rfl) 2 _ rfl, h.box 4 rfl, h.box 1 rfl⟩
 have HA := Lib.hid H9.out.drew
 refine wp_region_held_drew (S := fun w' => w'.cell? ⟨kb, 3, none⟩ = some (.func (.func T) #[] #[]) ∧ w'.cell? ⟨kb, 2, none⟩ = some (.func (.func S) #[] #[]) ∧ w'.heap[xb]? = some (.cells q.cells.toArray 144 (0, 0)) ∧ w'.heap[sb]? = some (.cells (s.vals ln kn).toArray 29 (0, 0))) (by kernel_rfl) (KP.out _ HA.out) (fun hHeld => ?_)
 clear H9
 generalize w9.drew = w9 at HA hHeld ⊢
 refine tk 0 (some 50) ?_ rfl rfl hHeld ?_ ?_
 rotate_left
 ·intro wq hSw; (try dsimp only at hSw); go_simp; try with_reducible rfl
 refine tk 1 (some 51) ?_ rfl rfl hHeld ?_ ?_
 rotate_left
 ·intro wq hSw; (try dsimp only at hSw); go_simp; try with_reducible rfl
 try simp only [Act.put, Nat.zero_add, zA, zB, zC]
 refine wpAnyH_take (i := 2) (oi := ⟨some 52, _, _, _, _, _⟩) (v := _) rfl (by kernel_rfl) (by kernel_rfl) (by kernel_rfl) (fun _ _ _ h => h) (yieldsT 13 _ (by rfl) rfl Tryz.underlying144 rfl sizeWish xb (by rfl) q.cells rfl 144 (fun _ h => h.2.2.1)) hHeld ?_
 try simp only [Act.put, Nat.zero_add, zA, zB, zC]
 refine tk 3 (some 53) ?_ rfl rfl hHeld ?_ ?_
 rotate_left
 ·intro wq hSw; (try dsimp only at hSw); go_simp; try with_reducible rfl
 refine tk 4 (some 54) ?_ rfl rfl hHeld ?_ ?_
 rotate_left
 ·intro wq hSw; (try dsimp only at hSw); go_simp; try with_reducible rfl
 try simp only [Act.put, Nat.zero_add, zA, zB, zC]
 refine wpAnyH_take (i := 5) (oi := ⟨some 55, _, _, _, _, _⟩) (v := _) rfl (by kernel_rfl) (by kernel_rfl) (by kernel_rfl) (fun _ _ _ h => h) (yieldsT 9 _ (by rfl) rfl Tryz.underlying29 rfl sizeStatT sb (by rfl) (s.vals ln kn) rfl 29 (fun _ h => h.2.2.2)) hHeld ?_
 try simp only [Act.put, Nat.zero_add, zA, zB, zC]
 refine tk 8 (some 58) ?_ rfl rfl hHeld ?_ ?_
 rotate_left
 ·intro wq hSw; (try dsimp only at hSw); go_simp; try with_reducible rfl
 try simp only [Act.put, Nat.zero_add, zA, zB, zC]
 refine wpAnyH_ready (rs := [6]) (by kernel_rfl) (by simp) ?_
 refine (AllReadyH.cons (o := ⟨some 56, _, _, _, _, _⟩) rfl (fun K hK => ?_) AllReadyH.nil)
 go_simp
 refine ((HO.out.old HA.out.1).cs _ (Mod.refl _ _)).mono ?_
 rintro e w10 ⟨rfl, hM10⟩
 have H10 := Lib.hid (HA.out.mod hM10)
 clear hM10
 refine hK.out _ _ (KP.out _ H10.out) (fun hHeld => ?_)
 clear hK K
 try simp only [Act.put, Nat.zero_add, zA, zB, zC]
 refine wpAnyH_ready (rs := [7]) (by kernel_rfl) (by simp) ?_
 refine (AllReadyH.cons (o := ⟨some 57, _, _, _, _, _⟩) rfl (fun K hK => ?_) AllReadyH.nil)
 go_simp
 refine ((HO.out.old H10.out.1).ct _ (Mod.refl _ _)).mono ?_
 rintro e w11 ⟨a2, cap2, rfl, hS11⟩
 have H11 := Lib.hid (H10.out.join hS11)
 clear hS11
 refine hK.out _ _ (KP.out _ H11.out.tail) (fun hHeld => ?_)
 clear hK K
 try simp only [Act.put, Nat.zero_add, zA, zB, zC]
 refine wpAnyH_ready (rs := [9]) (by kernel_rfl) (by simp) ?_
 refine (AllReadyH.cons (o := ⟨none, _, _, _, _, _⟩) rfl (fun K hK => ?_) AllReadyH.nil)
 refine step_store_whole rfl rfl rfl 8 sizeTxnT (xb + 1) rfl _ _ (H11.out.box 4 rfl) rfl (TxR.cells ⟨x, a2, cap2, none, 0, 0⟩) rfl rfl rfl ?_
 intro w12 hg12 hM12 hz12
 have H12 := Lib.hid (H11.out.rebox 4 rfl hg12 hM12)
 clear hg12 hM12 hz12
 have hS12 : w12.cell? ⟨kb, 3, none⟩ = some (.func (.func T) #[] #[]) ∧ w12.cell? ⟨kb, 2, none⟩ = some (.func (.func S) #[] #[]) ∧ w12.heap[xb]? = some (.cells q.cells.toArray 144 (0, 0)) ∧ w12.heap[sb]? = some (.cells (s.vals ln kn).toArray 29 (0, 0)) := ⟨blk_cell (H12.out.box 3 rfl) 3 _ rfl, blk_cell (H12.out.box 3 rfl) 2 _ rfl, H12.out.box 5 rfl, H12.out.box 2 rfl⟩
 refine hK.out _ _ hS12 (fun hHeld => ?_)
 clear hK K
 try simp only [Act.put, Nat.zero_add, zA, zB, zC]
 refine wpAnyH_ready (rs := [10]) (by kernel_rfl) (by simp) ?_
 refine (AllReadyH.cons (o := ⟨some 3, _, _, _, _, _⟩) rfl (fun K hK => ?_) AllReadyH.nil)
 go_simp
 refine hK.out _ _ hHeld (fun hHeld => ?_)
 clear hK K
 try simp only [Act.put, Nat.zero_add, zA, zB, zC]
 refine wpAnyH_done (by kernel_rfl) ?_ _
 clear hHeld KP HA
 go_wp2
 refine bodyPost_ret (results_cell_tmp rfl _ w12 (xb + 1) _ _ _ _ rfl (H12.out.box 4 rfl) Tryz.underlying61 rfl sizeTxnT) rfl ?_
 exact ⟨a2, cap2, rfl, H12.out.one 0 rfl⟩
theorem none_q (q : WishR) (w : World) : Calls Tryz.prog 209 #[.agg q.cells.toArray] w (CpPost (.int .i64 0) w) := none_any q w
theorem partW_any (q : WishR) (w : World) (hq : q.ok w) (hf : q.fit) (h0 : q.s ≠ 0) :
 Calls Tryz.prog 62 #[.agg q.cells.toArray] w (TxPost (q.T.partTx q.s q.ids q.r) w) := by
 by_cases h1 : q.r.kind = 1
 ·exact part_1 q w hq hf h0 h1 _ rfl
 by_cases h2 : q.r.kind = 2
 ·exact part_2 q w hq hf h0 h2 _ rfl
 obtain ⟨ln, kn, hs, _⟩ := statV_vals q.T q.r.path
 by_cases h3 : q.r.kind = 3
 ·refine part_go q w hq hf _ _ _ 2 (whenE (decide (100 < q.r.data.size)) 1) (q.T.stat q.r.path).version ln kn (q.T.stat q.r.path) _ (by rw [h3]; rfl) h1 h2 hs ⟨enters_of Tryz.func204 (by kernel_rfl) rfl, fun w' _ => wrongSet_any q w', enters_of Tryz.func203 (by kernel_rfl) rfl, fun w' _ => version_any _ _ _ w', enters_of Tryz.func205 (by kernel_rfl) rfl, fun w' _ => txnSet_any q _ w'⟩ ?_
  unfold Tree.partTx
  simp only [if_neg h1, if_neg h2, if_pos h3]
 by_cases h4 : q.r.kind = 4
 ·refine part_go q w hq hf _ _ _ 16 (whenE (!A.rightL q.r.acl) 50) (q.T.stat q.r.path).aversion ln kn (q.T.stat q.r.path) _ (by rw [h4]; rfl) h1 h2 hs ⟨enters_of Tryz.func206 (by kernel_rfl) rfl, fun w' m => wrongAcl_any q w' (hq.old m) hf, enters_of Tryz.func207 (by kernel_rfl) rfl, fun w' _ => aversion_any _ _ _ w', enters_of Tryz.func208 (by kernel_rfl) rfl, fun w' m => txnAcl_any q _ w' (hq.old m) hf⟩ ?_
  unfold Tree.partTx
  simp only [if_neg h1, if_neg h2, if_neg h3, if_pos h4]
 by_cases h5 : q.r.kind = 5
 ·refine part_go q w hq hf _ _ _ 1 0 (q.T.stat q.r.path).version ln kn (q.T.stat q.r.path) _ (by rw [h5]; rfl) h1 h2 hs ⟨enters_of Tryz.func209 (by kernel_rfl) rfl, fun w' _ => none_q q w', enters_of Tryz.func203 (by kernel_rfl) rfl, fun w' _ => version_any _ _ _ w', enters_of Tryz.func210 (by kernel_rfl) rfl, fun w' _ => txnNoop_any q _ w'⟩ ?_
  unfold Tree.partTx
  simp only [if_neg h1, if_neg h2, if_neg h3, if_neg h4, if_pos h5]
 ·refine part_0 q w (by unfold kindOf; rw [if_neg h3, if_neg h4, if_neg h5]) h1 h2 ?_
  unfold Tree.partTx
  simp only [if_neg h1, if_neg h2, if_neg h3, if_neg h4, if_neg h5]
theorem sizeRqU : (Tryz.prog.info? 40).map (·.size) = some 10 := by kernel_rfl
def TxnOwn (r : TxR) (subs : List TxR) : List Thing := [sl 46 2 r.aa r.x.acl.length r.ac (r.x.acl.flatMap ARow.cells), sl 61 8 r.sa r.sn r.sc (subs.flatMap TxR.cells), grp (subs.map fun s => sl 46 2 s.aa s.x.acl.length s.ac (s.x.acl.flatMap ARow.cells))]
def T2Post (X : Tx2) (w : World) (e : Ending) (w' : World) : Prop :=
 ∃ (r : TxR) (subs : List TxR), r.x = X.x ∧ subs.map TxR.x = X.subs ∧ subs.length = r.sn ∧ e = .returned (.agg r.cells.toArray) ∧ St w w' (TxnOwn r subs)
theorem T2Post.of {x : Tx} {a : Option Addr} {cap : Nat} {w w' : World} (h : St w w' [sl 46 2 a x.acl.length cap (x.acl.flatMap ARow.cells)]) :
 T2Post ⟨x, []⟩ w (.returned (.agg (TxR.cells ⟨x, a, cap, none, 0, 0⟩).toArray)) w' :=
 ⟨⟨x, a, cap, none, 0, 0⟩, [], rfl, rfl, rfl, rfl, ((St.regrp [] (l := _ :: _) (h.nilSlice 61 8)).pick 2 rfl).perm ((List.Perm.swap _ _ _).cons _)⟩
theorem txn_part (T : Tree) (s : Int) (ids : List ByteArray) (r : Rq) (h : Tree.changes r.r.kind = true) (hs : (getK T.sessions s).isSome = true) (h6 : r.r.kind ≠ 6) (h8 : r.r.kind ≠ 8) :
 T.txn s ids r = if r.r.kind = 7 then ⟨Tree.tx0, []⟩ else if (T.partTx s ids r.r).2 ≠ 0 then Tree.refusal (T.partTx s ids r.r).2 (-1) else ⟨(T.partTx s ids r.r).1, []⟩ := by
 unfold Tree.txn
 rw [if_neg (by rw [h]; decide), if_neg (by cases hg : getK T.sessions s <;> simp_all), if_neg h6]
 by_cases h7 : r.r.kind = 7
 ·rw [if_pos h7, if_pos h7]
 ·rw [if_neg h7, if_neg h7, if_neg h8]
theorem txn_any_part (q : WishR) (w : World) (hq : q.ok w) (hf : q.fit) (h0 : q.s ≠ 0) (hs : okInt q.s) (X : Rq) (hX : X.r = q.r) (hc : Tree.changes q.r.kind = true) (hss : (getK q.T.sessions q.s).isSome = true) (h6 : q.r.kind ≠ 6) (h8 : q.r.kind ≠ 8) :
 Calls Tryz.prog 31 #[.pointer (some ⟨q.tb, 0, none⟩), .int .i64 q.s, .slice q.ia q.ids.length q.ic, .agg q.rcells.toArray] w (T2Post (q.T.txn q.s q.ids X) w) := by
 rw [txn_part _ _ _ _ (by rw [hX]; exact hc) hss (by rw [hX]; exact h6) (by rw [hX]; exact h8), hX]
 obtain ⟨is, his⟩ : ∃ is, (getK q.T.sessions q.s).isSome = is := ⟨_, rfl⟩
 obtain ⟨hv, hhv⟩ : ∃ v, (getK q.T.sessions q.s).getD ⟨0, .empty⟩ = v := ⟨_, rfl⟩
 have CS : Hid (∀ W, Mod (fun _ => False) w W → Calls Tryz.prog 56 #[.pointer (some ⟨q.tb, 0, none⟩), .int .i64 q.s] W (CpPost (.tuple #[.int .i64 hv.timeout, .string hv.secret, .bool is]) W)) := Lib.hid fun W k => session_any W q.tb q.T (hq.tree.old k) q.s hs hv is hhv his
 have HQ := Lib.hid hq
 have HFT := Lib.hid hf
 have HIS := Lib.hid his
 have HXX := Lib.hid hX
 have H00 := Lib.hid h0
 have HB := Lib.hid (((St.start w).box1 #[.int .i64 q.r.kind, .int .i64 q.r.xid, .string q.r.path, .string q.r.data, .slice q.aa q.r.acl.length q.ac, .int .i64 q.r.flags, .int .i64 q.r.version, .bool q.r.watch, .slice q.sa q.sn q.sc, .slice q.ra q.rn q.rc] 40).box1 #[.int .i64 0, .string ⟨#[]⟩, .string ⟨#[]⟩, .slice none 0 0, .int .i64 0, .int .i64 0, .int .i64 0, .slice none 0 0] 61)
 rw [World.size_alloc] at HB
 show Calls _ _ #[_, _, _, .agg #[.int .i64 q.r.kind, .int .i64 q.r.xid, .string q.r.path, .string q.r.data, .slice q.aa q.r.acl.length q.ac, .int .i64 q.r.flags, .int .i64 q.r.version, .bool q.r.watch, .slice q.sa q.sn q.sc, .slice q.ra q.rn q.rc]] _ _
 clear hq hf his hhv hX h0 hs
 have hf0 : is = true := by rw [← HIS.out]; exact hss
 subst hf0
 have HCH0 := Lib.hid hc
 have HN6 := Lib.hid h6
 have HN8 := Lib.hid h8
 clear hc hss h6 h8
 obtain ⟨PT, hPT⟩ : ∃ PT, q.T.partTx q.s q.ids q.r = PT := ⟨_, rfl⟩
 have CPA : Hid (∀ W, Mod (fun _ => False) w W → Calls Tryz.prog 62 #[.agg #[.pointer (some ⟨q.tb, 0, none⟩), .int .i64 q.s, .slice q.ia q.ids.length q.ic, .int .i64 q.r.kind, .int .i64 q.r.xid, .string q.r.path, .string q.r.data, .slice q.aa q.r.acl.length q.ac, .int .i64 q.r.flags, .int .i64 q.r.version, .bool q.r.watch, .slice q.sa q.sn q.sc, .slice q.ra q.rn q.rc]] W (TxPost PT W)) := Lib.hid fun W k => by rw [← hPT]; exact partW_any q W (HQ.out.old k) HFT.out H00.out
 rw [hPT]
 obtain ⟨R, hR⟩ : ∃ R : Tx2, (if q.r.kind = 7 then (⟨Tree.tx0, []⟩ : Tx2) else if PT.2 ≠ 0 then Tree.refusal PT.2 (-1) else ⟨PT.1, []⟩) = R := ⟨_, rfl⟩
 rw [hR]
 have HR := Lib.hid hR
 clear hPT hR
 go_enter Tryz.func31, Tryz.ntmps31
 go_upto_region 1 with (fail)
 generalize hW : (w.alloc _).alloc _ = W at HB ⊢
 generalize w.heap.size = rb at HB ⊢
 clear hW
 go_upto_region 4 with (go_at_call 56; refine (CS.out _ HB.out.1).mono ?_; rintro e w2 ⟨rfl, hM2⟩; have H1 := Lib.hid (HB.out.mod hM2); clear hM2)
 clear CS HB
 have zr := heap_lt (H1.out.box 1 rfl)
 go_upto_region 5 with (first
  | ((with_reducible refine at_list ?_); refine wpList_load_chunk 10 _ Tryz.underlying40 rfl sizeRqU ⟨rb, 0, none⟩ rfl ([.int .i64 q.r.kind, .int .i64 q.r.xid, .string q.r.path, .string q.r.data, .slice q.aa q.r.acl.length q.ac, .int .i64 q.r.flags, .int .i64 q.r.version, .bool q.r.watch, .slice q.sa q.sn q.sc, .slice q.ra q.rn q.rc] : List Value) rfl (box_chunk0 (H1.out.box 1 rfl)) ?_))
 have H2 := Lib.hid (H1.out.box1 #[.pointer (some ⟨q.tb, 0, none⟩), .int .i64 q.s, .slice q.ia q.ids.length q.ic, .int .i64 q.r.kind, .int .i64 q.r.xid, .string q.r.path, .string q.r.data, .slice q.aa q.r.acl.length q.ac, .int .i64 q.r.flags, .int .i64 q.r.version, .bool q.r.watch, .slice q.sa q.sn q.sc, .slice q.ra q.rn q.rc] 144)
 clear H1 zr
 generalize w2.alloc _ = W2 at H2 ⊢
 generalize w2.heap.size = wb at H2 ⊢
 have r0 := blk_cell (H2.out.box 2 rfl) 0 (.int .i64 q.r.kind) rfl
 have zr := heap_lt (H2.out.box 2 rfl)
 obtain ⟨kd, hkd⟩ : ∃ kd, q.r.kind = kd := ⟨_, rfl⟩
 have HKD := Lib.hid hkd
 rw [hkd] at r0
 clear hkd
 have HCH : Hid (Tree.changes kd = true) := Lib.hid (by rw [← HKD.out]; exact HCH0.out)
 have g6 : (kd == 6) = false := by have := HN6.out; rw [HKD.out] at this; simpa using this
 have g8 : (kd == 8) = false := by have := HN8.out; rw [HKD.out] at this; simpa using this
 by_cases h7 : kd = 7
 ·subst h7
  go_wp2_with (first
   | (go_at_call 17; refine (changes_any 7 W2).mono ?_; rintro e w3 ⟨rfl, rfl⟩; rw [HCH.out])
   | ((with_reducible refine at_list ?_); refine wpList_store_whole 8 sizeTxnT (rb + 1) rfl _ _ (H2.out.box 1 rfl) rfl (TxR.cells ⟨Tree.tx0, none, 0, none, 0, 0⟩) rfl rfl rfl ?_; intro w6 hg6 hM6 hz6; have H6 := Lib.hid (H2.out.rebox 1 rfl hg6 hM6); clear hg6 hM6 hz6))
  refine bodyPost_ret (results_c1 rfl _ w6 (rb + 1) _ _ _ _ rfl (H6.out.box 1 rfl) Tryz.underlying61 rfl sizeTxnT) rfl ?_
  rw [← HR.out, if_pos HKD.out]
  exact T2Post.of (x := Tree.tx0) ((H6.out.nilSlice 46 2).one 0 rfl)
 have HN7 := Lib.hid (show ¬ q.r.kind = 7 by rw [HKD.out]; exact h7)
 have g7 : (kd == 7) = false := by simpa using h7
 clear h7
 have zw := heap_lt (H2.out.box 0 rfl)
 go_upto_region 16 with (first
  | (go_at_call 17; refine (changes_any kd W2).mono ?_; rintro e w3 ⟨rfl, rfl⟩; rw [HCH.out])
  | ((with_reducible refine at_list ?_); refine wpList_load_chunk 13 _ Tryz.underlying144 rfl sizeWish ⟨wb, 0, none⟩ rfl ([.pointer (some ⟨q.tb, 0, none⟩), .int .i64 q.s, .slice q.ia q.ids.length q.ic, .int .i64 q.r.kind, .int .i64 q.r.xid, .string q.r.path, .string q.r.data, .slice q.aa q.r.acl.length q.ac, .int .i64 q.r.flags, .int .i64 q.r.version, .bool q.r.watch, .slice q.sa q.sn q.sc, .slice q.ra q.rn q.rc] : List Value) rfl (box_chunk0 (H2.out.box 0 rfl)) ?_)
  | (go_at_call 62; refine (CPA.out _ H2.out.1).mono ?_; rintro e w4 ⟨a4, cap4, rfl, hS4⟩; have H4 := Lib.hid ((H2.out.join hS4).box1 #[.int .i64 0, .string ⟨#[]⟩, .string ⟨#[]⟩, .slice none 0 0, .int .i64 0, .int .i64 0, .int .i64 0, .slice none 0 0] 61); clear hS4)
  | ((with_reducible refine at_list ?_); refine wpList_store_whole 8 sizeTxnT w4.heap.size rfl _ _ (H4.out.box 0 rfl) rfl (TxR.cells ⟨PT.1, a4, cap4, none, 0, 0⟩) rfl rfl rfl ?_; intro w7 hg7 hM7 hz7; have H7 := Lib.hid (H4.out.rebox 0 rfl hg7 hM7); clear hg7 hM7 hz7 H4))
 clear H2 CPA zr zw r0 g6 g7 g8
 generalize w4.heap.size = tb at H7 ⊢
 by_cases he : PT.2 = 0
 ·have ge : (PT.2 == 0) = true := by simpa using he
  have HE := Lib.hid he
  clear he
  have zt := heap_lt (H7.out.box 0 rfl)
  go_wp2_with (first
   | ((with_reducible refine at_list ?_); refine wpList_load_chunk 8 _ Tryz.underlying61 rfl sizeTxnT ⟨tb, 0, none⟩ rfl (TxR.cells ⟨PT.1, a4, cap4, none, 0, 0⟩) rfl (box_chunk0 (H7.out.box 0 rfl)) ?_)
   | ((with_reducible refine at_list ?_); refine wpList_store_whole 8 sizeTxnT (rb + 1) rfl _ _ (H7.out.box 3 rfl) rfl (TxR.cells ⟨PT.1, a4, cap4, none, 0, 0⟩) rfl rfl rfl ?_; intro w6 hg6 hM6 hz6; have H6 := Lib.hid (H7.out.rebox 3 rfl hg6 hM6); clear hg6 hM6 hz6))
  refine bodyPost_ret (results_c1 rfl _ w6 (rb + 1) _ _ _ _ rfl (H6.out.box 3 rfl) Tryz.underlying61 rfl sizeTxnT) rfl ?_
  rw [← HR.out, if_neg HN7.out, if_neg (by rw [HE.out]; simp)]
  exact T2Post.of (x := PT.1) (H6.out.one 1 rfl)
 ·have ge : (PT.2 == 0) = false := by simpa using he
  have HE := Lib.hid he
  clear he
  obtain ⟨er, her⟩ : ∃ er, PT.2 = er := ⟨_, rfl⟩
  have HER := Lib.hid her
  rw [her] at ge ⊢
  clear her
  go_wp2_with (first
   | (go_at_call 59; refine (refusal_any er (-1) _).mono ?_; rintro e w5 ⟨a5, cap5, rfl, hS5⟩; have H5 := Lib.hid (H7.out.join hS5); clear hS5)
   | ((with_reducible refine at_list ?_); refine wpList_store_whole 8 sizeTxnT (rb + 1) rfl _ _ (H5.out.box 4 rfl) rfl (TxR.cells ⟨(Tree.refusal (er) (-1)).x, a5, cap5, none, 0, 0⟩) rfl rfl rfl ?_; intro w6 hg6 hM6 hz6; have H6 := Lib.hid (H5.out.rebox 4 rfl hg6 hM6); clear hg6 hM6 hz6))
  refine bodyPost_ret (results_c1 rfl _ w6 (rb + 1) _ _ _ _ rfl (H6.out.box 4 rfl) Tryz.underlying61 rfl sizeTxnT) rfl ?_
  rw [← HR.out, if_neg HN7.out, if_pos HE.out, HER.out]
  exact T2Post.of (x := (Tree.refusal (er) (-1)).x) (H6.out.one 0 rfl)
end Go.Proofs.YtonnbkebjeoflaaGreatDoor
