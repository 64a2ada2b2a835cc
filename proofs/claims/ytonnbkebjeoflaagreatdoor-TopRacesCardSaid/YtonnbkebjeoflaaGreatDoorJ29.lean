/-
  Laws of PrepD, PrepE, PrepI.
  Conditions: each law states its own.
-/
import Derived.Test.YtonnbkebjeoflaaGreatDoorJ28
set_option maxHeartbeats 16000000
set_option linter.unusedSectionVars false
set_option linter.unusedSimpArgs false
set_option linter.unusedVariables false
set_option maxRecDepth 100000
namespace Go.Proofs.YtonnbkebjeoflaaGreatDoor
theorem zA {α : Type _} (l : List α) (i : Nat) (a : α) : l.toArray.setIfInBounds i a = (l.set i a).toArray := List.setIfInBounds_toArray ..
theorem zB {α : Type _} {l : List α} {a b : α} : (a :: l).set 0 b = b :: l := rfl
theorem zC {α : Type _} {l : List α} {i : Nat} {a b : α} : (a :: l).set (i + 1) b = a :: l.set i b := rfl
open Go.RowKit Go.Maps
theorem firstE_60 (a b : Int) (l m : List Int) : firstE (a :: b :: 60 :: l) = firstE (a :: b :: 60 :: m) := by simp [firstE]
theorem eraseW_any (q : WishR) (w : World) (hq : q.ok w) (hf : q.fit) :
 Calls Tryz.prog 117 #[.agg q.cells.toArray] w (TxPost (q.T.rmTx q.ids q.r) w) := by
 obtain ⟨up, hup⟩ : ∃ up, parentB q.r.path = up := ⟨_, rfl⟩
 have hpl := parent_le q.r.path
 rw [hup] at hpl
 have hpth := hf.path
 have hups : up.size ≤ maxLen := by unfold maxLen; omega
 obtain ⟨len, kn, hsv, _, _⟩ := statV_vals q.T up
 obtain ⟨lp, kp, hsp, hk1, hk0⟩ := statV_vals q.T q.r.path
 have hci := stat_int hf.stats up
 obtain ⟨st, hst⟩ : ∃ st, q.T.stat up = st := ⟨_, rfl⟩
 obtain ⟨isu, hisu⟩ : ∃ is, q.T.is up = is := ⟨_, rfl⟩
 obtain ⟨sp, hstp⟩ : ∃ st, q.T.stat q.r.path = st := ⟨_, rfl⟩
 obtain ⟨is, his⟩ : ∃ is, q.T.is q.r.path = is := ⟨_, rfl⟩
 rw [hst] at hsv hci
 rw [hstp] at hsp
 rw [his] at hk1 hk0
 obtain ⟨cv, hcv⟩ : ∃ cv, st.cversion = cv := ⟨_, rfl⟩
 obtain ⟨es, hes⟩ : ∃ es : List Int, [checkB q.r.path, whenE (decide (q.r.path = rootP)) 1, whenE (!is) 60, whenE (!q.T.mayAt q.ids up 8) 65, whenE (decide (q.r.version ≠ -1) && decide (q.r.version ≠ sp.version)) 66, whenE (decide (0 < kp)) 62] = es := ⟨_, rfl⟩
 have hE : q.T.rmTx q.ids q.r = (⟨2, q.r.path, ⟨#[]⟩, [], 0, inc cv, 0⟩, firstE es) := by
  unfold Tree.rmTx
  simp only [hup, hst, hstp, his, hcv, ← hes]
  congr 1
  cases is with
  | true => rw [hk1 rfl, show decide ((0 : Int) < ((q.T.kids q.r.path).length : Int)) = decide (0 < (q.T.kids q.r.path).length) by rw [decide_eq_decide]; omega]
  | false => exact firstE_60 _ _ _ _
 rw [hE, show inc cv = wrap64 (cv + 1) from IntWalk.i64_left _]
 have HQ := Lib.hid hq
 have HFT := Lib.hid hf
 have HUP := Lib.hid (And.intro hups hpth)
 have HES := Lib.hid hes
 have CP : Hid (∀ W, Calls Tryz.prog 115 #[.string q.r.path] W (CpPost (.string up) W)) := Lib.hid fun W => by rw [← hup]; exact parentP_any q.r.path (by omega) W
 have CS : Hid (∀ W, Mod (fun _ => False) w W → Calls Tryz.prog 87 #[.pointer (some ⟨q.tb, 0, none⟩), .string up] W (CpPost (.tuple #[.agg (st.vals len kn).toArray, .bool isu]) W)) := Lib.hid fun W k => by
  have := stat_any W q.tb q.T (hq.tree.old k) hf.tree up hups
  rw [hsv, hisu] at this
  exact this
 have CT : Hid (∀ W, Mod (fun _ => False) w W → Calls Tryz.prog 87 #[.pointer (some ⟨q.tb, 0, none⟩), .string q.r.path] W (CpPost (.tuple #[.agg (sp.vals lp kp).toArray, .bool is]) W)) := Lib.hid fun W k => by
  have := stat_any W q.tb q.T (hq.tree.old k) hf.tree q.r.path (by unfold maxLen; omega)
  rw [hsp, his] at this
  exact this
 have HCV := Lib.hid hcv
 have HB := Lib.hid (((St.start w).box1 q.carr 144).box1 #[.int .i64 0, .string ⟨#[]⟩, .string ⟨#[]⟩, .slice none 0 0, .int .i64 0, .int .i64 0, .int .i64 0, .slice none 0 0] 61)
 rw [carr_eq]
 clear hq hf hups hup hpl hsv hsp hk1 hk0 hst hstp his hisu hci hE hes hpth hcv
 go_enter Tryz.func117, Tryz.ntmps117
 go_upto_region 1 with (fail)
 rw [World.size_alloc] at HB
 generalize hW : (w.alloc _).alloc _ = W at HB ⊢
 generalize w.heap.size = xb at HB ⊢
 clear hW
 have c5 := blk_cell (HB.out.box 1 rfl) 5 (.string q.r.path) rfl
 have c0 := blk_cell (HB.out.box 1 rfl) 0 (.pointer (some ⟨q.tb, 0, none⟩)) rfl
 have zx := heap_lt (HB.out.box 1 rfl)
 go_upto_region 3 with (first
  | (go_at_call 115; refine (CP.out _).mono ?_; rintro e w2 ⟨rfl, hM2⟩; have c0 := hM2.cell c0 id; have zx := Nat.lt_of_lt_of_le zx hM2.size; have H2 := Lib.hid ((HB.out.mod hM2).box1 #[.string up] 9); clear hM2)
  | (go_at_call 87; refine (CS.out _ H2.out.1).mono ?_; rintro e w3 ⟨rfl, hM3⟩; have H3 := Lib.hid ((H2.out.mod hM3).box1 #[.int .i64 0, .int .i64 0, .int .i64 0, .int .i64 0, .int .i64 0, .int .i64 0, .int .i64 0, .int .i64 0, .int .i64 0] 29); clear hM3)
  | ((with_reducible refine at_list ?_); refine wpList_store_whole 9 sizeStatT w3.heap.size rfl _ _ (H3.out.box 0 rfl) rfl (st.vals len kn) rfl rfl rfl ?_; intro w4 hg4 hM4 hz4; have H4 := Lib.hid (H3.out.rebox 0 rfl hg4 hM4); clear hg4 hM4 hz4 H3))
 clear c0 c5 zx HB H2 CS CP
 generalize w3.heap.size = sb at H4 ⊢
 generalize w2.heap.size = ub at H4 ⊢
 have c0 := blk_cell (H4.out.box 3 rfl) 0 (.pointer (some ⟨q.tb, 0, none⟩)) rfl
 have c5 := blk_cell (H4.out.box 3 rfl) 5 (.string q.r.path) rfl
 have zx := heap_lt (H4.out.box 3 rfl)
 go_upto_region 4 with (first
  | (go_at_call 87; refine (CT.out _ H4.out.1).mono ?_; rintro e w5 ⟨rfl, hM5⟩; have H5 := Lib.hid (((H4.out.mod hM5).box1 #[.int .i64 0, .int .i64 0, .int .i64 0, .int .i64 0, .int .i64 0, .int .i64 0, .int .i64 0, .int .i64 0, .int .i64 0] 29).box1 #[.bool false] 4); clear hM5)
  | ((with_reducible refine at_list ?_); refine wpList_store_whole 9 sizeStatT w5.heap.size rfl _ _ (H5.out.box 1 rfl) rfl (sp.vals lp kp) rfl rfl rfl ?_; intro w6 hg6 hM6 hz6; have hS6 := H5.out.rebox 1 rfl hg6 hM6; rw [World.size_alloc] at hS6; simp only [zC, zB] at hS6; have cb := blk_cell (hS6.box 0 rfl) 0 (.bool false) rfl; have fb := blk_free (hS6.box 0 rfl) 0; have zb := heap_lt (hS6.box 0 rfl); have H6 := Lib.hid (hS6.set 0 rfl 0 (.bool is)); clear hg6 hM6 hz6 hS6 H5))
 have h7 := H6.out
 simp only [zB] at h7
 generalize w6.setCell _ _ = w7 at h7 ⊢
 generalize w5.heap.size + 1 = ib at h7 ⊢
 generalize w5.heap.size = pb at h7 ⊢
 have h7 : St w w7 (bx ib #[.bool is] 4 :: bx pb (sp.vals lp kp).toArray 29 :: bx sb (st.vals len kn).toArray 29 :: bx ub #[.string up] 9 :: bx (xb + 1) #[.int .i64 0, .string ⟨#[]⟩, .string ⟨#[]⟩, .slice none 0 0, .int .i64 0, .int .i64 0, .int .i64 0, .slice none 0 0] 61 :: bx xb q.carr 144 :: []) := h7
 have H7 := Lib.hid h7
 clear h7 H6 H4 cb fb zb c0 c5 zx CT
 have CF : Hid (Calls Tryz.prog 119 #[.slice (some ⟨w7.heap.size, 0, none⟩) 6 6] (w7.alloc (.cells #[.func (.func 197) #[] #[.pointer (some ⟨xb, 0, none⟩)], .func (.func 198) #[] #[.pointer (some ⟨xb, 0, none⟩)], .func (.func 199) #[] #[.pointer (some ⟨ib, 0, none⟩)], .func (.func 200) #[] #[.pointer (some ⟨xb, 0, none⟩), .pointer (some ⟨ub, 0, none⟩)], .func (.func 201) #[] #[.pointer (some ⟨xb, 0, none⟩), .pointer (some ⟨pb, 0, none⟩)], .func (.func 202) #[] #[.pointer (some ⟨pb, 0, none⟩)]] 125)) (CpPost (.int .i64 (firstE es)) (w7.alloc (.cells #[.func (.func 197) #[] #[.pointer (some ⟨xb, 0, none⟩)], .func (.func 198) #[] #[.pointer (some ⟨xb, 0, none⟩)], .func (.func 199) #[] #[.pointer (some ⟨ib, 0, none⟩)], .func (.func 200) #[] #[.pointer (some ⟨xb, 0, none⟩), .pointer (some ⟨ub, 0, none⟩)], .func (.func 201) #[] #[.pointer (some ⟨xb, 0, none⟩), .pointer (some ⟨pb, 0, none⟩)], .func (.func 202) #[] #[.pointer (some ⟨pb, 0, none⟩)]] 125)))) := Lib.hid (by
  have hS8 := H7.out.mod ((Mod.refl _ w7).alloc (.cells #[.func (.func 197) #[] #[.pointer (some ⟨xb, 0, none⟩)], .func (.func 198) #[] #[.pointer (some ⟨xb, 0, none⟩)], .func (.func 199) #[] #[.pointer (some ⟨ib, 0, none⟩)], .func (.func 200) #[] #[.pointer (some ⟨xb, 0, none⟩), .pointer (some ⟨ub, 0, none⟩)], .func (.func 201) #[] #[.pointer (some ⟨xb, 0, none⟩), .pointer (some ⟨pb, 0, none⟩)], .func (.func 202) #[] #[.pointer (some ⟨pb, 0, none⟩)]] 125))
  have hnew := heap_alloc_new w7 (.cells #[.func (.func 197) #[] #[.pointer (some ⟨xb, 0, none⟩)], .func (.func 198) #[] #[.pointer (some ⟨xb, 0, none⟩)], .func (.func 199) #[] #[.pointer (some ⟨ib, 0, none⟩)], .func (.func 200) #[] #[.pointer (some ⟨xb, 0, none⟩), .pointer (some ⟨ub, 0, none⟩)], .func (.func 201) #[] #[.pointer (some ⟨xb, 0, none⟩), .pointer (some ⟨pb, 0, none⟩)], .func (.func 202) #[] #[.pointer (some ⟨pb, 0, none⟩)]] 125)
  generalize w7.alloc _ = W8 at hS8 hnew ⊢
  have hwb := hS8.box 5 rfl
  have hqo := HQ.out.old hS8.1
  rw [← HES.out]
  refine first_any W8 w7.heap.size 125 [(.func (.func 197) #[] #[.pointer (some ⟨xb, 0, none⟩)], checkB q.r.path), (.func (.func 198) #[] #[.pointer (some ⟨xb, 0, none⟩)], whenE (decide (q.r.path = rootP)) 1), (.func (.func 199) #[] #[.pointer (some ⟨ib, 0, none⟩)], whenE (!is) 60), (.func (.func 200) #[] #[.pointer (some ⟨xb, 0, none⟩), .pointer (some ⟨ub, 0, none⟩)], whenE (!q.T.mayAt q.ids up 8) 65), (.func (.func 201) #[] #[.pointer (some ⟨xb, 0, none⟩), .pointer (some ⟨pb, 0, none⟩)], whenE (decide (q.r.version ≠ -1) && decide (q.r.version ≠ sp.version)) 66), (.func (.func 202) #[] #[.pointer (some ⟨pb, 0, none⟩)], whenE (decide (0 < kp)) 62)] 6 rfl (by omega) hnew ?_
  intro f hf
  simp only [List.mem_cons, List.not_mem_nil, or_false] at hf
  rcases hf with rfl | rfl | rfl | rfl | rfl | rfl
  ·exact cl_erase1 W8 q xb hwb hqo HFT.out
  ·exact cl_erase2 W8 q xb hwb hqo HFT.out
  ·exact cl_erase3 W8 ib is ⟨_, hS8.box 0 rfl⟩
  ·exact cl_erase4 W8 q xb hwb hqo HFT.out ub up ⟨_, hS8.box 3 rfl⟩ HUP.out.1
  ·exact cl_erase5 W8 q xb hwb hqo HFT.out pb sp lp kp (hS8.box 1 rfl)
  ·exact cl_erase6 W8 pb sp lp kp (hS8.box 1 rfl))
 have H8 := Lib.hid (H7.out.mod ((Mod.refl _ w7).alloc (.cells #[.func (.func 197) #[] #[.pointer (some ⟨xb, 0, none⟩)], .func (.func 198) #[] #[.pointer (some ⟨xb, 0, none⟩)], .func (.func 199) #[] #[.pointer (some ⟨ib, 0, none⟩)], .func (.func 200) #[] #[.pointer (some ⟨xb, 0, none⟩), .pointer (some ⟨ub, 0, none⟩)], .func (.func 201) #[] #[.pointer (some ⟨xb, 0, none⟩), .pointer (some ⟨pb, 0, none⟩)], .func (.func 202) #[] #[.pointer (some ⟨pb, 0, none⟩)]] 125)))
 go_upto_region 5 with (go_at_call 119; refine CF.out.mono ?_; rintro e w9 ⟨rfl, hM9⟩; have H9 := Lib.hid (H8.out.mod hM9); clear hM9)
 clear CF H8 H7
 have c5 := blk_cell (H9.out.box 5 rfl) 5 (.string q.r.path) rfl
 have zx := heap_lt (H9.out.box 5 rfl)
 have s4 := blk_cell (H9.out.box 2 rfl) 4 (.int .i64 st.cversion) rfl
 have zs := heap_lt (H9.out.box 2 rfl)
 rw [HCV.out] at s4
 go_wp2_with ((with_reducible refine at_list ?_); refine wpList_store_whole 8 sizeTxnT (xb + 1) rfl _ _ (H9.out.box 4 rfl) rfl [.int .i64 2, .string q.r.path, .string ⟨#[]⟩, .slice none 0 0, .int .i64 0, .int .i64 (wrap64 (cv + 1)), .int .i64 0, .slice none 0 0] rfl rfl rfl ?_; intro w14 hg14 hM14 hz14; have H14 := Lib.hid (H9.out.rebox 4 rfl hg14 hM14); clear hg14 hM14 hz14)
 refine bodyPost_ret (results_cell_tmp rfl _ w14 (xb + 1) _ _ _ _ rfl (H14.out.box 4 rfl) Tryz.underlying61 rfl sizeTxnT) rfl ?_
 exact ⟨none, 0, rfl, (H14.out.nilSlice _ _).one 0 rfl⟩
theorem results_c1 {P : Program} {fn : Func} {p : Tmp} {ty : TypeId} (h : fn.results = #[.cell p ty]) (tmps : Array Value) (w : World) (g : Nat) (T : TypeId) (cs : Array Value) (fr : Nat × Nat) (d : TypeDesc)
 (hp : tmps.getD p undef = .pointer (some ⟨g, 0, none⟩)) (hg : w.heap[g]? = some (.cells cs T fr))
 (hu : P.underlying ty = some d) (hd : (match d with | .struct _ | .array _ _ => true | _ => false) = true) (hi : (P.info? ty).map (·.size) = some cs.size) :
 (results fn tmps).run P w = .ok (.agg cs) w := by
 have hp' : tmps[p]?.getD undef = .pointer (some ⟨g, 0, none⟩) := by simpa using hp
 simp [results, h, hp', asAddr, run_loadVar_row w g T ty cs fr d hg hu hd hi]
def TnPost (x : Tx) (w : World) (e : Ending) (w' : World) : Prop :=
 ∃ (a : Option Addr) (cap : Nat), e = .returned (.agg (TxR.cells ⟨x, a, cap, none, 0, 0⟩).toArray) ∧ St w w' [sl 46 2 a x.acl.length cap (x.acl.flatMap ARow.cells)]
theorem version_any (s : St7) (a b : Int) (w : World) : Calls Tryz.prog 203 #[.agg (s.vals a b).toArray] w (CpPost (.int .i64 s.version) w) := by
 simp only [St7.vals]
 go_enter Tryz.func203, Tryz.ntmps203
 go_wp2
 go_ret
 exact ⟨rfl, (Mod.refl _ _).alloc _⟩
theorem aversion_any (s : St7) (a b : Int) (w : World) : Calls Tryz.prog 207 #[.agg (s.vals a b).toArray] w (CpPost (.int .i64 s.aversion) w) := by
 simp only [St7.vals]
 go_enter Tryz.func207, Tryz.ntmps207
 go_wp2
 go_ret
 exact ⟨rfl, (Mod.refl _ _).alloc _⟩
theorem wrongSet_any (q : WishR) (w : World) : Calls Tryz.prog 204 #[.agg q.cells.toArray] w (CpPost (.int .i64 (whenE (decide (100 < q.r.data.size)) 1)) w) := by
 have HS := Lib.hid ((St.start w).box1 q.carr 144)
 have c6 := blk_cell (HS.out.box 0 rfl) 6 (.string q.r.data) rfl
 have zx := heap_lt (HS.out.box 0 rfl)
 rw [carr_eq]
 go_enter Tryz.func204, Tryz.ntmps204
 go_wp2_with (go_at_call 124; refine (when_any _ _ _).mono ?_; rintro e v ⟨rfl, hM⟩)
 go_ret
 exact ⟨by rw [show decide (100 < q.r.data.size) = decide ((100 : Int) < (q.r.data.size : Int)) by rw [decide_eq_decide]; omega]; rfl, HS.out.1.then hM (fun _ _ h => h)⟩
theorem wrongAcl_any (q : WishR) (w : World) (hq : q.ok w) (hf : q.fit) : Calls Tryz.prog 206 #[.agg q.cells.toArray] w (CpPost (.int .i64 (whenE (!A.rightL q.r.acl) 50)) w) := by
 have HS := Lib.hid ((St.start w).box1 q.carr 144)
 have c7 := blk_cell (HS.out.box 0 rfl) 7 (.slice q.aa q.r.acl.length q.ac) rfl
 have zx := heap_lt (HS.out.box 0 rfl)
 have CC := Lib.hid (right_anyW q _ (hq.old HS.out.1) hf)
 rw [carr_eq]
 clear hq hf
 go_enter Tryz.func206, Tryz.ntmps206
 go_wp2_with (first
  | (go_at_call 189; refine CC.out.mono ?_; rintro e v1 ⟨rfl, hM1⟩)
  | (go_at_call 124; refine (when_any _ _ _).mono ?_; rintro e v2 ⟨rfl, hM2⟩))
 go_ret
 exact ⟨rfl, (HS.out.1.then hM1 (fun _ _ h => h)).then hM2 (fun _ _ h => h)⟩
theorem txnSet_any (q : WishR) (n : Int) (w : World) : Calls Tryz.prog 205 #[.agg q.cells.toArray, .int .i64 n] w (TnPost ⟨3, q.r.path, q.r.data, [], 0, inc n, 0⟩ w) := by
 have HS := Lib.hid (((St.start w).box1 q.carr 144).box1 #[.int .i64 0, .string ⟨#[]⟩, .string ⟨#[]⟩, .slice none 0 0, .int .i64 0, .int .i64 0, .int .i64 0, .slice none 0 0] 61)
 have c5 := blk_cell (HS.out.box 1 rfl) 5 (.string q.r.path) rfl
 have c6 := blk_cell (HS.out.box 1 rfl) 6 (.string q.r.data) rfl
 have zx := heap_lt (HS.out.box 1 rfl)
 rw [carr_eq, show inc n = wrap64 (n + 1) from IntWalk.i64_left _]
 rw [World.size_alloc] at HS
 go_enter Tryz.func205, Tryz.ntmps205
 go_wp2_with ((with_reducible refine at_list ?_); refine wpList_store_whole 8 sizeTxnT (w.heap.size + 1) rfl _ _ (HS.out.box 0 rfl) rfl [.int .i64 3, .string q.r.path, .string q.r.data, .slice none 0 0, .int .i64 0, .int .i64 (wrap64 (n + 1)), .int .i64 0, .slice none 0 0] rfl rfl rfl ?_; intro w14 hg14 hM14 hz14; have H14 := Lib.hid (HS.out.rebox 0 rfl hg14 hM14); clear hg14 hM14 hz14)
 refine bodyPost_ret (results_c1 rfl _ w14 (w.heap.size + 1) _ _ _ _ rfl (H14.out.box 0 rfl) Tryz.underlying61 rfl sizeTxnT) rfl ?_
 exact ⟨none, 0, rfl, (H14.out.nilSlice _ _).one 0 rfl⟩
theorem txnNoop_any (q : WishR) (n : Int) (w : World) : Calls Tryz.prog 210 #[.agg q.cells.toArray, .int .i64 n] w (TnPost Tree.tx0 w) := by
 have HS := Lib.hid (((St.start w).box1 q.carr 144).box1 #[.int .i64 0, .string ⟨#[]⟩, .string ⟨#[]⟩, .slice none 0 0, .int .i64 0, .int .i64 0, .int .i64 0, .slice none 0 0] 61)
 rw [carr_eq]
 rw [World.size_alloc] at HS
 go_enter Tryz.func210, Tryz.ntmps210
 go_wp2_with ((with_reducible refine at_list ?_); refine wpList_store_whole 8 sizeTxnT (w.heap.size + 1) rfl _ _ (HS.out.box 0 rfl) rfl [.int .i64 0, .string ⟨#[]⟩, .string ⟨#[]⟩, .slice none 0 0, .int .i64 0, .int .i64 0, .int .i64 0, .slice none 0 0] rfl rfl rfl ?_; intro w14 hg14 hM14 hz14; have H14 := Lib.hid (HS.out.rebox 0 rfl hg14 hM14); clear hg14 hM14 hz14)
 refine bodyPost_ret (results_c1 rfl _ w14 (w.heap.size + 1) _ _ _ _ rfl (H14.out.box 0 rfl) Tryz.underlying61 rfl sizeTxnT) rfl ?_
 exact ⟨none, 0, rfl, (H14.out.nilSlice _ _).one 0 rfl⟩
theorem txnAcl_any (q : WishR) (n : Int) (w : World) (hq : q.ok w) (hf : q.fit) : Calls Tryz.prog 208 #[.agg q.cells.toArray, .int .i64 n] w (TnPost ⟨4, q.r.path, ⟨#[]⟩, q.r.acl, 0, inc n, 0⟩ w) := by
 have HS := Lib.hid (((St.start w).box1 q.carr 144).box1 #[.int .i64 0, .string ⟨#[]⟩, .string ⟨#[]⟩, .slice none 0 0, .int .i64 0, .int .i64 0, .int .i64 0, .slice none 0 0] 61)
 have CC : Hid (∀ W, Mod (fun _ => False) w W → Calls Tryz.prog 84 #[.slice q.aa q.r.acl.length q.ac] W (NewSl 46 2 (q.r.acl.flatMap ARow.cells) q.r.acl.length W)) := Lib.hid fun W k => cloneAcl_any q.aa q.r.acl.length q.ac (q.r.acl.flatMap ARow.cells) W (hq.acl.mod k (fun _ _ h => h)) arow_one (by have := hf.acl; omega)
 rw [carr_eq]
 rw [World.size_alloc] at HS
 clear hq hf
 go_enter Tryz.func208, Tryz.ntmps208
 go_upto_region 1 with (fail)
 generalize hW : (w.alloc _).alloc _ = W at HS ⊢
 generalize w.heap.size = xb at HS ⊢
 clear hW
 have KP : Hid (∀ (w' : World) (A : Thing), St w w' (A :: bx xb q.carr 144 :: []) → w'.cell? ⟨xb, 5, none⟩ = some (.string q.r.path) ∧ w'.cell? ⟨xb, 7, none⟩ = some (.slice q.aa q.r.acl.length q.ac)) := Lib.hid fun w' A h => ⟨blk_cell (h.box 1 rfl) 5 _ rfl, blk_cell (h.box 1 rfl) 7 _ rfl⟩
 have HA := Lib.hid HS.out.drew
 refine wp_region_held_drew (S := fun w' => w'.cell? ⟨xb, 5, none⟩ = some (.string q.r.path) ∧ w'.cell? ⟨xb, 7, none⟩ = some (.slice q.aa q.r.acl.length q.ac)) (by kernel_rfl) (KP.out _ _ HA.out) (fun hHeld => ?_)
 clear HS
 generalize W.drew = W at HA hHeld ⊢
 refine tk 0 (some 5) ?_ rfl rfl hHeld ?_ ?_
 rotate_left
 ·intro wq hSw; (try dsimp only at hSw); go_simp; try with_reducible rfl
 refine tk 1 (some 6) ?_ rfl rfl hHeld ?_ ?_
 rotate_left
 ·intro wq hSw; (try dsimp only at hSw); go_simp; try with_reducible rfl
 refine tk 2 (some 7) ?_ rfl rfl hHeld ?_ ?_
 rotate_left
 ·intro wq hSw; (try dsimp only at hSw); go_simp; try with_reducible rfl
 refine tk 3 (some 8) ?_ rfl rfl hHeld ?_ ?_
 rotate_left
 ·intro wq hSw; (try dsimp only at hSw); go_simp; try with_reducible rfl
 refine tk 4 (some 9) ?_ rfl rfl hHeld ?_ ?_
 rotate_left
 ·intro wq hSw; (try dsimp only at hSw); go_simp; try with_reducible rfl
 refine tk 5 (some 10) ?_ rfl rfl hHeld ?_ ?_
 rotate_left
 ·intro wq hSw; (try dsimp only at hSw); go_simp; try with_reducible rfl
 try simp only [Act.put, Nat.zero_add, zA, zB, zC]
 refine tk 7 (some 12) ?_ rfl rfl hHeld ?_ ?_
 rotate_left
 ·intro wq hSw; (try dsimp only at hSw); go_simp; try with_reducible rfl
 refine tk 8 (some 13) ?_ rfl rfl hHeld ?_ ?_
 rotate_left
 ·intro wq hSw; (try dsimp only at hSw); go_simp; try with_reducible rfl
 try simp only [Act.put, Nat.zero_add, zA, zB, zC]
 refine wpAnyH_ready (rs := [6]) (by kernel_rfl) (by simp) ?_
 refine (AllReadyH.cons (o := ⟨some 11, _, _, _, _, _⟩) rfl (fun K hK => ?_) AllReadyH.nil)
 go_simp
 refine (CC.out _ HA.out.1).mono ?_
 rintro e w10 ⟨a2, cap2, rfl, hs2, hf2, hM10⟩
 have H10 := Lib.hid (HA.out.newSlice hM10 hs2 hf2)
 clear hs2 hf2 hM10
 refine hK.out _ _ (KP.out _ _ H10.out.tail) (fun hHeld => ?_)
 clear hK K
 try simp only [Act.put, Nat.zero_add, zA, zB, zC]
 refine tk 9 (some 14) ?_ rfl rfl hHeld ?_ ?_
 rotate_left
 ·intro wq hSw; (try dsimp only at hSw); go_simp; try with_reducible rfl
 try simp only [Act.put, Nat.zero_add, zA, zB, zC]
 refine wpAnyH_ready (rs := [10]) (by kernel_rfl) (by simp) ?_
 refine (AllReadyH.cons (o := ⟨none, _, _, _, _, _⟩) rfl (fun K hK => ?_) AllReadyH.nil)
 refine step_store_whole rfl rfl rfl 8 sizeTxnT (xb + 1) rfl _ _ (H10.out.box 1 rfl) rfl [.int .i64 4, .string q.r.path, .string ⟨#[]⟩, .slice a2 q.r.acl.length cap2, .int .i64 0, .int .i64 (inc n), .int .i64 0, .slice none 0 0] rfl rfl rfl ?_
 intro w12 hg12 hM12 hz12
 have H12 := Lib.hid (H10.out.rebox 1 rfl hg12 hM12)
 clear hg12 hM12 hz12
 refine hK.out _ _ (KP.out _ _ H12.out.tail) (fun hHeld => ?_)
 clear hK K
 try simp only [Act.put, Nat.zero_add, zA, zB, zC]
 refine wpAnyH_done (by kernel_rfl) ?_ _
 clear hHeld KP HA CC
 go_wp2
 refine bodyPost_ret (results_c1 rfl _ w12 (xb + 1) _ _ _ _ rfl (H12.out.box 1 rfl) Tryz.underlying61 rfl sizeTxnT) rfl ?_
 exact ⟨a2, cap2, rfl, H12.out.one 0 rfl⟩
theorem refusal_any (e n : Int) (w : World) : Calls Tryz.prog 59 #[.int .i64 e, .int .i64 n] w (TnPost (Tree.refusal e n).x w) := by
 have HS := Lib.hid ((St.start w).box1 #[.int .i64 0, .string ⟨#[]⟩, .string ⟨#[]⟩, .slice none 0 0, .int .i64 0, .int .i64 0, .int .i64 0, .slice none 0 0] 61)
 go_enter Tryz.func59, Tryz.ntmps59
 go_wp2_with ((with_reducible refine at_list ?_); refine wpList_store_whole 8 sizeTxnT w.heap.size rfl _ _ (HS.out.box 0 rfl) rfl [.int .i64 8, .string ⟨#[]⟩, .string ⟨#[]⟩, .slice none 0 0, .int .i64 0, .int .i64 n, .int .i64 e, .slice none 0 0] rfl rfl rfl ?_; intro w14 hg14 hM14 hz14; have H14 := Lib.hid (HS.out.rebox 0 rfl hg14 hM14); clear hg14 hM14 hz14)
 refine bodyPost_ret (results_c1 rfl _ w14 w.heap.size _ _ _ _ rfl (H14.out.box 0 rfl) Tryz.underlying61 rfl sizeTxnT) rfl ?_
 exact ⟨none, 0, rfl, (H14.out.nilSlice _ _).one 0 rfl⟩
theorem changes_any (k : Int) (w : World) : Calls Tryz.prog 17 #[.int .i64 k] w (fun e w' => e = .returned (.bool (Tree.changes k)) ∧ w' = w) := by
 by_cases h : k = 1 ∨ k = 2 ∨ k = 3 ∨ k = 4 ∨ k = 6 ∨ k = 7 ∨ k = 8
 ·rcases h with rfl | rfl | rfl | rfl | rfl | rfl | rfl
  all_goals
   go_enter Tryz.func17, Tryz.ntmps17
   go_wp2
   go_ret
   exact ⟨rfl, rfl⟩
 ·have g1 : (k == 1) = false := by simp; omega
  have g2 : (k == 2) = false := by simp; omega
  have g3 : (k == 3) = false := by simp; omega
  have g4 : (k == 4) = false := by simp; omega
  have g6 : (k == 6) = false := by simp; omega
  have g7 : (k == 7) = false := by simp; omega
  have g8 : (k == 8) = false := by simp; omega
  have HC : Hid (Tree.changes k = false) := Lib.hid (by unfold Tree.changes; simp; omega)
  clear h
  go_enter Tryz.func17, Tryz.ntmps17
  go_wp2
  go_ret
  exact ⟨by rw [HC.out]; rfl, rfl⟩
def RpC (p : Tree.Rp1) (aa : Option Addr) (ac : Nat) (ka : Option Addr) (kc : Nat) (sa : Option Addr) (sn sc : Nat) : List Value :=
 [.int .i64 p.xid, .int .i64 p.zxid, .int .i64 p.err, .string p.path, .string p.data] ++ p.st.vals p.length p.kidn ++ [.slice aa p.acl.length ac, .slice ka p.kids.length kc, .slice sa sn sc]
theorem sizeRp : (Tryz.prog.info? 33).map (·.size) = some 17 := by kernel_rfl
theorem put_eq (p : Tree.Rp1) (T : Tree) (path : ByteArray) : ∃ ln kn, T.statV path = (T.stat path).vals ln kn ∧ p.put T path = { p with st := T.stat path, length := ln, kidn := kn } := by
 unfold Tree.statV Tree.Rp1.put Tree.stat
 cases T.node path with
 | none => exact ⟨0, 0, rfl, rfl⟩
 | some n => exact ⟨_, _, rfl, rfl⟩
def z17 : Array Value := #[.int .i64 0, .int .i64 0, .int .i64 0, .string ⟨#[]⟩, .string ⟨#[]⟩, .int .i64 0, .int .i64 0, .int .i64 0, .int .i64 0, .int .i64 0, .int .i64 0, .int .i64 0, .int .i64 0, .int .i64 0, .slice none 0 0, .slice none 0 0, .slice none 0 0]
theorem told_any (w : World) (tb : Nat) (T : Tree) (h : TreeAt w tb T) (hf : T.fit) (r : TxR) (hp : r.x.path.size ≤ maxLen) :
 Calls Tryz.prog 43 #[.pointer (some ⟨tb, 0, none⟩), .agg r.cells.toArray] w (CpPost (.agg (RpC (T.told r.x) none 0 none 0 none 0 0).toArray) w) := by
 obtain ⟨⟨kind, path, data, acl, owner, number, err⟩, aa, ac, sa, sn, sc⟩ := r
 simp only [TxR.cells] at *
 have HB := Lib.hid ((((St.start w).box1 #[.int .i64 kind, .string path, .string data, .slice aa acl.length ac, .int .i64 owner, .int .i64 number, .int .i64 err, .slice sa sn sc] 61).box1 z17 33).box1 z17 33)
 simp only [World.size_alloc, z17] at HB
 have CS : Hid (∀ W, Mod (fun _ => False) w W → Calls Tryz.prog 87 #[.pointer (some ⟨tb, 0, none⟩), .string path] W (CpPost (.tuple #[.agg (T.statV path).toArray, .bool (T.is path)]) W)) := Lib.hid fun W k => stat_any W tb T (h.old k) hf path hp
 obtain ⟨ln, kn, hs, hput⟩ := put_eq { Tree.rp0 with path := path } T path
 obtain ⟨ln2, kn2, hs2, hput2⟩ := put_eq Tree.rp0 T path
 obtain ⟨st, hst⟩ : ∃ st, T.stat path = st := ⟨_, rfl⟩
 obtain ⟨is, his⟩ : ∃ is, T.is path = is := ⟨_, rfl⟩
 rw [hst] at hs hput hs2 hput2
 rw [his] at CS
 by_cases h1 : kind = 1
 ·subst h1
  have he : T.told ⟨1, path, data, acl, owner, number, err⟩ = { Tree.rp0 with path := path, st := st, length := ln, kidn := kn } := by unfold Tree.told; rw [if_pos rfl]; exact hput
  rw [he]
  rw [hs] at CS
  clear he h hf hp hs hput hs2 hput2 hst his
  go_enter Tryz.func43, Tryz.ntmps43
  go_upto_region 2 with (fail)
  generalize hW : ((w.alloc _).alloc _).alloc _ = W at HB ⊢
  generalize w.heap.size = xb at HB ⊢
  clear hW
  have c0 := blk_cell (HB.out.box 2 rfl) 0 (.int .i64 1) rfl
  have c1 := blk_cell (HB.out.box 2 rfl) 1 (.string path) rfl
  have zx := heap_lt (HB.out.box 2 rfl)
  have o3 := blk_cell (HB.out.box 0 rfl) 3 (.string ⟨#[]⟩) rfl
  have f3 := blk_free (HB.out.box 0 rfl) 3
  have zo := heap_lt (HB.out.box 0 rfl)
  have HS := Lib.hid (HB.out.set 0 rfl 3 (.string path))
  go_upto_region 5 with (fail)
  clear c0 c1 o3 f3
  generalize W.setCell _ _ = W at HS ⊢
  have c1 := blk_cell (HS.out.box 2 rfl) 1 (.string path) rfl
  have zx := heap_lt (HS.out.box 2 rfl)
  go_wp2_with (first
   | (go_at_call 87; refine (CS.out _ HS.out.1).mono ?_; rintro e w3 ⟨rfl, hM3⟩; have H3 := Lib.hid (HS.out.mod hM3); clear hM3)
   | ((with_reducible refine at_list ?_); refine wpList_store_chunk 9 sizeStatT (xb + 1 + 1) 5 rfl _ _ (H3.out.box 0 rfl) (.agg (st.vals ln kn).toArray) rfl (st.vals ln kn) rfl rfl (by show 5 + 9 ≤ 17; omega) (fun u hu => List.all_eq_true.1 (vals_one st ln kn) u hu) ?_; intro w4 hg4 hM4 hz4; have H4 := Lib.hid (H3.out.rebox 0 rfl hg4 hM4); clear hg4 hM4 hz4)
   | ((with_reducible refine at_list ?_); refine wpList_load_chunk 17 _ Tryz.underlying33 rfl sizeRp ⟨xb + 1 + 1, 0, none⟩ rfl (RpC { Tree.rp0 with path := path, st := st, length := ln, kidn := kn } none 0 none 0 none 0 0) rfl (box_chunk0 (H4.out.box 0 rfl)) ?_)
   | ((with_reducible refine at_list ?_); refine wpList_store_whole 17 sizeRp (xb + 1) rfl _ _ (H4.out.box 1 rfl) rfl (RpC { Tree.rp0 with path := path, st := st, length := ln, kidn := kn } none 0 none 0 none 0 0) rfl rfl rfl ?_; intro w5 hg5 hM5 hz5; have H5 := Lib.hid (H4.out.rebox 1 rfl hg5 hM5); clear hg5 hM5 hz5))
  refine bodyPost_ret (results_c1 rfl _ w5 (xb + 1) _ _ _ _ rfl (H5.out.box 1 rfl) Tryz.underlying33 rfl sizeRp) rfl ?_
  exact ⟨rfl, H5.out.1⟩
 by_cases h3 : kind = 3
 ·subst h3
  have he : T.told ⟨3, path, data, acl, owner, number, err⟩ = { Tree.rp0 with st := st, length := ln2, kidn := kn2 } := by unfold Tree.told; rw [if_neg (show ¬ (3 : Int) = 1 by decide), if_pos (.inl rfl)]; exact hput2
  rw [he]
  rw [hs2] at CS
  clear he h hf hp hs hput hs2 hput2 hst his h1
  go_enter Tryz.func43, Tryz.ntmps43
  go_upto_region 2 with (fail)
  generalize hW : ((w.alloc _).alloc _).alloc _ = W at HB ⊢
  generalize w.heap.size = xb at HB ⊢
  clear hW
  have c0 := blk_cell (HB.out.box 2 rfl) 0 (.int .i64 3) rfl
  have c1 := blk_cell (HB.out.box 2 rfl) 1 (.string path) rfl
  have zx := heap_lt (HB.out.box 2 rfl)
  go_wp2_with (first
   | (go_at_call 87; refine (CS.out _ HB.out.1).mono ?_; rintro e w3 ⟨rfl, hM3⟩; have H3 := Lib.hid (HB.out.mod hM3); clear hM3)
   | ((with_reducible refine at_list ?_); refine wpList_store_chunk 9 sizeStatT (xb + 1 + 1) 5 rfl _ _ (H3.out.box 0 rfl) (.agg (st.vals ln2 kn2).toArray) rfl (st.vals ln2 kn2) rfl rfl (by show 5 + 9 ≤ 17; omega) (fun u hu => List.all_eq_true.1 (vals_one st ln2 kn2) u hu) ?_; intro w4 hg4 hM4 hz4; have H4 := Lib.hid (H3.out.rebox 0 rfl hg4 hM4); clear hg4 hM4 hz4)
   | ((with_reducible refine at_list ?_); refine wpList_load_chunk 17 _ Tryz.underlying33 rfl sizeRp ⟨xb + 1 + 1, 0, none⟩ rfl (RpC { Tree.rp0 with st := st, length := ln2, kidn := kn2 } none 0 none 0 none 0 0) rfl (box_chunk0 (H4.out.box 0 rfl)) ?_)
   | ((with_reducible refine at_list ?_); refine wpList_store_whole 17 sizeRp (xb + 1) rfl _ _ (H4.out.box 1 rfl) rfl (RpC { Tree.rp0 with st := st, length := ln2, kidn := kn2 } none 0 none 0 none 0 0) rfl rfl rfl ?_; intro w5 hg5 hM5 hz5; have H5 := Lib.hid (H4.out.rebox 1 rfl hg5 hM5); clear hg5 hM5 hz5))
  refine bodyPost_ret (results_c1 rfl _ w5 (xb + 1) _ _ _ _ rfl (H5.out.box 1 rfl) Tryz.underlying33 rfl sizeRp) rfl ?_
  exact ⟨rfl, H5.out.1⟩
 by_cases h4 : kind = 4
 ·subst h4
  have he : T.told ⟨4, path, data, acl, owner, number, err⟩ = { Tree.rp0 with st := st, length := ln2, kidn := kn2 } := by unfold Tree.told; rw [if_neg (show ¬ (4 : Int) = 1 by decide), if_pos (.inr rfl)]; exact hput2
  rw [he]
  rw [hs2] at CS
  clear he h hf hp hs hput hs2 hput2 hst his h1
  go_enter Tryz.func43, Tryz.ntmps43
  go_upto_region 2 with (fail)
  generalize hW : ((w.alloc _).alloc _).alloc _ = W at HB ⊢
  generalize w.heap.size = xb at HB ⊢
  clear hW
  have c0 := blk_cell (HB.out.box 2 rfl) 0 (.int .i64 4) rfl
  have c1 := blk_cell (HB.out.box 2 rfl) 1 (.string path) rfl
  have zx := heap_lt (HB.out.box 2 rfl)
  go_wp2_with (first
   | (go_at_call 87; refine (CS.out _ HB.out.1).mono ?_; rintro e w3 ⟨rfl, hM3⟩; have H3 := Lib.hid (HB.out.mod hM3); clear hM3)
   | ((with_reducible refine at_list ?_); refine wpList_store_chunk 9 sizeStatT (xb + 1 + 1) 5 rfl _ _ (H3.out.box 0 rfl) (.agg (st.vals ln2 kn2).toArray) rfl (st.vals ln2 kn2) rfl rfl (by show 5 + 9 ≤ 17; omega) (fun u hu => List.all_eq_true.1 (vals_one st ln2 kn2) u hu) ?_; intro w4 hg4 hM4 hz4; have H4 := Lib.hid (H3.out.rebox 0 rfl hg4 hM4); clear hg4 hM4 hz4)
   | ((with_reducible refine at_list ?_); refine wpList_load_chunk 17 _ Tryz.underlying33 rfl sizeRp ⟨xb + 1 + 1, 0, none⟩ rfl (RpC { Tree.rp0 with st := st, length := ln2, kidn := kn2 } none 0 none 0 none 0 0) rfl (box_chunk0 (H4.out.box 0 rfl)) ?_)
   | ((with_reducible refine at_list ?_); refine wpList_store_whole 17 sizeRp (xb + 1) rfl _ _ (H4.out.box 1 rfl) rfl (RpC { Tree.rp0 with st := st, length := ln2, kidn := kn2 } none 0 none 0 none 0 0) rfl rfl rfl ?_; intro w5 hg5 hM5 hz5; have H5 := Lib.hid (H4.out.rebox 1 rfl hg5 hM5); clear hg5 hM5 hz5))
  refine bodyPost_ret (results_c1 rfl _ w5 (xb + 1) _ _ _ _ rfl (H5.out.box 1 rfl) Tryz.underlying33 rfl sizeRp) rfl ?_
  exact ⟨rfl, H5.out.1⟩
 ·have he : T.told ⟨kind, path, data, acl, owner, number, err⟩ = Tree.rp0 := by unfold Tree.told; rw [if_neg h1, if_neg (by rintro (h | h); exact h3 h; exact h4 h)]
  rw [he]
  have g1 : (kind == 1) = false := by simpa using h1
  have g3 : (kind == 3) = false := by simpa using h3
  have g4 : (kind == 4) = false := by simpa using h4
  clear he h hf hp hs hput hs2 hput2 hst his h1 h3 h4 CS
  go_enter Tryz.func43, Tryz.ntmps43
  go_upto_region 2 with (fail)
  generalize hW : ((w.alloc _).alloc _).alloc _ = W at HB ⊢
  generalize w.heap.size = xb at HB ⊢
  clear hW
  have c0 := blk_cell (HB.out.box 2 rfl) 0 (.int .i64 kind) rfl
  have zx := heap_lt (HB.out.box 2 rfl)
  go_wp2_with (first
   | ((with_reducible refine at_list ?_); refine wpList_load_chunk 17 _ Tryz.underlying33 rfl sizeRp ⟨xb + 1 + 1, 0, none⟩ rfl (RpC Tree.rp0 none 0 none 0 none 0 0) rfl (box_chunk0 (HB.out.box 0 rfl)) ?_)
   | ((with_reducible refine at_list ?_); refine wpList_store_whole 17 sizeRp (xb + 1) rfl _ _ (HB.out.box 1 rfl) rfl (RpC Tree.rp0 none 0 none 0 none 0 0) rfl rfl rfl ?_; intro w5 hg5 hM5 hz5; have H5 := Lib.hid (HB.out.rebox 1 rfl hg5 hM5); clear hg5 hM5 hz5))
  refine bodyPost_ret (results_c1 rfl _ w5 (xb + 1) _ _ _ _ rfl (H5.out.box 1 rfl) Tryz.underlying33 rfl sizeRp) rfl ?_
  exact ⟨rfl, H5.out.1⟩
end Go.Proofs.YtonnbkebjeoflaaGreatDoor
