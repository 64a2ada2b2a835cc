/-
  Contracts and plain laws of TreeJ, TreeK.
  Conditions: each law states its own.
-/
import Derived.Test.YtonnbkebjeoflaaGreatDoorJ13
import Derived.Test.YtonnbkebjeoflaaGreatDoorJ14
set_option linter.unusedSectionVars false
set_option linter.unusedSimpArgs false
set_option linter.unusedVariables false
set_option maxRecDepth 100000
namespace Go.Proofs.YtonnbkebjeoflaaGreatDoor
open Go.RowKit Go.Maps
structure Tree.fit (T : Tree) : Prop where
 many : T.nodes.length ≤ 1000000
 path : ∀ n ∈ T.nodes, n.1.size ≤ 1000000
 acl : ∀ n ∈ T.nodes, n.2.acl.length ≤ 1000000
 data : ∀ n ∈ T.nodes, n.2.data.size ≤ maxLen
theorem node_mem {T : Tree} {p : ByteArray} {n : Nd} (h : T.node p = some n) : (p, n) ∈ T.nodes := getK_some_mem h
def St7.vals (s : St7) (len kids : Int) : List Value := [.int .i64 s.czxid, .int .i64 s.mzxid, .int .i64 s.pzxid, .int .i64 s.version, .int .i64 s.cversion, .int .i64 s.aversion, .int .i64 s.owner, .int .i64 len, .int .i64 kids]
def Tree.statV (T : Tree) (p : ByteArray) : List Value :=
 match T.node p with
 | some n => n.st.vals n.data.size (T.kids p).length
 | none => Tree.st0.vals 0 0
theorem sizeStatT : (Tryz.prog.info? 29).map (·.size) = some 9 := by kernel_rfl
theorem vals_one (s : St7) (a b : Int) : (s.vals a b).all (·.oneCell') = true := rfl
theorem st_of_nd {w : World} {r : NRec} (h : w.heap[r.b]? = some (.cells r.cells.toArray 169 (0, 0))) : ∀ j u, (r.nd.st.vals 0 0)[j]? = some u → w.cell? ((⟨r.b, 2, none⟩ : Addr).add j) = some u := by
 intro j u hj
 rw [add_none]
 refine blk_cell h _ u ?_
 have hl := (List.getElem?_eq_some_iff.1 hj).1
 rw [List.getElem?_toArray, Nat.add_comm]
 exact hj
theorem box_chunk0 {w : World} {b : Nat} {T : TypeId} {cs : List Value} (h : w.heap[b]? = some (.cells cs.toArray T (0, 0))) : ∀ j u, cs[j]? = some u → w.cell? ((⟨b, 0, none⟩ : Addr).add j) = some u := by
 intro j u hj
 rw [add_none]
 refine blk_cell h _ u ?_
 rw [List.getElem?_toArray, Nat.zero_add]
 exact hj
set_option maxHeartbeats 4000000 in
theorem stat_any (w : World) (tb : Nat) (T : Tree) (h : TreeAt w tb T) (hf : T.fit) (p : ByteArray) (hp : p.size ≤ maxLen) :
 Calls Tryz.prog 87 #[.pointer (some ⟨tb, 0, none⟩), .string p] w (CpPost (.tuple #[.agg (T.statV p).toArray, .bool (T.is p)]) w) := by
 obtain ⟨d, hd, ht, hm, _, hr⟩ := h.open
 have c0 : w.cell? ⟨tb, 0, none⟩ = some (.map (some d.mb)) := blk_cell ht 0 _ rfl
 have zt := heap_lt ht
 have HM := Lib.hid hm
 have HP := Lib.hid hp
 have HS := Lib.hid ((St.start w).box1 #[.int .i64 0, .int .i64 0, .int .i64 0, .int .i64 0, .int .i64 0, .int .i64 0, .int .i64 0, .int .i64 0, .int .i64 0] 29)
 cases hg : getK d.recs p with
 | none =>
   have hsv : T.statV p = Tree.st0.vals 0 0 := by unfold Tree.statV; rw [node_none hd hg]
   have his : T.is p = false := by unfold Tree.is; rw [node_none hd hg]; rfl
   rw [hsv, his]
   have HG := Lib.hid (ptr_none hg)
   clear hd ht hm hr hp hg h hsv his hf
   go_enter Tryz.func87, Tryz.ntmps87
   go_wp2_with (first
    | ((with_reducible refine at_list ?_); refine wpList_lookL (B := kbP) mapNodes d.mb _ (HM.out.kept (Below.heap_alloc w _ _ HM.out.lt)) rfl (zeroNp _) p rfl HP.out _ HG.out ?_)
    | ((with_reducible refine at_list ?_); refine wpList_store_whole 9 sizeStatT w.heap.size rfl _ _ (HS.out.box 0 rfl) rfl (Tree.st0.vals 0 0) rfl rfl rfl ?_; intro w2 hg2 hM2 hz2; have hS := HS.out.rebox 0 rfl hg2 hM2; have HS2 := Lib.hid hS; clear hg2 hM2 hz2 hS))
   refine bodyPost_ret (results_cell_tmp rfl _ w2 w.heap.size _ _ _ _ rfl (HS2.out.box 0 rfl) Tryz.underlying29 rfl sizeStatT) rfl ?_
   exact ⟨rfl, HS2.out.1⟩
 | some r =>
   obtain ⟨hb, hsl⟩ := hr (p, r) (getK_some_mem hg)
   have hsv : T.statV p = r.nd.st.vals r.nd.data.size (T.kids p).length := by unfold Tree.statV; rw [node_some hd hg]
   have his : T.is p = true := by unfold Tree.is; rw [node_some hd hg]; rfl
   have k0 := blk_cell hb 0 _ rfl
   have HK0 := Lib.hid k0
   have zb : r.b < w.heap.size := heap_lt hb
   have HG := Lib.hid (ptr_some hg)
   have HC := Lib.hid (st_of_nd hb)
   have CK : Hid (∀ w', Mod (fun _ => False) w w' → Calls Tryz.prog 168 #[.pointer (some ⟨tb, 0, none⟩), .string p] w' (NewSl 9 1 ((T.kids p).map Value.string) (T.kids p).length w')) := Lib.hid fun w' hm => kids_any w' tb T (h.old hm) p hf.many hf.path
   rw [hsv, his]
   obtain ⟨kn, hkn⟩ : ∃ kn, (T.kids p).length = kn := ⟨_, rfl⟩
   obtain ⟨kl, hkl⟩ : ∃ kl, (T.kids p).map Value.string = kl := ⟨_, rfl⟩
   rw [hkn] at CK ⊢
   rw [hkl] at CK
   clear hd ht hm hr hp hg h hsv his hf hb hsl hkn hkl
   go_enter Tryz.func87, Tryz.ntmps87
   go_upto_region 5 with (first
    | ((with_reducible refine at_list ?_); refine wpList_lookL (B := kbP) mapNodes d.mb _ (HM.out.kept (Below.heap_alloc w _ _ HM.out.lt)) rfl (zeroNp _) p rfl HP.out _ HG.out ?_)
    | ((with_reducible refine at_list ?_); refine wpList_load_chunk 9 _ Tryz.underlying29 rfl sizeStatT ⟨r.b, 2, none⟩ rfl (r.nd.st.vals 0 0) rfl (fun j u hj => HS.out.1.cell (HC.out j u hj) id) ?_; have HS1 := Lib.hid (HS.out.box1 #[.int .i64 0, .int .i64 0, .int .i64 0, .int .i64 0, .int .i64 0, .int .i64 0, .int .i64 0, .int .i64 0, .int .i64 0] 29))
    | ((with_reducible refine at_list ?_); refine wpList_store_whole 9 sizeStatT (w.heap.size + 1) rfl _ _ (by have := HS1.out.box 0 rfl; rw [World.size_alloc] at this; exact this) rfl (r.nd.st.vals 0 0) rfl rfl rfl ?_; intro w2 hg2 hM2 hz2; have hS := HS1.out.rebox 0 rfl (by rw [World.size_alloc]; exact hg2) (by rw [World.size_alloc]; exact hM2); rw [World.size_alloc] at hS; have HS2 := Lib.hid hS; clear hg2 hM2 hz2 hS HS1))
   have hne : ¬ r.b = w.heap.size + 1 := by omega
   generalize w.heap.size + 1 = qb at HS2 hne ⊢
   have c7 := blk_cell (HS2.out.box 0 rfl) 7 _ rfl
   have c8 := blk_cell (HS2.out.box 0 rfl) 8 _ rfl
   have z2 := heap_lt (HS2.out.box 0 rfl)
   have k2 := HS2.out.1.cell HK0.out id
   go_region_held3 (fun w' => w'.cell? ⟨r.b, 0, none⟩ = some (.string r.nd.data))
    (first | exact k2 | exact k3 | exact (((Mod.refl (fun x => x = qb) w3).setCell _ _ (fun _ => rfl)).cell k3 hne) | exact ((((Mod.refl (fun x => x = qb) w3).setCell _ _ (fun _ => rfl)).setCell _ _ (fun _ => rfl)).cell k3 hne))
    (first
     | (go_at_call 168; refine (CK.out _ ((HS2.out.1.drewN 0).drew)).mono ?_; rintro e w3 ⟨ka, kc, rfl, hs3, hf3, hM3⟩; have HS3 := Lib.hid (HS2.out.drew.mod hM3); have c7 := blk_cell (HS3.out.box 0 rfl) 7 _ rfl; have c8 := blk_cell (HS3.out.box 0 rfl) 8 _ rfl; have f7 := blk_free (HS3.out.box 0 rfl) 7; have f8 := blk_free (HS3.out.box 0 rfl) 8; have z3 := heap_lt (HS3.out.box 0 rfl); have k3 := HS3.out.1.cell HK0.out id; clear hM3))
   all_goals
    have hS4 := (HS3.out.set 0 rfl 7 (.int .i64 r.nd.data.size)).set 0 rfl 8 (.int .i64 kn)
    simp only [List.set_cons_zero] at hS4
    have HS4 := Lib.hid hS4
    clear hS4 HS3 HS2 HS c7 c8 f7 f8 k2 k3
    go_wp2_with (first
     | ((with_reducible refine at_list ?_); refine wpList_load_chunk 9 _ Tryz.underlying29 rfl sizeStatT ⟨qb, 0, none⟩ rfl (r.nd.st.vals r.nd.data.size kn) rfl (box_chunk0 (HS4.out.box 0 rfl)) ?_)
     | ((with_reducible refine at_list ?_); refine wpList_store_whole 9 sizeStatT w.heap.size rfl _ _ (HS4.out.box 1 rfl) rfl (r.nd.st.vals r.nd.data.size kn) rfl rfl rfl ?_; intro w5 hg5 hM5 hz5; have HS5 := Lib.hid (HS4.out.rebox 1 rfl hg5 hM5); clear hg5 hM5 hz5))
    refine bodyPost_ret (results_cell_tmp rfl _ w5 w.heap.size _ _ _ _ rfl (HS5.out.box 1 rfl) Tryz.underlying29 rfl sizeStatT) rfl ?_
    exact ⟨rfl, HS5.out.1⟩
theorem look_drew {w : World} {b : Nat} {M : List (ByteArray × Value)} (h : MapL kbP w b M) (p : ByteArray) (hp : p.size ≤ maxLen) (v : Value) (hv : (getK M p).getD (.pointer none) = v) :
 (Instr.lookup 102 (.map (some b)) (.string p) false).run Tryz.prog w.drew = .ok v w.drew := by
 have h1 : MapL kbP w.drew b M := h.kept rfl
 have := h1.look mapNodes false (zeroNp w.drew) (x := p) hp
 rw [show (Value.string p) = kbP.inj p from rfl, this, ← hv]
 rfl
theorem look_drewN {w : World} {b : Nat} {M : List (ByteArray × Value)} (h : MapL kbP w b M) (p : ByteArray) (hp : p.size ≤ maxLen) (v : Value) (hv : (getK M p).getD (.pointer none) = v) (n : Nat) :
 (Instr.lookup 102 (.map (some b)) (.string p) false).run Tryz.prog (w.drewN n) = .ok v (w.drewN n) := by
 have h1 : MapL kbP (w.drewN n) b M := h.kept rfl
 have := h1.look mapNodes false (zeroNp (w.drewN n)) (x := p) hp
 rw [show (Value.string p) = kbP.inj p from rfl, this, ← hv]
 rfl
theorem step_store_whole {P : Program} {ops : Array Oper} {o : Oper} {a : Act} {w : World} {K : Act → World → Prop} {Q : Exit → Act → World → Prop} {G : Prop} (hgd : o.guard = none) {ty : TypeId} {x y : Operand} (ho : o.op = .store ty x y) (hdst : o.dst = none)
 (k : Nat) (hi : (P.info? ty).map (·.size) = some k) (b : Nat) (hx : a.eval x = .pointer (some ⟨b, 0, none⟩)) (c : Array Value) (E : TypeId) (hg : w.heap[b]? = some (.cells c E (0, 0))) (hk : c.size = k)
 (cs : List Value) (hy : a.eval y = .agg cs.toArray) (hl : cs.length = k) (h1 : cs.all (·.oneCell') = true)
 (h : ∀ w', w'.heap[b]? = some (.cells cs.toArray E (0, 0)) → Mod (fun x => x = b) w w' → w'.heap.size = w.heap.size → K a w') : if Region.wanted o (yielded ops a.tmps) = true then Oper.wp P o a w K Q else G := by
 have hw : Region.wanted o (yielded ops a.tmps) = true := by simp [Region.wanted, hgd]
 rw [if_pos hw]
 have hr := run_storeAt_chunk (P := P) w ty k hi b 0 c E hg cs hl (by omega) (fun u hu => List.all_eq_true.1 h1 u hu)
 have e : splice c.toList 0 cs = cs := by
  simp only [splice, List.take_zero, List.nil_append, Nat.zero_add]
  rw [List.drop_of_length_le (by simp; omega), List.append_nil]
 rw [e] at hr
 unfold Oper.wp execOp
 simp only [ho, hx, hy, Sem.run_bind, Sem.run_pure, hr, Result.andThen_ok, Oper.upon]
 have h2 := h _ (setRow_heap w b c cs.toArray E _ hg) ((Mod.refl _ w).setRow _ _ (fun _ => rfl)) (size_setRow _ _ _)
 rw [hdst]
 exact h2
theorem results_tct {P : Program} {fn : Func} {s p t : Tmp} {ty : TypeId} (h : fn.results = #[.tmp s, .cell p ty, .tmp t]) (tmps : Array Value) (w : World) (g : Nat) (T : TypeId) (cs : Array Value) (fr : Nat × Nat) (d : TypeDesc)
 (hp : tmps.getD p undef = .pointer (some ⟨g, 0, none⟩)) (hg : w.heap[g]? = some (.cells cs T fr))
 (hu : P.underlying ty = some d) (hd : (match d with | .struct _ | .array _ _ => true | _ => false) = true) (hi : (P.info? ty).map (·.size) = some cs.size) :
 (results fn tmps).run P w = .ok (.tuple #[tmps.getD s undef, .agg cs, tmps.getD t undef]) w := by
 have hp' : tmps[p]?.getD undef = .pointer (some ⟨g, 0, none⟩) := by simpa using hp
 simp [results, h, hp', asAddr, run_loadVar_row w g T ty cs fr d hg hu hd hi]
def Tree.dataV (T : Tree) (p : ByteArray) : ByteArray := match T.node p with | some n => n.data | none => ⟨#[]⟩
def Tree.noneE (T : Tree) (p : ByteArray) : Int := if T.is p then 0 else 60
set_option maxHeartbeats 4000000 in
theorem get_any (w : World) (tb : Nat) (T : Tree) (h : TreeAt w tb T) (hf : T.fit) (p : ByteArray) (hp : p.size ≤ maxLen) :
 Calls Tryz.prog 137 #[.pointer (some ⟨tb, 0, none⟩), .string p] w (CpPost (.tuple #[.string (T.dataV p), .agg (T.statV p).toArray, .int .i64 (T.noneE p)]) w) := by
 have CS : Hid (∀ w', Mod (fun _ => False) w w' → Calls Tryz.prog 87 #[.pointer (some ⟨tb, 0, none⟩), .string p] w' (CpPost (.tuple #[.agg (T.statV p).toArray, .bool (T.is p)]) w')) := Lib.hid fun w' hm => stat_any w' tb T (h.old hm) hf p hp
 have HS := Lib.hid ((St.start w).box1 #[.int .i64 0, .int .i64 0, .int .i64 0, .int .i64 0, .int .i64 0, .int .i64 0, .int .i64 0, .int .i64 0, .int .i64 0] 29)
 have hsz : ∃ a0 a1 a2 a3 a4 a5 a6 a7 a8 : Int, T.statV p = [.int .i64 a0, .int .i64 a1, .int .i64 a2, .int .i64 a3, .int .i64 a4, .int .i64 a5, .int .i64 a6, .int .i64 a7, .int .i64 a8] := by
  unfold Tree.statV
  cases T.node p with
  | none => exact ⟨_, _, _, _, _, _, _, _, _, rfl⟩
  | some n => exact ⟨_, _, _, _, _, _, _, _, _, rfl⟩
 obtain ⟨a0, a1, a2, a3, a4, a5, a6, a7, a8, hst⟩ := hsz
 obtain ⟨d, hd, ht, hm, _, hr⟩ := h.open
 have c0 : w.cell? ⟨tb, 0, none⟩ = some (.map (some d.mb)) := blk_cell ht 0 _ rfl
 have HC0 := Lib.hid c0
 have zt := heap_lt ht
 have HM := Lib.hid hm
 have HP := Lib.hid hp
 cases hg : getK d.recs p with
 | none =>
   have hsv : T.statV p = Tree.st0.vals 0 0 := by unfold Tree.statV; rw [node_none hd hg]
   have his : T.is p = false := by unfold Tree.is; rw [node_none hd hg]; rfl
   have hdv : T.dataV p = ⟨#[]⟩ := by unfold Tree.dataV; rw [node_none hd hg]
   have hno : T.noneE p = 60 := by unfold Tree.noneE; rw [his]; rfl
   rw [hsv, his] at CS
   rw [hsv, hdv, hno]
   clear hd ht hm hr hp hg h hsv his hf hdv hno hst
   go_enter Tryz.func137, Tryz.ntmps137
   go_wp2_with (first
    | (go_at_call 87; refine (CS.out _ HS.out.1).mono ?_; rintro e w3 ⟨rfl, hM3⟩; have HS3 := Lib.hid ((HS.out.mod hM3).box1 #[.int .i64 0, .int .i64 0, .int .i64 0, .int .i64 0, .int .i64 0, .int .i64 0, .int .i64 0, .int .i64 0, .int .i64 0] 29); clear hM3)
    | ((with_reducible refine at_list ?_); refine wpList_store_whole 9 sizeStatT w3.heap.size rfl _ _ (HS3.out.box 0 rfl) rfl (Tree.st0.vals 0 0) rfl rfl rfl ?_; intro w4 hg4 hM4 hz4; have HS4 := Lib.hid (HS3.out.rebox 0 rfl hg4 hM4); clear hg4 hM4 hz4)
    | ((with_reducible refine at_list ?_); refine wpList_store_whole 9 sizeStatT w.heap.size rfl _ _ (HS4.out.box 1 rfl) rfl (Tree.st0.vals 0 0) rfl rfl rfl ?_; intro w5 hg5 hM5 hz5; have HS5 := Lib.hid (HS4.out.rebox 1 rfl hg5 hM5); clear hg5 hM5 hz5))
   refine bodyPost_ret (results_tct rfl _ w5 w.heap.size _ _ _ _ rfl (HS5.out.box 1 rfl) Tryz.underlying29 rfl sizeStatT) rfl ?_
   exact ⟨rfl, HS5.out.1⟩
 | some r =>
   obtain ⟨hb, hsl⟩ := hr (p, r) (getK_some_mem hg)
   have his : T.is p = true := by unfold Tree.is; rw [node_some hd hg]; rfl
   have hdv : T.dataV p = r.nd.data := by unfold Tree.dataV; rw [node_some hd hg]
   have hno : T.noneE p = 0 := by unfold Tree.noneE; rw [his]; rfl
   have k0 := blk_cell hb 0 (.string r.nd.data) rfl
   have HK0 := Lib.hid k0
   have HG := Lib.hid (ptr_some hg)
   rw [his] at CS
   rw [hdv, hno]
   simp only [hst] at CS ⊢
   clear hd ht hm hr hp hg h his hf hdv hno hst hb hsl k0
   go_enter Tryz.func137, Tryz.ntmps137
   go_upto_region 4 with (first
    | (go_at_call 87; refine (CS.out _ HS.out.1).mono ?_; rintro e w3 ⟨rfl, hM3⟩; have HS3 := Lib.hid ((HS.out.mod hM3).box1 #[.int .i64 0, .int .i64 0, .int .i64 0, .int .i64 0, .int .i64 0, .int .i64 0, .int .i64 0, .int .i64 0, .int .i64 0] 29); clear hM3)
    | ((with_reducible refine at_list ?_); refine wpList_store_whole 9 sizeStatT w3.heap.size rfl _ _ (HS3.out.box 0 rfl) rfl [.int .i64 a0, .int .i64 a1, .int .i64 a2, .int .i64 a3, .int .i64 a4, .int .i64 a5, .int .i64 a6, .int .i64 a7, .int .i64 a8] rfl rfl rfl ?_; intro w4 hg4 hM4 hz4; have HS4 := Lib.hid (HS3.out.rebox 0 rfl hg4 hM4); clear hg4 hM4 hz4))
   generalize w3.heap.size = qb at HS4 ⊢
   have c0 := HS4.out.1.cell HC0.out id
   have k0 := HS4.out.1.cell HK0.out id
   have zt := heap_lt (HS4.out.box 0 rfl)
   have s0 := blk_cell (HS4.out.box 0 rfl) 0 _ rfl
   have s1 := blk_cell (HS4.out.box 0 rfl) 1 _ rfl
   have s2 := blk_cell (HS4.out.box 0 rfl) 2 _ rfl
   have s3 := blk_cell (HS4.out.box 0 rfl) 3 _ rfl
   have s4 := blk_cell (HS4.out.box 0 rfl) 4 _ rfl
   have s5 := blk_cell (HS4.out.box 0 rfl) 5 _ rfl
   have s6 := blk_cell (HS4.out.box 0 rfl) 6 _ rfl
   have s7 := blk_cell (HS4.out.box 0 rfl) 7 _ rfl
   have s8 := blk_cell (HS4.out.box 0 rfl) 8 _ rfl
   have hS0 : w4.drew.cell? ⟨tb, 0, none⟩ = some (.map (some d.mb)) ∧ w4.drew.cell? ⟨r.b, 0, none⟩ = some (.string r.nd.data) ∧ (Instr.lookup 102 (.map (some d.mb)) (.string p) false).run Tryz.prog w4.drew = .ok (.pointer (some ⟨r.b, 0, none⟩)) w4.drew ∧ w4.drew.cell? ⟨qb, 0, none⟩ = some (.int .i64 a0) ∧ w4.drew.cell? ⟨qb, 1, none⟩ = some (.int .i64 a1) ∧ w4.drew.cell? ⟨qb, 2, none⟩ = some (.int .i64 a2) ∧ w4.drew.cell? ⟨qb, 3, none⟩ = some (.int .i64 a3) ∧ w4.drew.cell? ⟨qb, 4, none⟩ = some (.int .i64 a4) ∧ w4.drew.cell? ⟨qb, 5, none⟩ = some (.int .i64 a5) ∧ w4.drew.cell? ⟨qb, 6, none⟩ = some (.int .i64 a6) ∧ w4.drew.cell? ⟨qb, 7, none⟩ = some (.int .i64 a7) ∧ w4.drew.cell? ⟨qb, 8, none⟩ = some (.int .i64 a8) := ⟨c0, k0, look_drew (w := w4) (HM.out.kept (HS4.out.1.keep _ HM.out.lt id)) p HP.out _ HG.out, s0, s1, s2, s3, s4, s5, s6, s7, s8⟩
   refine wp_region_held_drew (S := fun w' => w'.cell? ⟨tb, 0, none⟩ = some (.map (some d.mb)) ∧ w'.cell? ⟨r.b, 0, none⟩ = some (.string r.nd.data) ∧ (Instr.lookup 102 (.map (some d.mb)) (.string p) false).run Tryz.prog w' = .ok (.pointer (some ⟨r.b, 0, none⟩)) w' ∧ w'.cell? ⟨qb, 0, none⟩ = some (.int .i64 a0) ∧ w'.cell? ⟨qb, 1, none⟩ = some (.int .i64 a1) ∧ w'.cell? ⟨qb, 2, none⟩ = some (.int .i64 a2) ∧ w'.cell? ⟨qb, 3, none⟩ = some (.int .i64 a3) ∧ w'.cell? ⟨qb, 4, none⟩ = some (.int .i64 a4) ∧ w'.cell? ⟨qb, 5, none⟩ = some (.int .i64 a5) ∧ w'.cell? ⟨qb, 6, none⟩ = some (.int .i64 a6) ∧ w'.cell? ⟨qb, 7, none⟩ = some (.int .i64 a7) ∧ w'.cell? ⟨qb, 8, none⟩ = some (.int .i64 a8)) (by kernel_rfl) hS0 (fun hHeld => ?_)
   clear c0 k0 s0 s1 s2 s3 s4 s5 s6 s7 s8 hS0
   refine tk 0 (some 18) ?_ rfl rfl hHeld ?_ ?_
   rotate_left
   ·intro wq hSw; (try dsimp only at hSw); go_simp; try with_reducible rfl
   refine tk 1 (some 19) ?_ rfl rfl hHeld ?_ ?_
   rotate_left
   ·intro wq hSw; (try dsimp only at hSw); go_simp; try with_reducible rfl
   refine tk 2 (some 20) ?_ rfl rfl hHeld ?_ ?_
   rotate_left
   ·intro wq hSw; (try dsimp only at hSw); go_simp; try with_reducible rfl
   refine tk 3 (some 21) ?_ rfl rfl hHeld ?_ ?_
   rotate_left
   ·intro wq hSw; (try dsimp only at hSw); go_simp; try with_reducible rfl
   refine tk 4 (some 22) ?_ rfl rfl hHeld ?_ ?_
   rotate_left
   ·intro wq hSw; (try dsimp only at hSw); go_simp; try with_reducible rfl
   refine tk 5 (some 23) ?_ rfl rfl hHeld ?_ ?_
   rotate_left
   ·intro wq hSw; (try dsimp only at hSw); go_simp; try with_reducible rfl
   refine tk 6 (some 24) ?_ rfl rfl hHeld ?_ ?_
   rotate_left
   ·intro wq hSw; (try dsimp only at hSw); go_simp; try with_reducible rfl
   refine tk 7 (some 25) ?_ rfl rfl hHeld ?_ ?_
   rotate_left
   ·intro wq hSw; (try dsimp only at hSw); go_simp; try with_reducible rfl
   refine tk 8 (some 26) ?_ rfl rfl hHeld ?_ ?_
   rotate_left
   ·intro wq hSw; (try dsimp only at hSw); go_simp; try with_reducible rfl
   refine tk 9 (some 27) ?_ rfl rfl hHeld ?_ ?_
   rotate_left
   ·intro wq hSw; (try dsimp only at hSw); go_simp; try with_reducible rfl
   try simp only [Act.put, Nat.zero_add, List.setIfInBounds_toArray, List.set_cons_zero, List.set_cons_succ]
   have HS5 := Lib.hid HS4.out.drew
   clear HS4
   generalize w4.drew = w5 at HS5 hHeld ⊢
   refine wpAnyH_ready (rs := [10]) (by kernel_rfl) (by simp) ?_
   refine (AllReadyH.cons (o := ⟨some 4, _, _, _, _, _⟩) rfl (fun K hK => ?_) AllReadyH.nil)
   go_simp
   refine hK.out _ _ hHeld (fun hHeld => ?_)
   clear hK K
   try simp only [Act.put, Nat.zero_add, List.setIfInBounds_toArray, List.set_cons_zero, List.set_cons_succ]
   refine wpAnyH_ready (rs := [11]) (by kernel_rfl) (by simp) ?_
   refine (AllReadyH.cons (o := ⟨none, _, _, _, _, _⟩) rfl (fun K hK => ?_) AllReadyH.nil)
   refine step_store_whole rfl rfl rfl 9 sizeStatT w.heap.size rfl _ _ (HS5.out.box 1 rfl) rfl [.int .i64 a0, .int .i64 a1, .int .i64 a2, .int .i64 a3, .int .i64 a4, .int .i64 a5, .int .i64 a6, .int .i64 a7, .int .i64 a8] rfl rfl rfl ?_
   intro w6 hg6 hM6 hz6
   have hS6 := HS5.out.rebox 1 rfl hg6 hM6
   have hk6 := hS6.1
   have HS6 := Lib.hid hS6
   refine hK.out _ _ ⟨hk6.cell HC0.out id, hk6.cell HK0.out id, (HM.out.kept (hk6.keep _ HM.out.lt id)).look mapNodes false (zeroNp w6) (x := p) HP.out |>.trans (by rw [HG.out]; rfl), blk_cell (HS6.out.box 0 rfl) 0 _ rfl, blk_cell (HS6.out.box 0 rfl) 1 _ rfl, blk_cell (HS6.out.box 0 rfl) 2 _ rfl, blk_cell (HS6.out.box 0 rfl) 3 _ rfl, blk_cell (HS6.out.box 0 rfl) 4 _ rfl, blk_cell (HS6.out.box 0 rfl) 5 _ rfl, blk_cell (HS6.out.box 0 rfl) 6 _ rfl, blk_cell (HS6.out.box 0 rfl) 7 _ rfl, blk_cell (HS6.out.box 0 rfl) 8 _ rfl⟩ (fun hHeld => ?_)
   clear hK K hk6 hS6 hg6 hM6
   refine wpAnyH_ready (rs := [12]) (by kernel_rfl) (by simp) ?_
   refine (AllReadyH.cons (o := ⟨some 6, _, _, _, _, _⟩) rfl (fun K hK => ?_) AllReadyH.nil)
   go_simp
   refine hK.out _ _ hHeld (fun hHeld => ?_)
   clear hK K
   try simp only [Act.put, Nat.zero_add, List.setIfInBounds_toArray, List.set_cons_zero, List.set_cons_succ]
   refine wpAnyH_done (by kernel_rfl) ?_ _
   go_wp2
   refine bodyPost_ret (results_tct rfl _ w6 w.heap.size _ _ _ _ rfl (HS6.out.box 1 rfl) Tryz.underlying29 rfl sizeStatT) rfl ?_
   exact ⟨rfl, HS6.out.1⟩
def KidsPost (T : Tree) (p : ByteArray) (w : World) (e : Ending) (w' : World) : Prop :=
 if T.is p then ∃ (a : Option Addr) (cap : Nat), e = .returned (.tuple #[.slice a (T.kids p).length cap, .int .i64 0]) ∧ Sl w' 9 1 a (T.kids p).length cap ((T.kids p).map Value.string) ∧ (∀ b, own a = some b → w.heap.size ≤ b) ∧ Mod (fun _ => False) w w'
 else e = .returned (.tuple #[.slice none 0 0, .int .i64 60]) ∧ Mod (fun _ => False) w w'
set_option maxHeartbeats 4000000 in
theorem kidsX_any (w : World) (tb : Nat) (T : Tree) (h : TreeAt w tb T) (hf : T.fit) (p : ByteArray) (hp : p.size ≤ maxLen) :
 Calls Tryz.prog 138 #[.pointer (some ⟨tb, 0, none⟩), .string p] w (KidsPost T p w) := by
 have CK := Lib.hid (kids_any w tb T h p hf.many hf.path)
 obtain ⟨d, hd, ht, hm, _, hr⟩ := h.open
 have c0 : w.cell? ⟨tb, 0, none⟩ = some (.map (some d.mb)) := blk_cell ht 0 _ rfl
 have zt := heap_lt ht
 have HM := Lib.hid hm
 have HP := Lib.hid hp
 obtain ⟨kl, hkl⟩ : ∃ kl, (T.kids p) = kl := ⟨_, rfl⟩
 unfold KidsPost
 rw [hkl] at CK ⊢
 cases hg : getK d.recs p with
 | none =>
   have his : T.is p = false := by unfold Tree.is; rw [node_none hd hg]; rfl
   have HG := Lib.hid (ptr_none hg)
   rw [his]
   clear hd ht hm hr hp hg h his hf CK hkl
   go_enter Tryz.func138, Tryz.ntmps138
   go_wp2_with ((with_reducible refine at_list ?_); refine wpList_lookL (B := kbP) mapNodes d.mb _ HM.out rfl (zeroNp w) p rfl HP.out _ HG.out ?_)
   go_ret2
   exact ⟨rfl, Mod.refl _ _⟩
 | some r =>
   have his : T.is p = true := by unfold Tree.is; rw [node_some hd hg]; rfl
   have HG := Lib.hid (ptr_some hg)
   rw [his]
   clear hd ht hm hr hp hg h his hf hkl
   go_enter Tryz.func138, Tryz.ntmps138
   go_wp2_with (first
    | ((with_reducible refine at_list ?_); refine wpList_lookL (B := kbP) mapNodes d.mb _ HM.out rfl (zeroNp w) p rfl HP.out _ HG.out ?_)
    | (go_at_call 168; refine CK.out.mono ?_; rintro e w3 ⟨a, cap, rfl, hs, hf, hM⟩))
   go_ret2
   exact ⟨a, cap, rfl, hs, hf, hM⟩
end Go.Proofs.YtonnbkebjeoflaaGreatDoor
namespace Go.Proofs.YtonnbkebjeoflaaGreatDoor
open Go.RowKit Go.Maps
theorem Side.sub {w : World} {l l' : List Thing} (hs : l'.Sublist l) : ∀ {F : Nat → Prop}, Side w l F → ∃ G, Side w l' G ∧ ∀ x, G x → F x := by
 induction hs with
 | slnil => exact fun {F} h => ⟨F, h, fun _ h => h⟩
 | cons t _ ih =>
   rintro F ⟨F1, F2, h1, h2, hd, hF⟩
   obtain ⟨G, hg, hG⟩ := ih h2
   exact ⟨G, hg, fun x hx => (hF x).2 (.inr (hG x hx))⟩
 | cons_cons t _ ih =>
   rintro F ⟨F1, F2, h1, h2, hd, hF⟩
   obtain ⟨G, hg, hG⟩ := ih h2
   exact ⟨fun x => F1 x ∨ G x, ⟨F1, G, h1, hg, fun x hx h => hd x hx (hG x h), fun _ => Iff.rfl⟩, fun x hx => (hF x).2 (hx.imp id (hG x))⟩
theorem St.sub {w0 w : World} {l l' : List Thing} (h : St w0 w l) (hs : l'.Sublist l) : St w0 w l' := by
 obtain ⟨h0, F, h1, hz⟩ := h
 obtain ⟨G, hg, hG⟩ := Side.sub hs h1
 exact ⟨h0, G, hg, fun x hx => hz x (hG x hx)⟩
theorem St.join {w0 w w' : World} {l ts : List Thing} (h : St w0 w l) (h2 : St w w' ts) : St w0 w' (ts ++ l) := by
 obtain ⟨hm, F, hs, hz⟩ := h2
 obtain ⟨h0, G, hg, hG⟩ := h
 obtain ⟨H, hh, hH⟩ := Side.appendTo hs (Side.mod hm hg (fun _ _ h => h)) (fun x hx hf => by have := Side.lt hg x hf; have := hz x hx; omega)
 refine ⟨h0.trans hm (fun _ _ h => h) (fun _ _ h => h), H, hh, fun x hx => ?_⟩
 rcases (hH x).1 hx with h1 | h1
 ·exact Nat.le_trans h0.size (hz x h1)
 ·exact hG x h1
theorem St.pick {w0 w : World} {l : List Thing} (h : St w0 w l) (i : Nat) {t : Thing} (hi : l[i]? = some t) : St w0 w (t :: l.eraseIdx i) := by
 refine h.perm ?_
 clear h
 induction l generalizing i with
 | nil => simp at hi
 | cons a l ih =>
   cases i with
   | zero => simp at hi; subst hi; exact .refl _
   | succ i => exact ((ih i (by simpa using hi)).cons a).trans (.swap _ _ _)
theorem St.grpTail {w0 w : World} {t : Thing} {ts l : List Thing} (h : St w0 w (grp (t :: ts) :: l)) : St w0 w (grp ts :: l) := St.regrp ts (h.ungrp.tail)
section
variable {P : Program} {ops : Array Oper} {rest : List Oper} {dst : Option Tmp} {ty0 : TypeId} {pos : String} {after : Array Edge} {a : Act} {w : World} {Q : Exit → Act → World → Prop}
variable {k e t : TypeId} {α : Type} [DecidableEq α] {B : KB P k α} (ht : P.underlying t = some (.map k e)) (b : Nat) (M : List (α × Value))
include ht
theorem wpList_lookLG (h : MapL B w b M) {m x : Operand} (hm : a.eval m = .map (some b)) {z : Value} (hz : (zeroValue e).run P w = .ok z w) (y : α) (hx : a.eval x = B.inj y) (hy : B.ok y)
 (v : Value) (hv : (getK M y).getD z = v) {gd : Option (Nat × Bool)} (hw : Region.wanted ⟨dst, .lookup t m x false, ty0, pos, after, gd⟩ (yielded ops a.tmps) = true)
 (hn : wpList P ops Q rest (a.put dst v) w) : wpList P ops Q (⟨dst, .lookup t m x false, ty0, pos, after, gd⟩ :: rest) a w := by
 unfold wpList
 rw [if_pos hw]
 refine .inl ?_
 have hr := h.look ht false hz hy
 subst hv
 unfold Oper.wp execOp
 simp only [hm, hx, Sem.run_bind, Sem.run_pure, hr, Result.andThen_ok]
 exact hn
theorem wpList_insL (h : MapL B w b M) {m x u : Operand} (hm : a.eval m = .map (some b)) (hb : M.length < maxLen) (y : α) (hx : a.eval x = B.inj y) (hy : B.ok y) (v : Value) (hv : a.eval u = v)
 (hn : ∀ w', MapL B w' b (putK M y v) → Mod (fun x => x = b) w w' → wpList P ops Q rest a w') : wpList P ops Q (⟨none, .insert t m x u, ty0, pos, after, none⟩ :: rest) a w :=
 wpList_plain rfl fun K hK => by
  obtain ⟨w', hr, h3, h4⟩ := h.store ht hb hy v
  subst hv
  unfold Oper.wp execOp
  simp only [hm, hx, Sem.run_bind, Sem.run_pure, hr, Result.andThen_ok]
  exact hK _ _ (hn w' h3 h4)
end
theorem NRec.ownDrop {recs : List (ByteArray × NRec)} (hn : (recs.map (·.1)).Nodup) (p : ByteArray) {w0 w : World} {l : List Thing} (h : St w0 w (grp (recs.map fun p => p.2.own) :: l)) : St w0 w (grp ((delK recs p).map fun p => p.2.own) :: l) := by
 cases hr : getK recs p with
 | none => rw [delK_none hr]; exact h
 | some r => exact (h.grpPerm ((perm_delK hn hr).map (fun p : ByteArray × NRec => p.2.own))).grpTail
theorem St.putNode {w0 w : World} {tb : Nat} {T U : Tree} {d : TD} {p : ByteArray} {r : NRec} {l : List Thing} (hd : T.nodes = d.recs.map fun p => (p.1, p.2.nd)) (hn : (d.recs.map (·.1)).Nodup)
 (hU : U.nodes = putK T.nodes p r.nd) (hs : U.sessions = T.sessions)
 (h : St w0 w (bx r.b r.cells.toArray 169 :: sl 46 2 r.aa r.nd.acl.length r.ac (r.nd.acl.flatMap ARow.cells) :: bx tb #[.map (some d.mb), .map (some d.sb), .int .i64 U.zxid] 105 :: mpl kbP d.mb (putK (d.recs.map fun p => (p.1, p.2.ptr)) p r.ptr) :: mpl kbI d.sb (T.sessions.map fun p => (p.1, p.2.val)) ::
  grp (d.recs.map fun p => p.2.own) :: l)) : St w0 w (tre tb U :: l) := by
 have h1 : St w0 w (grp (d.recs.map fun p => p.2.own) :: bx r.b r.cells.toArray 169 :: sl 46 2 r.aa r.nd.acl.length r.ac (r.nd.acl.flatMap ARow.cells) :: bx tb #[.map (some d.mb), .map (some d.sb), .int .i64 U.zxid] 105 :: mpl kbP d.mb (putK (d.recs.map fun p => (p.1, p.2.ptr)) p r.ptr) :: mpl kbI d.sb (T.sessions.map fun p => (p.1, p.2.val)) :: l) :=
  h.perm (List.perm_append_comm_assoc [_, _, _, _, _] [_] l)
 have h2 := NRec.ownDrop hn p h1
 have h3 := h2.perm (List.perm_append_comm_assoc [_] [_, _, _, _, _] l)
 have h4 : St w0 w (bx tb #[.map (some d.mb), .map (some d.sb), .int .i64 U.zxid] 105 :: mpl kbP d.mb (putK (d.recs.map fun p => (p.1, p.2.ptr)) p r.ptr) :: mpl kbI d.sb (T.sessions.map fun p => (p.1, p.2.val)) :: bx r.b r.cells.toArray 169 :: sl 46 2 r.aa r.nd.acl.length r.ac (r.nd.acl.flatMap ARow.cells) ::
  grp ((delK d.recs p).map fun p => p.2.own) :: l) := h3.perm (List.perm_append_comm_assoc [_, _] [_, _, _] (_ :: l))
 have h5 := h4.nodeIn
 have hq : (r.own :: ((delK d.recs p).map fun p => p.2.own)).Perm ((putK d.recs p r).map fun p => p.2.own) := ((perm_putK (M := d.recs) p r).symm.map (fun p : ByteArray × NRec => p.2.own))
 have hm : putK (d.recs.map fun p => (p.1, p.2.ptr)) p r.ptr = (putK d.recs p r).map fun p => (p.1, p.2.ptr) := putK_map NRec.ptr d.recs p r
 rw [hm] at h5
 have h6 : St w0 w (grp ((putK d.recs p r).map fun p => p.2.own) :: bx tb #[.map (some d.mb), .map (some d.sb), .int .i64 U.zxid] 105 :: mpl kbP d.mb ((putK d.recs p r).map fun p => (p.1, p.2.ptr)) :: mpl kbI d.sb (T.sessions.map fun p => (p.1, p.2.val)) :: l) :=
  (h5.perm (List.perm_append_comm_assoc [_, _, _] [_] l)).grpPerm hq
 have h7 := h6.perm (List.perm_append_comm_assoc [_] [_, _, _] l)
 rw [← hs] at h7
 refine St.shutTree ⟨d.mb, d.sb, putK d.recs p r⟩ ?_ h7
 rw [hU, hd]
 exact putK_map NRec.nd d.recs p r
theorem St.slice1' {w0 w : World} {l : List Thing} (h : St w0 w l) (c : Array Value) (T : TypeId) (k n : Nat) (hn : c.size = n * k) (hm : n ≤ maxLen) :
 St w0 (w.alloc (.cells c T)) (sl T k (some ⟨w.heap.size, 0, none⟩) n n c.toList :: l) :=
 h.cons (F := fun x => own (some (⟨w.heap.size, 0, none⟩ : Addr)) = some x) ((Mod.refl _ w).alloc _) ⟨Sl.new (heap_alloc_new w _) hn hm, fun _ => Iff.rfl⟩ (fun x hx => Nat.le_of_eq (by simpa [own] using hx))
def PtrPost (t : Nat → Thing) (w : World) (e : Ending) (w' : World) : Prop := ∃ b, e = .returned (.pointer (some ⟨b, 0, none⟩)) ∧ St w w' [t b]
set_option maxHeartbeats 4000000 in
theorem newTree_any (w : World) : Calls Tryz.prog 36 #[] w (PtrPost (fun tb => tre tb Tree.new) w) := by
 have h1 := (St.start w).mapNew kbP
 have h2 := h1.slice1' #[.int .i64 31, .string ⟨#[119, 111, 114, 108, 100]⟩] 46 2 1 rfl (by unfold maxLen; omega)
 have h3 := h2.box1 #[.string ⟨#[]⟩, .slice (some ⟨w.heap.size + 1, 0, none⟩) 1 1, .int .i64 0, .int .i64 0, .int .i64 0, .int .i64 0, .int .i64 0, .int .i64 0, .int .i64 0, .int .i64 0, .int .i64 0] 169
 simp only [World.size_alloc] at h2 h3
 have H3 := Lib.hid h3
 clear h1 h2 h3
 have hmm := @run_makeMap Tryz.prog
 have hu1 := mapNodes
 have hu2 := mapSess
 go_enter Tryz.func36, Tryz.ntmps36
 go_wp2_with (first
  | ((with_reducible refine at_list ?_); refine wpList_insL (B := kbP) mapNodes w.heap.size [] (H3.out.mapL 2 rfl) rfl (by unfold maxLen; decide) rootP rfl (by show 1 ≤ maxLen; unfold maxLen; omega) (.pointer (some ⟨w.heap.size + 1 + 1, 0, none⟩)) rfl ?_; intro w4 hm4 hM4; have H4 := Lib.hid ((((H3.out.remapL 2 rfl hm4 hM4)).mapNew kbI).box1 #[.map (some w.heap.size), .map (some w4.heap.size), .int .i64 0] 105); clear hm4 hM4))
 go_ret
 refine ⟨_, rfl, ?_⟩
 have h5 := H4.out
 simp only [List.set_cons_succ, List.set_cons_zero, World.size_alloc] at h5
 have h6 := St.regrp [] (l := _ :: _) h5
 exact St.putNode (T := ⟨[], [], 0⟩) (U := Tree.new) (d := ⟨w.heap.size, w4.heap.size, []⟩) (p := rootP) (r := ⟨Tree.root0, w.heap.size + 1 + 1, some ⟨w.heap.size + 1, 0, none⟩, 1⟩) rfl (by simp) rfl rfl
  (((((h6.pick 2 rfl).pick 5 rfl).pick 3 rfl).pick 5 rfl).pick 5 rfl)
end Go.Proofs.YtonnbkebjeoflaaGreatDoor
