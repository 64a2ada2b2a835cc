/-
  Laws of PrepF, PrepG.
  Conditions: each law states its own.
-/
import Derived.Test.YtonnbkebjeoflaaGreatDoorJ29
set_option maxHeartbeats 16000000
set_option linter.unusedSectionVars false
set_option linter.unusedSimpArgs false
set_option linter.unusedVariables false
set_option maxRecDepth 100000
namespace Go.Proofs.YtonnbkebjeoflaaGreatDoor
open Go.RowKit Go.Maps
def kindL (w : FuncId) (perm : Int) (s t : FuncId) : List Value := [.func (.func w) #[] #[], .int .i64 perm, .func (.func s) #[] #[], .func (.func t) #[] #[]]
def kSet : List Value := kindL 204 2 203 205
def kAcl : List Value := kindL 206 16 207 208
def kChk : List Value := kindL 209 1 203 210
def kNil : List Value := [Value.nilFunc, .int .i64 0, Value.nilFunc, Value.nilFunc]
def kindOf (k : Int) : List Value × Bool := if k = 3 then (kSet, true) else if k = 4 then (kAcl, true) else if k = 5 then (kChk, true) else (kNil, false)
def kRows : List Value := (.int .i64 3 :: kSet) ++ (.int .i64 4 :: kAcl) ++ (.int .i64 5 :: kChk)
theorem sizeKind : (Tryz.prog.info? 220).map (·.size) = some 4 := by kernel_rfl
theorem sizeRowK : (Tryz.prog.info? 286).map (·.size) = some 5 := by kernel_rfl
theorem box_midT {w : World} {pb : Nat} {T : TypeId} (pre cs post : List Value) (h : w.heap[pb]? = some (.cells (pre ++ cs ++ post).toArray T (0, 0))) : ∀ j u, cs[j]? = some u → w.cell? ((⟨pb, pre.length, none⟩ : Addr).add j) = some u := by
 intro j u hj
 rw [add_none]
 refine blk_cell h _ u ?_
 have hl := (List.getElem?_eq_some_iff.1 hj).1
 rw [List.getElem?_toArray, List.append_assoc, List.getElem?_append_right (by omega), Nat.add_sub_cancel_left, List.getElem?_append_left hl]
 exact hj
theorem kinds_any (k : Int) (w : World) : Calls Tryz.prog 118 #[.int .i64 k] w (CpPost (.tuple #[.agg (kindOf k).1.toArray, .bool (kindOf k).2]) w) := by
 have HS := Lib.hid (((St.start w).box1 #[Value.nilFunc, .int .i64 0, Value.nilFunc, Value.nilFunc] 220).box1 kRows.toArray 286)
 rw [World.size_alloc] at HS
 simp only [kRows, kSet, kAcl, kChk, kindL, List.cons_append, List.nil_append] at HS
 go_enter Tryz.func118, Tryz.ntmps118
 go_upto_region 3 with (fail)
 generalize hW : (w.alloc _).alloc _ = W at HS ⊢
 generalize w.heap.size + 1 = lb at HS ⊢
 generalize w.heap.size = rb at HS ⊢
 clear hW
 go_wp2
 go_loopg [19] 3 (fun g y wr => ∃ i : Nat, i + g = 3 ∧ y = .int .i64 i ∧ St w wr [bx lb kRows.toArray 286, bx rb #[Value.nilFunc, .int .i64 0, Value.nilFunc, Value.nilFunc] 220] ∧ Hid ((0 < i → k ≠ 3) ∧ (1 < i → k ≠ 4) ∧ (2 < i → k ≠ 5)))
 case atStart => exact ⟨0, rfl, rfl, HS.out, Lib.hid (by omega)⟩
 case round =>
  clear HS
  obtain ⟨i, hig, rfl, hS, HNO⟩ := hrel
  have HS := Lib.hid hS
  clear hS
  have hi : i = 0 ∨ i = 1 ∨ i = 2 ∨ i = 3 := by omega
  rcases hi with rfl | rfl | rfl | rfl
  ·have hgk : gk = 3 := by omega
   subst hgk
   by_cases hk : k = 3
   ·subst hk
    have HK : Hid (kindOf 3 = (kSet, true)) := Lib.hid rfl
    go_wp2_with (first
     | ((with_reducible refine at_list ?_); refine wpList_load_chunk 5 _ Tryz.underlying286 rfl sizeRowK ⟨lb, 0, none⟩ rfl (.int .i64 3 :: kSet) rfl (box_midT [] (.int .i64 3 :: kSet) ((.int .i64 4 :: kAcl) ++ (.int .i64 5 :: kChk)) (HS.out.box 0 rfl)) ?_; have HN := Lib.hid (HS.out.box1 #[.int .i64 0, Value.nilFunc, .int .i64 0, Value.nilFunc, Value.nilFunc] 286))
     | ((with_reducible refine at_list ?_); refine wpList_store_whole 5 sizeRowK wr.heap.size rfl _ _ (HN.out.box 0 rfl) rfl (.int .i64 3 :: kSet) rfl rfl rfl ?_; intro w5 hg5 hM5 hz5; have hS5 := HN.out.rebox 0 rfl hg5 hM5; simp only [zB] at hS5; have n0 := blk_cell (hS5.box 0 rfl) 0 (.int .i64 3) rfl; have zn := heap_lt (hS5.box 0 rfl); have HS5 := Lib.hid hS5; clear hg5 hM5 hz5 hS5)
     | ((with_reducible refine at_list ?_); refine wpList_load_chunk 4 _ Tryz.underlying220 rfl sizeKind ⟨wr.heap.size, 1, none⟩ rfl kSet rfl (box_midT [.int .i64 3] kSet [] (HS5.out.box 0 rfl)) ?_)
     | ((with_reducible refine at_list ?_); refine wpList_store_whole 4 sizeKind rb rfl _ _ (HS5.out.box 2 rfl) rfl kSet rfl rfl rfl ?_; intro w6 hg6 hM6 hz6; have HS6 := Lib.hid (HS5.out.rebox 2 rfl hg6 hM6); clear hg6 hM6 hz6))
    refine bodyPost_ret (results_cell_tmp rfl _ w6 rb _ _ _ _ rfl (HS6.out.box 2 rfl) Tryz.underlying220 rfl sizeKind) rfl ?_
    rw [HK.out]
    exact ⟨rfl, HS6.out.1⟩
   ·have g : ((3 : Int) == k) = false := by simp; omega
    go_wp2_with (first
     | ((with_reducible refine at_list ?_); refine wpList_load_chunk 5 _ Tryz.underlying286 rfl sizeRowK ⟨lb, 0, none⟩ rfl (.int .i64 3 :: kSet) rfl (box_midT [] (.int .i64 3 :: kSet) ((.int .i64 4 :: kAcl) ++ (.int .i64 5 :: kChk)) (HS.out.box 0 rfl)) ?_; have HN := Lib.hid (HS.out.box1 #[.int .i64 0, Value.nilFunc, .int .i64 0, Value.nilFunc, Value.nilFunc] 286))
     | ((with_reducible refine at_list ?_); refine wpList_store_whole 5 sizeRowK wr.heap.size rfl _ _ (HN.out.box 0 rfl) rfl (.int .i64 3 :: kSet) rfl rfl rfl ?_; intro w5 hg5 hM5 hz5; have hS5 := HN.out.rebox 0 rfl hg5 hM5; simp only [zB] at hS5; have n0 := blk_cell (hS5.box 0 rfl) 0 (.int .i64 3) rfl; have zn := heap_lt (hS5.box 0 rfl); have HS5 := Lib.hid hS5; clear hg5 hM5 hz5 hS5))
    go_roundg 2
    case measure => omega
    case rel => exact ⟨1, rfl, rfl, HS5.out.tail, Lib.hid (by have := HNO.out; omega)⟩
  ·have hgk : gk = 2 := by omega
   subst hgk
   by_cases hk : k = 4
   ·subst hk
    have HK : Hid (kindOf 4 = (kAcl, true)) := Lib.hid rfl
    go_wp2_with (first
     | ((with_reducible refine at_list ?_); refine wpList_load_chunk 5 _ Tryz.underlying286 rfl sizeRowK ⟨lb, 5, none⟩ rfl (.int .i64 4 :: kAcl) rfl (box_midT (.int .i64 3 :: kSet) (.int .i64 4 :: kAcl) (.int .i64 5 :: kChk) (HS.out.box 0 rfl)) ?_; have HN := Lib.hid (HS.out.box1 #[.int .i64 0, Value.nilFunc, .int .i64 0, Value.nilFunc, Value.nilFunc] 286))
     | ((with_reducible refine at_list ?_); refine wpList_store_whole 5 sizeRowK wr.heap.size rfl _ _ (HN.out.box 0 rfl) rfl (.int .i64 4 :: kAcl) rfl rfl rfl ?_; intro w5 hg5 hM5 hz5; have hS5 := HN.out.rebox 0 rfl hg5 hM5; simp only [zB] at hS5; have n0 := blk_cell (hS5.box 0 rfl) 0 (.int .i64 4) rfl; have zn := heap_lt (hS5.box 0 rfl); have HS5 := Lib.hid hS5; clear hg5 hM5 hz5 hS5)
     | ((with_reducible refine at_list ?_); refine wpList_load_chunk 4 _ Tryz.underlying220 rfl sizeKind ⟨wr.heap.size, 1, none⟩ rfl kAcl rfl (box_midT [.int .i64 4] kAcl [] (HS5.out.box 0 rfl)) ?_)
     | ((with_reducible refine at_list ?_); refine wpList_store_whole 4 sizeKind rb rfl _ _ (HS5.out.box 2 rfl) rfl kAcl rfl rfl rfl ?_; intro w6 hg6 hM6 hz6; have HS6 := Lib.hid (HS5.out.rebox 2 rfl hg6 hM6); clear hg6 hM6 hz6))
    refine bodyPost_ret (results_cell_tmp rfl _ w6 rb _ _ _ _ rfl (HS6.out.box 2 rfl) Tryz.underlying220 rfl sizeKind) rfl ?_
    rw [HK.out]
    exact ⟨rfl, HS6.out.1⟩
   ·have g : ((4 : Int) == k) = false := by simp; omega
    go_wp2_with (first
     | ((with_reducible refine at_list ?_); refine wpList_load_chunk 5 _ Tryz.underlying286 rfl sizeRowK ⟨lb, 5, none⟩ rfl (.int .i64 4 :: kAcl) rfl (box_midT (.int .i64 3 :: kSet) (.int .i64 4 :: kAcl) (.int .i64 5 :: kChk) (HS.out.box 0 rfl)) ?_; have HN := Lib.hid (HS.out.box1 #[.int .i64 0, Value.nilFunc, .int .i64 0, Value.nilFunc, Value.nilFunc] 286))
     | ((with_reducible refine at_list ?_); refine wpList_store_whole 5 sizeRowK wr.heap.size rfl _ _ (HN.out.box 0 rfl) rfl (.int .i64 4 :: kAcl) rfl rfl rfl ?_; intro w5 hg5 hM5 hz5; have hS5 := HN.out.rebox 0 rfl hg5 hM5; simp only [zB] at hS5; have n0 := blk_cell (hS5.box 0 rfl) 0 (.int .i64 4) rfl; have zn := heap_lt (hS5.box 0 rfl); have HS5 := Lib.hid hS5; clear hg5 hM5 hz5 hS5))
    go_roundg 1
    case measure => omega
    case rel => exact ⟨2, rfl, rfl, HS5.out.tail, Lib.hid (by have := HNO.out; omega)⟩
  ·have hgk : gk = 1 := by omega
   subst hgk
   by_cases hk : k = 5
   ·subst hk
    have HK : Hid (kindOf 5 = (kChk, true)) := Lib.hid rfl
    go_wp2_with (first
     | ((with_reducible refine at_list ?_); refine wpList_load_chunk 5 _ Tryz.underlying286 rfl sizeRowK ⟨lb, 10, none⟩ rfl (.int .i64 5 :: kChk) rfl (box_midT ((.int .i64 3 :: kSet) ++ (.int .i64 4 :: kAcl)) (.int .i64 5 :: kChk) [] (HS.out.box 0 rfl)) ?_; have HN := Lib.hid (HS.out.box1 #[.int .i64 0, Value.nilFunc, .int .i64 0, Value.nilFunc, Value.nilFunc] 286))
     | ((with_reducible refine at_list ?_); refine wpList_store_whole 5 sizeRowK wr.heap.size rfl _ _ (HN.out.box 0 rfl) rfl (.int .i64 5 :: kChk) rfl rfl rfl ?_; intro w5 hg5 hM5 hz5; have hS5 := HN.out.rebox 0 rfl hg5 hM5; simp only [zB] at hS5; have n0 := blk_cell (hS5.box 0 rfl) 0 (.int .i64 5) rfl; have zn := heap_lt (hS5.box 0 rfl); have HS5 := Lib.hid hS5; clear hg5 hM5 hz5 hS5)
     | ((with_reducible refine at_list ?_); refine wpList_load_chunk 4 _ Tryz.underlying220 rfl sizeKind ⟨wr.heap.size, 1, none⟩ rfl kChk rfl (box_midT [.int .i64 5] kChk [] (HS5.out.box 0 rfl)) ?_)
     | ((with_reducible refine at_list ?_); refine wpList_store_whole 4 sizeKind rb rfl _ _ (HS5.out.box 2 rfl) rfl kChk rfl rfl rfl ?_; intro w6 hg6 hM6 hz6; have HS6 := Lib.hid (HS5.out.rebox 2 rfl hg6 hM6); clear hg6 hM6 hz6))
    refine bodyPost_ret (results_cell_tmp rfl _ w6 rb _ _ _ _ rfl (HS6.out.box 2 rfl) Tryz.underlying220 rfl sizeKind) rfl ?_
    rw [HK.out]
    exact ⟨rfl, HS6.out.1⟩
   ·have g : ((5 : Int) == k) = false := by simp; omega
    go_wp2_with (first
     | ((with_reducible refine at_list ?_); refine wpList_load_chunk 5 _ Tryz.underlying286 rfl sizeRowK ⟨lb, 10, none⟩ rfl (.int .i64 5 :: kChk) rfl (box_midT ((.int .i64 3 :: kSet) ++ (.int .i64 4 :: kAcl)) (.int .i64 5 :: kChk) [] (HS.out.box 0 rfl)) ?_; have HN := Lib.hid (HS.out.box1 #[.int .i64 0, Value.nilFunc, .int .i64 0, Value.nilFunc, Value.nilFunc] 286))
     | ((with_reducible refine at_list ?_); refine wpList_store_whole 5 sizeRowK wr.heap.size rfl _ _ (HN.out.box 0 rfl) rfl (.int .i64 5 :: kChk) rfl rfl rfl ?_; intro w5 hg5 hM5 hz5; have hS5 := HN.out.rebox 0 rfl hg5 hM5; simp only [zB] at hS5; have n0 := blk_cell (hS5.box 0 rfl) 0 (.int .i64 5) rfl; have zn := heap_lt (hS5.box 0 rfl); have HS5 := Lib.hid hS5; clear hg5 hM5 hz5 hS5))
    go_roundg 0
    case measure => omega
    case rel => exact ⟨3, rfl, rfl, HS5.out.tail, Lib.hid (by have := HNO.out; omega)⟩
  ·have HK : Hid (kindOf k = (kNil, false)) := Lib.hid (by have := HNO.out; unfold kindOf; rw [if_neg (by omega), if_neg (by omega), if_neg (by omega)])
   go_wp2_with ((with_reducible refine at_list ?_); refine wpList_store_whole 4 sizeKind rb rfl _ _ (HS.out.box 1 rfl) rfl kNil rfl rfl rfl ?_; intro w6 hg6 hM6 hz6; have HS6 := Lib.hid (HS.out.rebox 1 rfl hg6 hM6); clear hg6 hM6 hz6)
   refine bodyPost_ret (results_cell_tmp rfl _ w6 rb _ _ _ _ rfl (HS6.out.box 1 rfl) Tryz.underlying220 rfl sizeKind) rfl ?_
   rw [HK.out]
   exact ⟨rfl, HS6.out.1⟩
theorem yieldsT {P : Program} {ops : Array Oper} {S : World → Prop} {o : Oper} {a : Act} {ty : TypeId} {x : Operand} (k : Nat) (d : TypeDesc) (hw : Region.wanted o (yielded ops a.tmps) = true) (ho : o.op = .load ty x)
 (hu : P.underlying ty = some d) (hd : (match d with | .struct _ | .array _ _ => true | _ => false) = true) (hi : (P.info? ty).map (·.size) = some k) (b : Nat) (hx : a.eval x = .pointer (some ⟨b, 0, none⟩)) (cs : List Value) (hl : cs.length = k) (T : TypeId)
 (hS : ∀ w, S w → w.heap[b]? = some (.cells cs.toArray T (0, 0))) : YieldsIf P ops S o (.agg cs.toArray) a :=
 Or.inl ⟨hw, fun w h => by
  have hr := run_loadAt_chunk (P := P) w ty k d hu hd hi ⟨b, 0, none⟩ cs hl (box_chunk0 (hS w h))
  unfold execOp
  simp only [ho, hx, Sem.run_bind, Sem.run_pure, hr, Result.andThen_ok]⟩
theorem when_same (b : Bool) (e : Int) (w : World) : Calls Tryz.prog 124 #[.bool b, .int .i64 e] w (fun en w' => en = .returned (.int .i64 (whenE b e)) ∧ w' = w) := by
 cases b
 all_goals
  go_enter Tryz.func124, Tryz.ntmps124
  go_wp2
  go_ret
  exact ⟨rfl, rfl⟩
structure KindOk (q : WishR) (s : St7) (ln kn : Int) (w : World) (W S T : FuncId) (we stamp : Int) (x : Tx) : Prop where
 ew : ∀ args w, (callFunc W args).run Tryz.prog w = .ok (.enter W args) w
 cw : ∀ w', Mod (fun _ => False) w w' → Calls Tryz.prog W #[.agg q.cells.toArray] w' (CpPost (.int .i64 we) w')
 es : ∀ args w, (callFunc S args).run Tryz.prog w = .ok (.enter S args) w
 cs : ∀ w', Mod (fun _ => False) w w' → Calls Tryz.prog S #[.agg (s.vals ln kn).toArray] w' (CpPost (.int .i64 stamp) w')
 et : ∀ args w, (callFunc T args).run Tryz.prog w = .ok (.enter T args) w
 ct : ∀ w', Mod (fun _ => False) w w' → Calls Tryz.prog T #[.agg q.cells.toArray, .int .i64 stamp] w' (TnPost x w')
theorem KindOk.old {q : WishR} {s : St7} {ln kn : Int} {w w' : World} {W S T : FuncId} {we stamp : Int} {x : Tx} (h : KindOk q s ln kn w W S T we stamp x) (k : Mod (fun _ => False) w w') : KindOk q s ln kn w' W S T we stamp x :=
 ⟨h.ew, fun v m => h.cw v (k.then m (fun _ _ h => h)), h.es, fun v m => h.cs v (k.then m (fun _ _ h => h)), h.et, fun v m => h.ct v (k.then m (fun _ _ h => h))⟩
section
variable (w : World) (q : WishR) (xb kb sb : Nat) (W S T : FuncId) (perm we stamp ln kn : Int) (s : St7) (x : Tx)
variable (hb : w.heap[xb]? = some (.cells q.carr 144 (0, 0))) (hk : w.heap[kb]? = some (.cells (kindL W perm S T).toArray 220 (0, 0))) (hs : w.heap[sb]? = some (.cells (s.vals ln kn).toArray 29 (0, 0)))
variable (hq : q.ok w) (hf : q.fit) (ho : KindOk q s ln kn w W S T we stamp x)
include hb hk ho
theorem cl_part2 : Clos w (.func (.func 122) #[] #[.pointer (some ⟨kb, 0, none⟩), .pointer (some ⟨xb, 0, none⟩)]) we := by
 refine ⟨_, _, rfl, enters_of Tryz.func122 (by kernel_rfl) rfl, fun w' hm => ?_⟩
 have HCH := Lib.hid (wish_chunk (hm.heap hb id))
 have c0 := blk_cell (hm.heap hk id) 0 (.func (.func W) #[] #[]) rfl
 have zk := heap_lt (hm.heap hk id)
 have ew := ho.ew
 have CW := Lib.hid (ho.cw w' hm)
 clear hb hk ho
 go_enter Tryz.func122, Tryz.ntmps122
 go_wp2_with (first
  | ((with_reducible refine at_list ?_); refine wpList_load_chunk 13 _ Tryz.underlying144 rfl sizeWish ⟨xb, 0, none⟩ rfl q.cells rfl HCH.out ?_)
  | (go_at_fn W; refine CW.out.mono ?_; rintro e v ⟨rfl, hM⟩))
 go_ret
 exact ⟨rfl, hM⟩
include hq hf in
theorem cl_part4 : Clos w (.func (.func 125) #[] #[.pointer (some ⟨xb, 0, none⟩), .pointer (some ⟨kb, 0, none⟩)]) (whenE (!q.T.mayAt q.ids q.r.path perm) 65) := by
 refine ⟨_, _, rfl, enters_of Tryz.func125 (by kernel_rfl) rfl, fun w' hm => ?_⟩
 have HCH := Lib.hid (wish_chunk (hm.heap hb id))
 have c5 := blk_cell (hm.heap hb id) 5 (.string q.r.path) rfl
 have zx := heap_lt (hm.heap hb id)
 have c1 := blk_cell (hm.heap hk id) 1 (.int .i64 perm) rfl
 have zk := heap_lt (hm.heap hk id)
 have CM := Lib.hid (mayW_any q w' (hq.old hm) hf q.r.path (by have := hf.path; unfold maxLen; omega) perm)
 clear hb hk ho hq hf
 go_enter Tryz.func125, Tryz.ntmps125
 go_wp2_with (first
  | ((with_reducible refine at_list ?_); refine wpList_load_chunk 13 _ Tryz.underlying144 rfl sizeWish ⟨xb, 0, none⟩ rfl q.cells rfl HCH.out ?_)
  | (go_at_call 126; refine CM.out.mono ?_; rintro e v1 ⟨rfl, hM1⟩)
  | (go_at_call 124; refine (when_any _ _ _).mono ?_; rintro e v2 ⟨rfl, hM2⟩))
 go_ret
 exact ⟨rfl, hM1.then hM2 (fun _ _ h => h)⟩
include hs in
theorem cl_part5 : Clos w (.func (.func 127) #[] #[.pointer (some ⟨xb, 0, none⟩), .pointer (some ⟨kb, 0, none⟩), .pointer (some ⟨sb, 0, none⟩)]) (whenE (decide (q.r.version ≠ -1) && decide (q.r.version ≠ stamp)) 66) := by
 refine ⟨_, _, rfl, enters_of Tryz.func127 (by kernel_rfl) rfl, fun w' hm => ?_⟩
 have c9 := blk_cell (hm.heap hb id) 9 (.int .i64 q.r.version) rfl
 have zx := heap_lt (hm.heap hb id)
 have c2 := blk_cell (hm.heap hk id) 2 (.func (.func S) #[] #[]) rfl
 have zk := heap_lt (hm.heap hk id)
 have HB := Lib.hid (And.intro (hm.heap hb id) (And.intro (hm.heap hk id) (hm.heap hs id)))
 have es := ho.es
 have CS : Hid (∀ W', Mod (fun _ => False) w' W' → Calls Tryz.prog S #[.agg (s.vals ln kn).toArray] W' (CpPost (.int .i64 stamp) W')) := Lib.hid fun W' m => ho.cs W' (hm.then m (fun _ _ h => h))
 clear hb hk ho hs
 obtain ⟨ver, hver⟩ : ∃ v, q.r.version = v := ⟨_, rfl⟩
 rw [hver] at c9 ⊢
 clear hver
 by_cases h1 : ver = -1
 ·have g1 : (ver != -1) = false := by simpa using h1
  have HC : Hid (decide (ver ≠ -1) = false) := Lib.hid (by simpa using h1)
  clear h1
  go_enter Tryz.func127, Tryz.ntmps127
  go_upto_region 1 with (fail)
  go_quiet ((go_at_call 124; exact Calls.quiet_of_same (when_same _ _ _)))
  go_wp2
  go_ret
  exact ⟨by rw [HC.out]; rfl, (Mod.refl _ w').drewN nq⟩
 ·have g1 : (ver != -1) = true := by simpa using h1
  have HC : Hid (decide (ver ≠ -1) = true) := Lib.hid (by simpa using h1)
  have KP : Hid (∀ v, Mod (fun _ => False) w' v → v.cell? ⟨xb, 9, none⟩ = some (.int .i64 ver) ∧ v.cell? ⟨kb, 2, none⟩ = some (.func (.func S) #[] #[]) ∧ v.cell? ⟨sb, 0, none⟩ = some (.int .i64 s.czxid) ∧ v.cell? ⟨sb, 1, none⟩ = some (.int .i64 s.mzxid) ∧ v.cell? ⟨sb, 2, none⟩ = some (.int .i64 s.pzxid) ∧ v.cell? ⟨sb, 3, none⟩ = some (.int .i64 s.version) ∧ v.cell? ⟨sb, 4, none⟩ = some (.int .i64 s.cversion) ∧ v.cell? ⟨sb, 5, none⟩ = some (.int .i64 s.aversion) ∧ v.cell? ⟨sb, 6, none⟩ = some (.int .i64 s.owner) ∧ v.cell? ⟨sb, 7, none⟩ = some (.int .i64 ln) ∧ v.cell? ⟨sb, 8, none⟩ = some (.int .i64 kn)) := Lib.hid fun v k => ⟨k.cell c9 id, k.cell c2 id, blk_cell (k.heap HB.out.2.2 id) 0 _ rfl, blk_cell (k.heap HB.out.2.2 id) 1 _ rfl, blk_cell (k.heap HB.out.2.2 id) 2 _ rfl, blk_cell (k.heap HB.out.2.2 id) 3 _ rfl, blk_cell (k.heap HB.out.2.2 id) 4 _ rfl, blk_cell (k.heap HB.out.2.2 id) 5 _ rfl, blk_cell (k.heap HB.out.2.2 id) 6 _ rfl, blk_cell (k.heap HB.out.2.2 id) 7 _ rfl, blk_cell (k.heap HB.out.2.2 id) 8 _ rfl⟩
  have zs := heap_lt HB.out.2.2
  clear h1
  go_enter Tryz.func127, Tryz.ntmps127
  go_upto_region 1 with (fail)
  go_region_held3 (fun v => v.cell? ⟨xb, 9, none⟩ = some (.int .i64 ver) ∧ v.cell? ⟨kb, 2, none⟩ = some (.func (.func S) #[] #[]) ∧ v.cell? ⟨sb, 0, none⟩ = some (.int .i64 s.czxid) ∧ v.cell? ⟨sb, 1, none⟩ = some (.int .i64 s.mzxid) ∧ v.cell? ⟨sb, 2, none⟩ = some (.int .i64 s.pzxid) ∧ v.cell? ⟨sb, 3, none⟩ = some (.int .i64 s.version) ∧ v.cell? ⟨sb, 4, none⟩ = some (.int .i64 s.cversion) ∧ v.cell? ⟨sb, 5, none⟩ = some (.int .i64 s.aversion) ∧ v.cell? ⟨sb, 6, none⟩ = some (.int .i64 s.owner) ∧ v.cell? ⟨sb, 7, none⟩ = some (.int .i64 ln) ∧ v.cell? ⟨sb, 8, none⟩ = some (.int .i64 kn))
   (first | exact KP.out _ (Mod.refl _ _) | exact KP.out _ ((Mod.refl _ _).drew) | exact KP.out _ hMa | exact KP.out _ hMb)
   (first
    | (go_at_fn S; refine (CS.out _ (by first | exact (Mod.refl _ _) | exact (Mod.refl _ _).drew)).mono ?_; rintro e v1 ⟨rfl, hM1⟩; have hMa := (((Mod.refl (fun _ => False) w').drew).then hM1 (fun _ _ h => h)); clear hM1)
    | (go_at_call 124; refine (when_any _ _ _).mono ?_; rintro e v2 ⟨rfl, hM2⟩; have hMb := hMa.then hM2 (fun _ _ h => h)))
  all_goals
   go_wp2
   go_ret
   exact ⟨by rw [HC.out, show decide (ver ≠ stamp) = (ver != stamp) by simp [bne, Bool.beq_eq_decide_eq]]; rfl, hMb⟩
end
end Go.Proofs.YtonnbkebjeoflaaGreatDoor
