/-
  Contracts and plain laws of PrepB.
  Conditions: each law states its own.
-/
import Derived.Test.YtonnbkebjeoflaaGreatDoorJ18
import Derived.Test.YtonnbkebjeoflaaGreatDoorJ26
set_option linter.unusedSectionVars false
set_option linter.unusedSimpArgs false
set_option linter.unusedVariables false
set_option maxRecDepth 100000
namespace Go.Proofs.YtonnbkebjeoflaaGreatDoor
open Go.RowKit Go.Maps
theorem right_anyW (q : WishR) (w : World) (hq : q.ok w) (hf : q.fit) : Calls Tryz.prog 189 #[.slice q.aa q.r.acl.length q.ac] w (CpPost (.bool (A.rightL q.r.acl)) w) :=
 (A.right_any q.aa q.r.acl.length q.ac q.r.acl w hq.acl rfl hf.rows).mono fun e w' h => h
theorem wish_chunk {q : WishR} {w : World} {xb : Nat} (h : w.heap[xb]? = some (.cells q.carr 144 (0, 0))) : ∀ j u, q.cells[j]? = some u → w.cell? ((⟨xb, 0, none⟩ : Addr).add j) = some u := box_chunk0 (by rw [carr_eq]; exact h)
theorem wpList_load_chunkG {P : Program} {ops : Array Oper} {rest : List Oper} {dst : Option Tmp} {ty0 : TypeId} {pos : String} {after : Array Edge} {a : Act} {w : World} {Q : Exit → Act → World → Prop} {ty : TypeId} {x : Operand} (k : Nat) (d : TypeDesc) (hu : P.underlying ty = some d) (hd : (match d with | .struct _ | .array _ _ => true | _ => false) = true) (hi : (P.info? ty).map (·.size) = some k)
 (ad : Addr) (hx : a.eval x = .pointer (some ad)) (cs : List Value) (hl : cs.length = k) (hc : ∀ j u, cs[j]? = some u → w.cell? (ad.add j) = some u) {gd : Option (Nat × Bool)} (hw : Region.wanted ⟨dst, .load ty x, ty0, pos, after, gd⟩ (yielded ops a.tmps) = true)
 (h : wpList P ops Q rest (a.put dst (.agg cs.toArray)) w) : wpList P ops Q (⟨dst, .load ty x, ty0, pos, after, gd⟩ :: rest) a w := by
 unfold wpList
 rw [if_pos hw]
 refine .inl ?_
 have hr := run_loadAt_chunk (P := P) w ty k d hu hd hi ad cs hl hc
 unfold Oper.wp execOp
 simp only [hx, Sem.run_bind, Sem.run_pure, hr, Result.andThen_ok]
 exact h
def Var1 (w : World) (b : Nat) (v : Value) : Prop := ∃ T, w.heap[b]? = some (.cells #[v] T (0, 0))
theorem Var1.cell {w : World} {b : Nat} {v : Value} (h : Var1 w b v) : w.cell? ⟨b, 0, none⟩ = some v ∧ b < w.heap.size := by
 obtain ⟨T, h⟩ := h
 exact ⟨blk_cell h 0 v rfl, heap_lt h⟩
theorem Var1.old {w w' : World} {b : Nat} {v : Value} (h : Var1 w b v) (k : Mod (fun _ => False) w w') : Var1 w' b v := by
 obtain ⟨T, h⟩ := h
 exact ⟨T, k.heap h id⟩
set_option maxHeartbeats 2000000 in
theorem cl_create1 (w : World) (q : WishR) (xb : Nat) (hb : w.heap[xb]? = some (.cells q.carr 144 (0, 0))) (hq : q.ok w) (hf : q.fit) :
 Clos w (.func (.func 186) #[] #[.pointer (some ⟨xb, 0, none⟩)]) (checkB q.r.path) := by
 refine ⟨_, _, rfl, enters_of Tryz.func186 (by kernel_rfl) rfl, fun w' hm => ?_⟩
 have hb' := hm.heap hb id
 have zb := heap_lt hb'
 have hQ := hq.old hm
 have c_path := blk_cell hb' 5 (.string q.r.path) rfl
 have CC : Hid (∀ W, Mod (fun _ => False) w' W → Calls Tryz.prog 121 #[.string q.r.path] W (CpPost (.int .i64 (checkB q.r.path)) W)) := Lib.hid fun W k => checkP_any q.r.path (by have := hf.path; omega) W (hQ.env.rdy.old k)
 clear hb' hQ hq hf hb
 go_enter Tryz.func186, Tryz.ntmps186
 go_wp2_with (go_at_call 121; refine (CC.out _ (Mod.refl _ _)).mono ?_; rintro e v0 ⟨rfl, hM0⟩)
 go_ret
 exact ⟨rfl, (by first | exact Mod.refl _ _ | exact hM0 | exact hM1 | exact hM2 | exact Mod.then hM0 hM1 (fun _ _ h => h) | exact Mod.then hM1 hM2 (fun _ _ h => h))⟩
set_option maxHeartbeats 2000000 in
theorem cl_erase1 (w : World) (q : WishR) (xb : Nat) (hb : w.heap[xb]? = some (.cells q.carr 144 (0, 0))) (hq : q.ok w) (hf : q.fit) :
 Clos w (.func (.func 197) #[] #[.pointer (some ⟨xb, 0, none⟩)]) (checkB q.r.path) := by
 refine ⟨_, _, rfl, enters_of Tryz.func197 (by kernel_rfl) rfl, fun w' hm => ?_⟩
 have hb' := hm.heap hb id
 have zb := heap_lt hb'
 have hQ := hq.old hm
 have c_path := blk_cell hb' 5 (.string q.r.path) rfl
 have CC : Hid (∀ W, Mod (fun _ => False) w' W → Calls Tryz.prog 121 #[.string q.r.path] W (CpPost (.int .i64 (checkB q.r.path)) W)) := Lib.hid fun W k => checkP_any q.r.path (by have := hf.path; omega) W (hQ.env.rdy.old k)
 clear hb' hQ hq hf hb
 go_enter Tryz.func197, Tryz.ntmps197
 go_wp2_with (go_at_call 121; refine (CC.out _ (Mod.refl _ _)).mono ?_; rintro e v0 ⟨rfl, hM0⟩)
 go_ret
 exact ⟨rfl, (by first | exact Mod.refl _ _ | exact hM0 | exact hM1 | exact hM2 | exact Mod.then hM0 hM1 (fun _ _ h => h) | exact Mod.then hM1 hM2 (fun _ _ h => h))⟩
set_option maxHeartbeats 2000000 in
theorem cl_part1 (w : World) (q : WishR) (xb : Nat) (hb : w.heap[xb]? = some (.cells q.carr 144 (0, 0))) (hq : q.ok w) (hf : q.fit) :
 Clos w (.func (.func 120) #[] #[.pointer (some ⟨xb, 0, none⟩)]) (checkB q.r.path) := by
 refine ⟨_, _, rfl, enters_of Tryz.func120 (by kernel_rfl) rfl, fun w' hm => ?_⟩
 have hb' := hm.heap hb id
 have zb := heap_lt hb'
 have hQ := hq.old hm
 have c_path := blk_cell hb' 5 (.string q.r.path) rfl
 have CC : Hid (∀ W, Mod (fun _ => False) w' W → Calls Tryz.prog 121 #[.string q.r.path] W (CpPost (.int .i64 (checkB q.r.path)) W)) := Lib.hid fun W k => checkP_any q.r.path (by have := hf.path; omega) W (hQ.env.rdy.old k)
 clear hb' hQ hq hf hb
 go_enter Tryz.func120, Tryz.ntmps120
 go_wp2_with (go_at_call 121; refine (CC.out _ (Mod.refl _ _)).mono ?_; rintro e v0 ⟨rfl, hM0⟩)
 go_ret
 exact ⟨rfl, (by first | exact Mod.refl _ _ | exact hM0 | exact hM1 | exact hM2 | exact Mod.then hM0 hM1 (fun _ _ h => h) | exact Mod.then hM1 hM2 (fun _ _ h => h))⟩
set_option maxHeartbeats 2000000 in
theorem cl_create3 (w : World) (q : WishR) (xb : Nat) (hb : w.heap[xb]? = some (.cells q.carr 144 (0, 0))) (hq : q.ok w) (hf : q.fit) :
 Clos w (.func (.func 188) #[] #[.pointer (some ⟨xb, 0, none⟩)]) (whenE (!A.rightL q.r.acl) 50) := by
 refine ⟨_, _, rfl, enters_of Tryz.func188 (by kernel_rfl) rfl, fun w' hm => ?_⟩
 have hb' := hm.heap hb id
 have zb := heap_lt hb'
 have hQ := hq.old hm
 have c_acl := blk_cell hb' 7 (.slice q.aa q.r.acl.length q.ac) rfl
 have CC := Lib.hid (right_anyW q w' hQ hf)
 clear hb' hQ hq hf hb
 go_enter Tryz.func188, Tryz.ntmps188
 go_wp2_with (first
  | (go_at_call 189; refine (CC.out).mono ?_; rintro e v0 ⟨rfl, hM0⟩)
  | (go_at_call 124; refine (when_any _ _ _).mono ?_; rintro e v1 ⟨rfl, hM1⟩))
 go_ret
 exact ⟨rfl, (by first | exact Mod.refl _ _ | exact hM0 | exact hM1 | exact hM2 | exact Mod.then hM0 hM1 (fun _ _ h => h) | exact Mod.then hM1 hM2 (fun _ _ h => h))⟩
set_option maxHeartbeats 2000000 in
theorem cl_create4 (w : World) (vb : Nat) (is : Bool) (hv : Var1 w vb (.bool is)) :
 Clos w (.func (.func 190) #[] #[.pointer (some ⟨vb, 0, none⟩)]) (whenE (!is) 60) := by
 refine ⟨_, _, rfl, enters_of Tryz.func190 (by kernel_rfl) rfl, fun w' hm => ?_⟩
 obtain ⟨cv, zv⟩ := (hv.old hm).cell
 clear hv
 go_enter Tryz.func190, Tryz.ntmps190
 go_wp2_with (go_at_call 124; refine (when_any _ _ _).mono ?_; rintro e v0 ⟨rfl, hM0⟩)
 go_ret
 exact ⟨rfl, (by first | exact Mod.refl _ _ | exact hM0 | exact hM1 | exact hM2 | exact Mod.then hM0 hM1 (fun _ _ h => h) | exact Mod.then hM1 hM2 (fun _ _ h => h))⟩
set_option maxHeartbeats 2000000 in
theorem cl_erase3 (w : World) (vb : Nat) (is : Bool) (hv : Var1 w vb (.bool is)) :
 Clos w (.func (.func 199) #[] #[.pointer (some ⟨vb, 0, none⟩)]) (whenE (!is) 60) := by
 refine ⟨_, _, rfl, enters_of Tryz.func199 (by kernel_rfl) rfl, fun w' hm => ?_⟩
 obtain ⟨cv, zv⟩ := (hv.old hm).cell
 clear hv
 go_enter Tryz.func199, Tryz.ntmps199
 go_wp2_with (go_at_call 124; refine (when_any _ _ _).mono ?_; rintro e v0 ⟨rfl, hM0⟩)
 go_ret
 exact ⟨rfl, (by first | exact Mod.refl _ _ | exact hM0 | exact hM1 | exact hM2 | exact Mod.then hM0 hM1 (fun _ _ h => h) | exact Mod.then hM1 hM2 (fun _ _ h => h))⟩
set_option maxHeartbeats 2000000 in
theorem cl_part3 (w : World) (vb : Nat) (is : Bool) (hv : Var1 w vb (.bool is)) :
 Clos w (.func (.func 123) #[] #[.pointer (some ⟨vb, 0, none⟩)]) (whenE (!is) 60) := by
 refine ⟨_, _, rfl, enters_of Tryz.func123 (by kernel_rfl) rfl, fun w' hm => ?_⟩
 obtain ⟨cv, zv⟩ := (hv.old hm).cell
 clear hv
 go_enter Tryz.func123, Tryz.ntmps123
 go_wp2_with (go_at_call 124; refine (when_any _ _ _).mono ?_; rintro e v0 ⟨rfl, hM0⟩)
 go_ret
 exact ⟨rfl, (by first | exact Mod.refl _ _ | exact hM0 | exact hM1 | exact hM2 | exact Mod.then hM0 hM1 (fun _ _ h => h) | exact Mod.then hM1 hM2 (fun _ _ h => h))⟩
set_option maxHeartbeats 2000000 in
theorem cl_read1 (w : World) (vb : Nat) (is : Bool) (hv : Var1 w vb (.bool is)) :
 Clos w (.func (.func 132) #[] #[.pointer (some ⟨vb, 0, none⟩)]) (whenE (!is) 110) := by
 refine ⟨_, _, rfl, enters_of Tryz.func132 (by kernel_rfl) rfl, fun w' hm => ?_⟩
 obtain ⟨cv, zv⟩ := (hv.old hm).cell
 clear hv
 go_enter Tryz.func132, Tryz.ntmps132
 go_wp2_with (go_at_call 124; refine (when_any _ _ _).mono ?_; rintro e v0 ⟨rfl, hM0⟩)
 go_ret
 exact ⟨rfl, (by first | exact Mod.refl _ _ | exact hM0 | exact hM1 | exact hM2 | exact Mod.then hM0 hM1 (fun _ _ h => h) | exact Mod.then hM1 hM2 (fun _ _ h => h))⟩
set_option maxHeartbeats 2000000 in
theorem cl_create5 (w : World) (sb : Nat) (s : St7) (len kn : Int) (hs : w.heap[sb]? = some (.cells (s.vals len kn).toArray 29 (0, 0))) :
 Clos w (.func (.func 191) #[] #[.pointer (some ⟨sb, 0, none⟩)]) (whenE (decide (s.owner ≠ 0)) 63) := by
 refine ⟨_, _, rfl, enters_of Tryz.func191 (by kernel_rfl) rfl, fun w' hm => ?_⟩
 have hs' := hm.heap hs id
 have c6 := blk_cell hs' 6 (.int .i64 s.owner) rfl
 have zs := heap_lt hs'
 clear hs hs'
 go_enter Tryz.func191, Tryz.ntmps191
 go_wp2_with (go_at_call 124; refine (when_any _ _ _).mono ?_; rintro e v0 ⟨rfl, hM0⟩)
 go_ret
 exact ⟨by rw [show decide (s.owner ≠ 0) = (s.owner != 0) by simp [bne, Bool.beq_eq_decide_eq]]; rfl, (by first | exact Mod.refl _ _ | exact hM0 | exact hM1 | exact hM2 | exact Mod.then hM0 hM1 (fun _ _ h => h) | exact Mod.then hM1 hM2 (fun _ _ h => h))⟩
set_option maxHeartbeats 2000000 in
theorem cl_erase6 (w : World) (sb : Nat) (s : St7) (len kn : Int) (hs : w.heap[sb]? = some (.cells (s.vals len kn).toArray 29 (0, 0))) :
 Clos w (.func (.func 202) #[] #[.pointer (some ⟨sb, 0, none⟩)]) (whenE (decide (0 < kn)) 62) := by
 refine ⟨_, _, rfl, enters_of Tryz.func202 (by kernel_rfl) rfl, fun w' hm => ?_⟩
 have hs' := hm.heap hs id
 have c8 := blk_cell hs' 8 (.int .i64 kn) rfl
 have zs := heap_lt hs'
 clear hs hs'
 go_enter Tryz.func202, Tryz.ntmps202
 go_wp2_with (go_at_call 124; refine (when_any _ _ _).mono ?_; rintro e v0 ⟨rfl, hM0⟩)
 go_ret
 exact ⟨rfl, (by first | exact Mod.refl _ _ | exact hM0 | exact hM1 | exact hM2 | exact Mod.then hM0 hM1 (fun _ _ h => h) | exact Mod.then hM1 hM2 (fun _ _ h => h))⟩
set_option maxHeartbeats 2000000 in
theorem cl_create6 (w : World) (q : WishR) (xb : Nat) (hb : w.heap[xb]? = some (.cells q.carr 144 (0, 0))) (hq : q.ok w) (hf : q.fit) (vb : Nat) (up : ByteArray) (hv : Var1 w vb (.string up)) (hu : up.size ≤ maxLen) :
 Clos w (.func (.func 192) #[] #[.pointer (some ⟨xb, 0, none⟩), .pointer (some ⟨vb, 0, none⟩)]) (whenE (!q.T.mayAt q.ids up 4) 65) := by
 refine ⟨_, _, rfl, enters_of Tryz.func192 (by kernel_rfl) rfl, fun w' hm => ?_⟩
 have hb' := hm.heap hb id
 have zb := heap_lt hb'
 have hQ := hq.old hm
 have HCH := Lib.hid (wish_chunk hb')
 obtain ⟨cv, zv⟩ := (hv.old hm).cell
 have CC := Lib.hid (mayW_any q w' hQ hf up hu 4)
 clear hb' hQ hq hf hb hv hu
 go_enter Tryz.func192, Tryz.ntmps192
 go_wp2_with (first
  | ((with_reducible refine at_list ?_); refine wpList_load_chunk 13 _ Tryz.underlying144 rfl sizeWish ⟨xb, 0, none⟩ rfl q.cells rfl HCH.out ?_)
  | (go_at_call 126; refine (CC.out).mono ?_; rintro e v1 ⟨rfl, hM1⟩)
  | (go_at_call 124; refine (when_any _ _ _).mono ?_; rintro e v2 ⟨rfl, hM2⟩))
 go_ret
 exact ⟨rfl, (by first | exact Mod.refl _ _ | exact hM0 | exact hM1 | exact hM2 | exact Mod.then hM0 hM1 (fun _ _ h => h) | exact Mod.then hM1 hM2 (fun _ _ h => h))⟩
set_option maxHeartbeats 2000000 in
theorem cl_erase4 (w : World) (q : WishR) (xb : Nat) (hb : w.heap[xb]? = some (.cells q.carr 144 (0, 0))) (hq : q.ok w) (hf : q.fit) (vb : Nat) (up : ByteArray) (hv : Var1 w vb (.string up)) (hu : up.size ≤ maxLen) :
 Clos w (.func (.func 200) #[] #[.pointer (some ⟨xb, 0, none⟩), .pointer (some ⟨vb, 0, none⟩)]) (whenE (!q.T.mayAt q.ids up 8) 65) := by
 refine ⟨_, _, rfl, enters_of Tryz.func200 (by kernel_rfl) rfl, fun w' hm => ?_⟩
 have hb' := hm.heap hb id
 have zb := heap_lt hb'
 have hQ := hq.old hm
 have HCH := Lib.hid (wish_chunk hb')
 obtain ⟨cv, zv⟩ := (hv.old hm).cell
 have CC := Lib.hid (mayW_any q w' hQ hf up hu 8)
 clear hb' hQ hq hf hb hv hu
 go_enter Tryz.func200, Tryz.ntmps200
 go_wp2_with (first
  | ((with_reducible refine at_list ?_); refine wpList_load_chunk 13 _ Tryz.underlying144 rfl sizeWish ⟨xb, 0, none⟩ rfl q.cells rfl HCH.out ?_)
  | (go_at_call 126; refine (CC.out).mono ?_; rintro e v1 ⟨rfl, hM1⟩)
  | (go_at_call 124; refine (when_any _ _ _).mono ?_; rintro e v2 ⟨rfl, hM2⟩))
 go_ret
 exact ⟨rfl, (by first | exact Mod.refl _ _ | exact hM0 | exact hM1 | exact hM2 | exact Mod.then hM0 hM1 (fun _ _ h => h) | exact Mod.then hM1 hM2 (fun _ _ h => h))⟩
set_option maxHeartbeats 2000000 in
theorem cl_create7 (w : World) (vb : Nat) (whole : ByteArray) (hv : Var1 w vb (.string whole)) (hu : whole.size ≤ 4000000000) (he : Rdy w) :
 Clos w (.func (.func 193) #[] #[.pointer (some ⟨vb, 0, none⟩)]) (whenE (decide (checkB whole ≠ 0)) 41) := by
 refine ⟨_, _, rfl, enters_of Tryz.func193 (by kernel_rfl) rfl, fun w' hm => ?_⟩
 obtain ⟨cv, zv⟩ := (hv.old hm).cell
 have CC := Lib.hid (checkP_any whole hu w' (he.old hm))
 clear hv hu he
 go_enter Tryz.func193, Tryz.ntmps193
 go_wp2_with (first
  | (go_at_call 121; refine (CC.out).mono ?_; rintro e v0 ⟨rfl, hM0⟩)
  | (go_at_call 124; refine (when_any _ _ _).mono ?_; rintro e v1 ⟨rfl, hM1⟩))
 go_ret
 exact ⟨by rw [show decide (checkB whole ≠ 0) = (checkB whole != 0) by simp [bne, Bool.beq_eq_decide_eq]]; rfl, (by first | exact Mod.refl _ _ | exact hM0 | exact hM1 | exact hM2 | exact Mod.then hM0 hM1 (fun _ _ h => h) | exact Mod.then hM1 hM2 (fun _ _ h => h))⟩
set_option maxHeartbeats 2000000 in
theorem cl_create8 (w : World) (q : WishR) (xb : Nat) (hb : w.heap[xb]? = some (.cells q.carr 144 (0, 0))) (hq : q.ok w) (hf : q.fit) (vb : Nat) (up : ByteArray) (hv : Var1 w vb (.string up)) (hu : up.size ≤ maxLen) :
 Clos w (.func (.func 194) #[] #[.pointer (some ⟨xb, 0, none⟩), .pointer (some ⟨vb, 0, none⟩)]) (whenE (q.T.is up) 61) := by
 refine ⟨_, _, rfl, enters_of Tryz.func194 (by kernel_rfl) rfl, fun w' hm => ?_⟩
 have hb' := hm.heap hb id
 have zb := heap_lt hb'
 have hQ := hq.old hm
 have HCH := Lib.hid (wish_chunk hb')
 obtain ⟨cv, zv⟩ := (hv.old hm).cell
 have CC := Lib.hid (there_any q w' hQ hf up hu)
 clear hb' hQ hq hf hb hv hu
 go_enter Tryz.func194, Tryz.ntmps194
 go_wp2_with (first
  | ((with_reducible refine at_list ?_); refine wpList_load_chunk 13 _ Tryz.underlying144 rfl sizeWish ⟨xb, 0, none⟩ rfl q.cells rfl HCH.out ?_)
  | (go_at_call 135; refine (CC.out).mono ?_; rintro e v1 ⟨rfl, hM1⟩)
  | (go_at_call 124; refine (when_any _ _ _).mono ?_; rintro e v2 ⟨rfl, hM2⟩))
 go_ret
 exact ⟨rfl, (by first | exact Mod.refl _ _ | exact hM0 | exact hM1 | exact hM2 | exact Mod.then hM0 hM1 (fun _ _ h => h) | exact Mod.then hM1 hM2 (fun _ _ h => h))⟩
set_option maxHeartbeats 2000000 in
theorem cl_create9 (w : World) (q : WishR) (xb : Nat) (hb : w.heap[xb]? = some (.cells q.carr 144 (0, 0))) (hq : q.ok w) (hf : q.fit) :
 Clos w (.func (.func 195) #[] #[.pointer (some ⟨xb, 0, none⟩)]) (whenE (decide (64 ≤ q.T.nodes.length)) 64) := by
 refine ⟨_, _, rfl, enters_of Tryz.func195 (by kernel_rfl) rfl, fun w' hm => ?_⟩
 have hb' := hm.heap hb id
 have zb := heap_lt hb'
 have hQ := hq.old hm
 have c_tree := blk_cell hb' 0 (.pointer (some ⟨q.tb, 0, none⟩)) rfl
 have CC := Lib.hid (paths_any w' q.tb q.T hQ.tree hf.tree.many)
 obtain ⟨n, hn⟩ : ∃ n, q.T.nodes.length = n := ⟨_, rfl⟩
 rw [hn] at CC ⊢
 clear hb' hQ hq hf hb hn
 go_enter Tryz.func195, Tryz.ntmps195
 go_wp2_with (first
  | (go_at_call 161; refine (CC.out).mono ?_; rintro e v0 ⟨pa, pc, rfl, hs0, hf0, hM0⟩)
  | (go_at_call 124; refine (when_any _ _ _).mono ?_; rintro e v1 ⟨rfl, hM1⟩))
 go_ret
 exact ⟨by rw [show decide (64 ≤ n) = decide ((64 : Int) ≤ (n : Int)) by rw [decide_eq_decide]; omega]; rfl, (by first | exact Mod.refl _ _ | exact hM0 | exact hM1 | exact hM2 | exact Mod.then hM0 hM1 (fun _ _ h => h) | exact Mod.then hM1 hM2 (fun _ _ h => h))⟩
set_option maxHeartbeats 2000000 in
theorem cl_create2 (w : World) (q : WishR) (xb : Nat) (hb : w.heap[xb]? = some (.cells q.carr 144 (0, 0))) (hq : q.ok w) (hf : q.fit) :
 Clos w (.func (.func 187) #[] #[.pointer (some ⟨xb, 0, none⟩)]) (whenE (decide (100 < q.r.data.size) || decide (q.r.flags < 0) || decide (3 < q.r.flags)) 1) := by
 refine ⟨_, _, rfl, enters_of Tryz.func187 (by kernel_rfl) rfl, fun w' hm => ?_⟩
 have hb' := hm.heap hb id
 have zb := heap_lt hb'
 have hQ := hq.old hm
 have c_data := blk_cell hb' 6 (.string q.r.data) rfl
 have c_flags := blk_cell hb' 8 (.int .i64 q.r.flags) rfl
 obtain ⟨n, hn⟩ : ∃ n, q.r.data.size = n := ⟨_, rfl⟩
 have hd2 : (Value.string q.r.data) = .string q.r.data := rfl
 by_cases h1 : 100 < q.r.data.size
 ·have HCND := Lib.hid h1
  have i1 : (100 : Int) < (q.r.data.size : Int) := by omega
  clear hb' hQ hq hf hb hn hd2
  go_enter Tryz.func187, Tryz.ntmps187
  go_wp2_with (go_at_call 124; refine (when_any _ _ _).mono ?_; rintro e v0 ⟨rfl, hM0⟩)
  go_ret
  exact ⟨by rw [show (decide (100 < q.r.data.size) || decide (q.r.flags < 0) || decide (3 < q.r.flags)) = true by simp only [Bool.or_eq_true, Bool.or_eq_false_iff, decide_eq_true_eq, decide_eq_false_iff_not]; have := HCND.out; omega]; rfl, (by first | exact Mod.refl _ _ | exact hM0 | exact hM1 | exact hM2 | exact Mod.then hM0 hM1 (fun _ _ h => h) | exact Mod.then hM1 hM2 (fun _ _ h => h))⟩
 ·have i1 : ¬ (100 : Int) < (q.r.data.size : Int) := by omega
  by_cases h2 : q.r.flags < 0
  ·have HCND := Lib.hid h2
   clear hb' hQ hq hf hb hn hd2
   go_enter Tryz.func187, Tryz.ntmps187
   go_wp2_with (go_at_call 124; refine (when_any _ _ _).mono ?_; rintro e v0 ⟨rfl, hM0⟩)
   go_ret
   exact ⟨by rw [show (decide (100 < q.r.data.size) || decide (q.r.flags < 0) || decide (3 < q.r.flags)) = true by simp only [Bool.or_eq_true, Bool.or_eq_false_iff, decide_eq_true_eq, decide_eq_false_iff_not]; have := HCND.out; omega]; rfl, (by first | exact Mod.refl _ _ | exact hM0 | exact hM1 | exact hM2 | exact Mod.then hM0 hM1 (fun _ _ h => h) | exact Mod.then hM1 hM2 (fun _ _ h => h))⟩
  ·by_cases h3 : 3 < q.r.flags
   ·have HCND := Lib.hid h3
    clear hb' hQ hq hf hb hn hd2
    go_enter Tryz.func187, Tryz.ntmps187
    go_wp2_with (go_at_call 124; refine (when_any _ _ _).mono ?_; rintro e v0 ⟨rfl, hM0⟩)
    go_ret
    exact ⟨by rw [show (decide (100 < q.r.data.size) || decide (q.r.flags < 0) || decide (3 < q.r.flags)) = true by simp only [Bool.or_eq_true, Bool.or_eq_false_iff, decide_eq_true_eq, decide_eq_false_iff_not]; have := HCND.out; omega]; rfl, (by first | exact Mod.refl _ _ | exact hM0 | exact hM1 | exact hM2 | exact Mod.then hM0 hM1 (fun _ _ h => h) | exact Mod.then hM1 hM2 (fun _ _ h => h))⟩
   ·have HCND := Lib.hid (And.intro h1 (And.intro h2 h3))
    clear hb' hQ hq hf hb hn hd2
    go_enter Tryz.func187, Tryz.ntmps187
    go_wp2_with (go_at_call 124; refine (when_any _ _ _).mono ?_; rintro e v0 ⟨rfl, hM0⟩)
    go_ret
    exact ⟨by rw [show (decide (100 < q.r.data.size) || decide (q.r.flags < 0) || decide (3 < q.r.flags)) = false by simp only [Bool.or_eq_true, Bool.or_eq_false_iff, decide_eq_true_eq, decide_eq_false_iff_not]; have := HCND.out; omega]; rfl, (by first | exact Mod.refl _ _ | exact hM0 | exact hM1 | exact hM2 | exact Mod.then hM0 hM1 (fun _ _ h => h) | exact Mod.then hM1 hM2 (fun _ _ h => h))⟩
set_option maxHeartbeats 2000000 in
theorem cl_create10 (w : World) (q : WishR) (xb : Nat) (hb : w.heap[xb]? = some (.cells q.carr 144 (0, 0))) (hq : q.ok w) (hf : q.fit) (h0 : q.s ≠ 0) :
 Clos w (.func (.func 196) #[] #[.pointer (some ⟨xb, 0, none⟩)]) (whenE (flag q.r.flags 1 && decide (32 ≤ (q.T.owned q.s).length)) 64) := by
 refine ⟨_, _, rfl, enters_of Tryz.func196 (by kernel_rfl) rfl, fun w' hm => ?_⟩
 have hb' := hm.heap hb id
 have zb := heap_lt hb'
 have hQ := hq.old hm
 have c_flags := blk_cell hb' 8 (.int .i64 q.r.flags) rfl
 have c_tree := blk_cell hb' 0 (.pointer (some ⟨q.tb, 0, none⟩)) rfl
 have c_sess := blk_cell hb' 1 (.int .i64 q.s) rfl
 have CC := Lib.hid (owned_any w' q.tb q.T hQ.tree hf.tree q.s h0)
 obtain ⟨n, hn⟩ : ∃ n, (q.T.owned q.s).length = n := ⟨_, rfl⟩
 rw [hn] at CC ⊢
 obtain ⟨fl, hfl⟩ : ∃ fl, bits .and .i64 q.r.flags 1 = fl := ⟨_, rfl⟩
 have HFL : Hid (flag q.r.flags 1 = decide (fl ≠ 0)) := Lib.hid (by unfold flag; rw [hfl])
 rw [HFL.out]
 by_cases h1 : fl = 0
 ·have HCND : Hid (decide (fl ≠ 0) = false) := Lib.hid (by simpa using h1)
  have g1 : (fl != 0) = false := by simpa using h1
  clear hb' hQ hq hf hb hn h0 h1
  go_enter Tryz.func196, Tryz.ntmps196
  go_wp2_with (first
   | (go_at_call 114; refine (CC.out).mono ?_; rintro e v0 ⟨pa, pc, rfl, hs0, hf0, hM0⟩)
   | (go_at_call 124; refine (when_any _ _ _).mono ?_; rintro e v1 ⟨rfl, hM1⟩))
  go_ret
  exact ⟨by rw [HCND.out]; rfl, (by first | exact Mod.refl _ _ | exact hM0 | exact hM1 | exact hM2 | exact Mod.then hM0 hM1 (fun _ _ h => h) | exact Mod.then hM1 hM2 (fun _ _ h => h))⟩
 ·have HCND : Hid (decide (fl ≠ 0) = true) := Lib.hid (by simpa using h1)
  have g1 : (fl != 0) = true := by simpa using h1
  clear hb' hQ hq hf hb hn h0 h1
  go_enter Tryz.func196, Tryz.ntmps196
  go_wp2_with (first
   | (go_at_call 114; refine (CC.out).mono ?_; rintro e v0 ⟨pa, pc, rfl, hs0, hf0, hM0⟩)
   | (go_at_call 124; refine (when_any _ _ _).mono ?_; rintro e v1 ⟨rfl, hM1⟩))
  go_ret
  exact ⟨by rw [HCND.out, show decide (32 ≤ n) = decide ((32 : Int) ≤ (n : Int)) by rw [decide_eq_decide]; omega]; rfl, (by first | exact Mod.refl _ _ | exact hM0 | exact hM1 | exact hM2 | exact Mod.then hM0 hM1 (fun _ _ h => h) | exact Mod.then hM1 hM2 (fun _ _ h => h))⟩
set_option maxHeartbeats 2000000 in
theorem cl_erase2 (w : World) (q : WishR) (xb : Nat) (hb : w.heap[xb]? = some (.cells q.carr 144 (0, 0))) (hq : q.ok w) (hf : q.fit) :
 Clos w (.func (.func 198) #[] #[.pointer (some ⟨xb, 0, none⟩)]) (whenE (decide (q.r.path = rootP)) 1) := by
 refine ⟨_, _, rfl, enters_of Tryz.func198 (by kernel_rfl) rfl, fun w' hm => ?_⟩
 have hb' := hm.heap hb id
 have zb := heap_lt hb'
 have hQ := hq.old hm
 have c_path := blk_cell hb' 5 (.string q.r.path) rfl
 clear hb' hQ hq hf hb
 go_enter Tryz.func198, Tryz.ntmps198
 go_wp2_with (go_at_call 124; refine (when_any _ _ _).mono ?_; rintro e v0 ⟨rfl, hM0⟩)
 go_ret
 exact ⟨by rw [← root_beq]; rfl, (by first | exact Mod.refl _ _ | exact hM0 | exact hM1 | exact hM2 | exact Mod.then hM0 hM1 (fun _ _ h => h) | exact Mod.then hM1 hM2 (fun _ _ h => h))⟩
set_option maxHeartbeats 2000000 in
theorem cl_erase5 (w : World) (q : WishR) (xb : Nat) (hb : w.heap[xb]? = some (.cells q.carr 144 (0, 0))) (hq : q.ok w) (hf : q.fit) (sb : Nat) (s : St7) (len kn : Int) (hsb : w.heap[sb]? = some (.cells (s.vals len kn).toArray 29 (0, 0))) :
 Clos w (.func (.func 201) #[] #[.pointer (some ⟨xb, 0, none⟩), .pointer (some ⟨sb, 0, none⟩)]) (whenE (decide (q.r.version ≠ -1) && decide (q.r.version ≠ s.version)) 66) := by
 refine ⟨_, _, rfl, enters_of Tryz.func201 (by kernel_rfl) rfl, fun w' hm => ?_⟩
 have hb' := hm.heap hb id
 have zb := heap_lt hb'
 have hQ := hq.old hm
 have c_version := blk_cell hb' 9 (.int .i64 q.r.version) rfl
 have hs' := hm.heap hsb id
 have c3 := blk_cell hs' 3 (.int .i64 s.version) rfl
 have zs := heap_lt hs'
 by_cases h1 : q.r.version = -1
 ·have HCND : Hid (decide (q.r.version ≠ -1) = false) := Lib.hid (by simpa using h1)
  have g1 : (q.r.version != -1) = false := by simpa using h1
  clear hb' hQ hq hf hb hsb hs' h1
  go_enter Tryz.func201, Tryz.ntmps201
  go_wp2_with (go_at_call 124; refine (when_any _ _ _).mono ?_; rintro e v0 ⟨rfl, hM0⟩)
  go_ret
  exact ⟨by rw [HCND.out]; rfl, (by first | exact Mod.refl _ _ | exact hM0 | exact hM1 | exact hM2 | exact Mod.then hM0 hM1 (fun _ _ h => h) | exact Mod.then hM1 hM2 (fun _ _ h => h))⟩
 ·have HCND : Hid (decide (q.r.version ≠ -1) = true) := Lib.hid (by simpa using h1)
  have g1 : (q.r.version != -1) = true := by simpa using h1
  clear hb' hQ hq hf hb hsb hs' h1
  go_enter Tryz.func201, Tryz.ntmps201
  go_wp2_with (go_at_call 124; refine (when_any _ _ _).mono ?_; rintro e v0 ⟨rfl, hM0⟩)
  go_ret
  exact ⟨by rw [HCND.out, show decide (q.r.version ≠ s.version) = (q.r.version != s.version) by simp [bne, Bool.beq_eq_decide_eq]]; rfl, (by first | exact Mod.refl _ _ | exact hM0 | exact hM1 | exact hM2 | exact Mod.then hM0 hM1 (fun _ _ h => h) | exact Mod.then hM1 hM2 (fun _ _ h => h))⟩
set_option maxHeartbeats 2000000 in
theorem cl_read2 (w : World) (q : WishR) (xb : Nat) (hb : w.heap[xb]? = some (.cells q.carr 144 (0, 0))) (hq : q.ok w) (hf : q.fit) (rb : Nat) (hrb : w.heap[rb]? = some (.cells q.rcells.toArray 40 (0, 0))) :
 Clos w (.func (.func 133) #[] #[.pointer (some ⟨rb, 0, none⟩)]) (checkB q.r.path) := by
 refine ⟨_, _, rfl, enters_of Tryz.func133 (by kernel_rfl) rfl, fun w' hm => ?_⟩
 have hb' := hm.heap hb id
 have zb := heap_lt hb'
 have hQ := hq.old hm
 have hr' := hm.heap hrb id
 have zr := heap_lt hr'
 have r0 := blk_cell hr' 0 (.int .i64 q.r.kind) rfl
 have r2 := blk_cell hr' 2 (.string q.r.path) rfl
 have CC := Lib.hid (checkP_any q.r.path (by have := hf.path; omega) w' hQ.env.rdy)
 clear hb' hQ hq hf hb hrb hr'
 go_enter Tryz.func133, Tryz.ntmps133
 go_wp2_with (go_at_call 121; refine (CC.out).mono ?_; rintro e v0 ⟨rfl, hM0⟩)
 go_ret
 exact ⟨rfl, (by first | exact Mod.refl _ _ | exact hM0 | exact hM1 | exact hM2 | exact Mod.then hM0 hM1 (fun _ _ h => h) | exact Mod.then hM1 hM2 (fun _ _ h => h))⟩
set_option maxHeartbeats 2000000 in
theorem cl_read3 (w : World) (q : WishR) (xb : Nat) (hb : w.heap[xb]? = some (.cells q.carr 144 (0, 0))) (hq : q.ok w) (hf : q.fit) (rb : Nat) (hrb : w.heap[rb]? = some (.cells q.rcells.toArray 40 (0, 0))) :
 Clos w (.func (.func 134) #[] #[.pointer (some ⟨xb, 0, none⟩), .pointer (some ⟨rb, 0, none⟩)]) (whenE (!q.T.is q.r.path) 60) := by
 refine ⟨_, _, rfl, enters_of Tryz.func134 (by kernel_rfl) rfl, fun w' hm => ?_⟩
 have hb' := hm.heap hb id
 have zb := heap_lt hb'
 have hQ := hq.old hm
 have hr' := hm.heap hrb id
 have zr := heap_lt hr'
 have r0 := blk_cell hr' 0 (.int .i64 q.r.kind) rfl
 have r2 := blk_cell hr' 2 (.string q.r.path) rfl
 have HCH := Lib.hid (wish_chunk hb')
 have CC := Lib.hid (there_any q w' hQ hf q.r.path (by have := hf.path; unfold maxLen; omega))
 clear hb' hQ hq hf hb hrb hr'
 go_enter Tryz.func134, Tryz.ntmps134
 go_wp2_with (first
  | ((with_reducible refine at_list ?_); refine wpList_load_chunk 13 _ Tryz.underlying144 rfl sizeWish ⟨xb, 0, none⟩ rfl q.cells rfl HCH.out ?_)
  | (go_at_call 135; refine (CC.out).mono ?_; rintro e v1 ⟨rfl, hM1⟩)
  | (go_at_call 124; refine (when_any _ _ _).mono ?_; rintro e v2 ⟨rfl, hM2⟩))
 go_ret
 exact ⟨rfl, (by first | exact Mod.refl _ _ | exact hM0 | exact hM1 | exact hM2 | exact Mod.then hM0 hM1 (fun _ _ h => h) | exact Mod.then hM1 hM2 (fun _ _ h => h))⟩
set_option maxHeartbeats 2000000 in
theorem cl_read4 (w : World) (q : WishR) (xb : Nat) (hb : w.heap[xb]? = some (.cells q.carr 144 (0, 0))) (hq : q.ok w) (hf : q.fit) (rb : Nat) (hrb : w.heap[rb]? = some (.cells q.rcells.toArray 40 (0, 0))) :
 Clos w (.func (.func 136) #[] #[.pointer (some ⟨rb, 0, none⟩), .pointer (some ⟨xb, 0, none⟩)]) (whenE (decide (q.r.kind ≠ 10) && !q.T.mayAt q.ids q.r.path 1) 65) := by
 refine ⟨_, _, rfl, enters_of Tryz.func136 (by kernel_rfl) rfl, fun w' hm => ?_⟩
 have hb' := hm.heap hb id
 have zb := heap_lt hb'
 have hQ := hq.old hm
 have hr' := hm.heap hrb id
 have zr := heap_lt hr'
 have r0 := blk_cell hr' 0 (.int .i64 q.r.kind) rfl
 have r2 := blk_cell hr' 2 (.string q.r.path) rfl
 have HCH := Lib.hid (wish_chunk hb')
 have CC := Lib.hid (mayW_any q w' hQ hf q.r.path (by have := hf.path; unfold maxLen; omega) 1)
 by_cases h1 : q.r.kind = 10
 ·have HCND : Hid (decide (q.r.kind ≠ 10) = false) := Lib.hid (by simpa using h1)
  have g1 : (q.r.kind != 10) = false := by simpa using h1
  clear hb' hQ hq hf hb hrb hr' h1
  go_enter Tryz.func136, Tryz.ntmps136
  go_wp2_with (first
   | ((with_reducible refine at_list ?_); refine wpList_load_chunkG 13 _ Tryz.underlying144 rfl sizeWish ⟨xb, 0, none⟩ rfl q.cells rfl HCH.out (by rfl) ?_)
   | (go_at_call 126; refine (CC.out).mono ?_; rintro e v1 ⟨rfl, hM1⟩)
   | (go_at_call 124; refine (when_any _ _ _).mono ?_; rintro e v2 ⟨rfl, hM2⟩))
  go_ret
  exact ⟨by rw [HCND.out]; rfl, (by first | exact Mod.refl _ _ | exact hM0 | exact hM1 | exact hM2 | exact Mod.then hM0 hM1 (fun _ _ h => h) | exact Mod.then hM1 hM2 (fun _ _ h => h))⟩
 ·have HCND : Hid (decide (q.r.kind ≠ 10) = true) := Lib.hid (by simpa using h1)
  have g1 : (q.r.kind != 10) = true := by simpa using h1
  clear hb' hQ hq hf hb hrb hr' h1
  go_enter Tryz.func136, Tryz.ntmps136
  go_wp2_with (first
   | ((with_reducible refine at_list ?_); refine wpList_load_chunkG 13 _ Tryz.underlying144 rfl sizeWish ⟨xb, 0, none⟩ rfl q.cells rfl HCH.out (by rfl) ?_)
   | (go_at_call 126; refine (CC.out).mono ?_; rintro e v1 ⟨rfl, hM1⟩)
   | (go_at_call 124; refine (when_any _ _ _).mono ?_; rintro e v2 ⟨rfl, hM2⟩))
  go_ret
  exact ⟨by rw [HCND.out]; rfl, (by first | exact Mod.refl _ _ | exact hM0 | exact hM1 | exact hM2 | exact Mod.then hM0 hM1 (fun _ _ h => h) | exact Mod.then hM1 hM2 (fun _ _ h => h))⟩
end Go.Proofs.YtonnbkebjeoflaaGreatDoor
