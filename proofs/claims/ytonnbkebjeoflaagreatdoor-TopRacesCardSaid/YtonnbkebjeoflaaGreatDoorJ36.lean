/-
  Laws of PlainC.
  Conditions: each law states its own.
-/
import Derived.StillTailTactics
import Derived.Deep.DeepCutAuto
import Derived.Test.YtonnbkebjeoflaaGreatDoorJ18
import Derived.Test.YtonnbkebjeoflaaGreatDoorJ34
import Derived.Test.YtonnbkebjeoflaaGreatDoorJ35
set_option maxHeartbeats 16000000
set_option linter.unusedSectionVars false
set_option linter.unusedSimpArgs false
set_option linter.unusedVariables false
set_option maxRecDepth 100000
namespace Go.Proofs.YtonnbkebjeoflaaGreatDoor
open Go.RowKit Go.Maps
theorem sizeEnT : (Tryz.prog.info? 63).map (·.size) = some 11 := by kernel_rfl
theorem infoEnR : (Tryz.prog.info? 63).map (fun i => (i.zero.map (·.cells.size), i.size, i.bytes)) = some (some 11, 11, 136) := by kernel_rfl
theorem St.inGrp {w0 w : World} {l ts : List Thing} (h : St w0 w l) (i : Nat) (hi : l[i]? = some (grp ts)) {E k n cap : Nat} {a : Option Addr} {cs : List Value} (hm : sl E k a n cap cs ∈ ts) : Sl w E k a n cap cs := by
 obtain ⟨j, hj, he⟩ := List.mem_iff_getElem.1 hm
 have h1 := (h.pick i hi).ungrp
 exact h1.slice j (by rw [List.getElem?_append_left hj, List.getElem?_eq_getElem hj, he])
section
variable {P : Program} {ops : Array Oper} {S : World → Prop} {o : Oper} {a : Act} {k e t : TypeId} {α : Type} [DecidableEq α] {B : KB P k α}
theorem yieldsLookL (ht : P.underlying t = some (.map k e)) (hw : Region.wanted o (yielded ops a.tmps) = true) {m x : Operand} (ho : o.op = .lookup t m x false) (b : Nat) (hm : a.eval m = .map (some b)) (M : List (α × Value)) {z : Value} (hz : ∀ w, (zeroValue e).run P w = .ok z w) (y : α) (hx : a.eval x = B.inj y) (hy : B.ok y) (v : Value) (hv : (getK M y).getD z = v)
 (hS : ∀ w, S w → MapL B w b M) : YieldsIf P ops S o v a :=
 Or.inl ⟨hw, fun w h => by
  have hr := (hS w h).look ht false (hz w) hy
  subst hv
  unfold execOp
  simp only [ho, hm, hx, Sem.run_bind, Sem.run_pure, hr, Result.andThen_ok]
  rfl⟩
end
theorem zeroEvs (w : World) : (zeroValue 56).run Tryz.prog w = .ok (.slice none 0 0) w := by kernel_rfl
theorem sizeToldT : (Tryz.prog.info? 140).map (·.size) = some 4 := by kernel_rfl
structure TellOk (ev : List (Int × List Evt)) (W : List Wt) : Prop where
 ev : EvOk ev 2000000000 20000000
 who : ∀ x ∈ W, okInt x.who
theorem put_is (p : Svc) (session xid : Int) (t : Tx2) (hk : t.x.kind ≠ 6) : (p.put session xid t).1 = ⟨(p.tree.apply (4294967296 + p.order.length + 1) t.x t.subs).1, (Watch.fire p.watches (p.tree.apply (4294967296 + p.order.length + 1) t.x t.subs).2.1).1, p.order ++ [⟨4294967296 + p.order.length + 1, session, xid, t⟩], p.opened, p.ids, (Watch.fire p.watches (p.tree.apply (4294967296 + p.order.length + 1) t.x t.subs).2.1).2.foldl Svc.tell p.events⟩ := by
 unfold Svc.put
 simp only
 rw [if_neg hk]
def PutDPost (pb : Nat) (p : Svc) (d : SD) (session xid : Int) (r : TxR) (subs : List TxR) (w0 : World) (l : List Thing) (e : Ending) (w' : World) : Prop :=
 ∃ (E : EnR) (oa : Option Addr) (oc : Nat), E = ⟨4294967296 + p.order.length + 1, session, xid, r, subs⟩ ∧ e = .returned (.agg E.cells.toArray) ∧ (⟨d.tb, d.wb, oa, oc, d.L ++ [E], d.ib, d.eb⟩ : SD).tells (p.put session xid ⟨r.x, subs.map TxR.x⟩).1 ∧
  St w0 w' ((⟨d.tb, d.wb, oa, oc, d.L ++ [E], d.ib, d.eb⟩ : SD).things pb (p.put session xid ⟨r.x, subs.map TxR.x⟩).1 ++ l)
theorem put_st {w0 w : World} {l : List Thing} (pb : Nat) (p : Svc) (d : SD) (hd : d.tells p) (r : TxR) (subs : List TxR) (session xid : Int) (h : St w0 w (d.things pb p ++ (TxnOwn r subs ++ l))) (hr : Rdy w0) (hk : r.x.kind ≠ 6) (hf : (⟨0, session, xid, r, subs⟩ : EnR).fit) (hol : p.order.length ≤ 1000000) (hroom : p.tree.room (2 * subs.length + 2)) (hss : p.tree.sessions.length < 1000000) (hWl : p.watches.length ≤ 10000) (htl : TellOk p.events p.watches)
 (hev : (p.tree.apply (4294967296 + p.order.length + 1) r.x (subs.map TxR.x)).2.1.length ≤ 1000 ∧ ∀ e ∈ (p.tree.apply (4294967296 + p.order.length + 1) r.x (subs.map TxR.x)).2.1, e.path.size ≤ 1000000) :
 Calls Tryz.prog 30 #[.pointer (some ⟨pb, 0, none⟩), .int .i64 session, .int .i64 xid, .agg r.cells.toArray] w (PutDPost pb p d session xid r subs w0 l) := by
 obtain ⟨⟨kind, path, data, acl, owner, number, err⟩, aa, ac, sa, sn, sc⟩ := r
 have hS := h
 have hon : p.order.length = d.L.length := by rw [hd.order, List.length_map]
 obtain ⟨on, hon2⟩ : ∃ on, d.L.length = on := ⟨_, rfl⟩
 have hS1 : St w0 w (bx pb #[.pointer (some ⟨d.tb, 0, none⟩), .pointer (some ⟨d.wb, 0, none⟩), .slice d.oa d.L.length d.oc, .int .i64 p.opened, .map (some d.ib), .map (some d.eb)] 87 :: tre d.tb p.tree :: wtb d.wb p.watches :: sl 63 11 d.oa d.L.length d.oc (d.L.flatMap EnR.cells) :: msl kbI 9 1 A.strC d.ib p.ids :: msl kbI 113 3 Evt.cells d.eb p.events :: grp (d.L.map EnR.own) :: sl 46 2 aa acl.length ac (acl.flatMap ARow.cells) :: sl 61 8 sa sn sc (subs.flatMap TxR.cells) :: grp (subs.map fun s => sl 46 2 s.aa s.x.acl.length s.ac (s.x.acl.flatMap ARow.cells)) :: l) := hS
 rw [hon2] at hS1 hon
 rw [hon] at hol hev
 obtain ⟨z, hz⟩ : ∃ z : Int, 4294967296 + (on : Int) + 1 = z := ⟨_, rfl⟩
 rw [hz] at hev
 have HEV := Lib.hid (And.intro hev hWl)
 have HTL := Lib.hid htl
 clear htl
 have HD := Lib.hid (And.intro hd (And.intro hon (And.intro hon2 hz)))
 have HF := Lib.hid (And.intro hf hk)
 have HRS := Lib.hid (And.intro hroom hss)
 have HRD := Lib.hid hr
 have hw1 : IntKind.i64.wrap (4294967296 + (on : Int)) = 4294967296 + (on : Int) := by simp [IntKind.wrap, IntKind.bits, IntKind.signed]; omega
 have hw2 : IntKind.i64.wrap (4294967296 + (on : Int) + 1) = z := by rw [← hz]; simp [IntKind.wrap, IntKind.bits, IntKind.signed]; omega
 have hS2 := (hS1.box1 (([.int .i64 kind, .string path, .string data, .slice aa acl.length ac, .int .i64 owner, .int .i64 number, .int .i64 err, .slice sa sn sc] : List Value)).toArray 61).box1 #[.int .i64 0, .int .i64 0, .int .i64 0, .int .i64 0, .string ⟨#[]⟩, .string ⟨#[]⟩, .slice none 0 0, .int .i64 0, .int .i64 0, .int .i64 0, .slice none 0 0] 63
 simp only [World.size_alloc] at hS2
 have HS2 := Lib.hid hS2
 clear hS hS1 hS2 h hd hon2 hz hf hk hon hroom hss hr hev hWl
 simp only [TxR.cells]
 go_enter Tryz.func30, Tryz.ntmps30
 go_upto_region 1 with (fail)
 generalize World.alloc (World.alloc w _) _ = W1 at HS2 ⊢
 generalize w.heap.size = xb at HS2 ⊢
 have KP : Hid (∀ (w' : World) (G : List Thing), St w0 w' (bx (xb + 1) #[.int .i64 0, .int .i64 0, .int .i64 0, .int .i64 0, .string ⟨#[]⟩, .string ⟨#[]⟩, .slice none 0 0, .int .i64 0, .int .i64 0, .int .i64 0, .slice none 0 0] 63 :: bx xb (([.int .i64 kind, .string path, .string data, .slice aa acl.length ac, .int .i64 owner, .int .i64 number, .int .i64 err, .slice sa sn sc] : List Value)).toArray 61 :: bx pb #[.pointer (some ⟨d.tb, 0, none⟩), .pointer (some ⟨d.wb, 0, none⟩), .slice d.oa on d.oc, .int .i64 p.opened, .map (some d.ib), .map (some d.eb)] 87 :: G) → w'.cell? ⟨pb, 2, none⟩ = some (.slice d.oa on d.oc) ∧ w'.cell? ⟨xb, 0, none⟩ = some (.int .i64 kind) ∧ w'.cell? ⟨xb, 1, none⟩ = some (.string path) ∧ w'.cell? ⟨xb, 2, none⟩ = some (.string data) ∧ w'.cell? ⟨xb, 3, none⟩ = some (.slice aa acl.length ac) ∧ w'.cell? ⟨xb, 4, none⟩ = some (.int .i64 owner) ∧ w'.cell? ⟨xb, 5, none⟩ = some (.int .i64 number) ∧ w'.cell? ⟨xb, 6, none⟩ = some (.int .i64 err) ∧ w'.cell? ⟨xb, 7, none⟩ = some (.slice sa sn sc)) := Lib.hid fun w' G h => ⟨blk_cell (h.box 2 rfl) 2 _ rfl, blk_cell (h.box 1 rfl) 0 _ rfl, blk_cell (h.box 1 rfl) 1 _ rfl, blk_cell (h.box 1 rfl) 2 _ rfl, blk_cell (h.box 1 rfl) 3 _ rfl, blk_cell (h.box 1 rfl) 4 _ rfl, blk_cell (h.box 1 rfl) 5 _ rfl, blk_cell (h.box 1 rfl) 6 _ rfl, blk_cell (h.box 1 rfl) 7 _ rfl⟩
 have HA := Lib.hid HS2.out.drew
 have HC := Lib.hid (HS2.out.box1 (([.int .i64 z, .int .i64 session, .int .i64 xid, .int .i64 kind, .string path, .string data, .slice aa acl.length ac, .int .i64 owner, .int .i64 number, .int .i64 err, .slice sa sn sc] : List Value)).toArray 63).drew
 have HB := Lib.hid (HS2.out.box1 #[.int .i64 0, .int .i64 0, .int .i64 0, .int .i64 0, .string ⟨#[]⟩, .string ⟨#[]⟩, .slice none 0 0, .int .i64 0, .int .i64 0, .int .i64 0, .slice none 0 0] 63).drew
 have zx := heap_lt (HS2.out.box 1 rfl)
 have zp := heap_lt (HS2.out.box 2 rfl)
 go_region_held3 (fun w' => w'.cell? ⟨pb, 2, none⟩ = some (.slice d.oa on d.oc) ∧ w'.cell? ⟨xb, 0, none⟩ = some (.int .i64 kind) ∧ w'.cell? ⟨xb, 1, none⟩ = some (.string path) ∧ w'.cell? ⟨xb, 2, none⟩ = some (.string data) ∧ w'.cell? ⟨xb, 3, none⟩ = some (.slice aa acl.length ac) ∧ w'.cell? ⟨xb, 4, none⟩ = some (.int .i64 owner) ∧ w'.cell? ⟨xb, 5, none⟩ = some (.int .i64 number) ∧ w'.cell? ⟨xb, 6, none⟩ = some (.int .i64 err) ∧ w'.cell? ⟨xb, 7, none⟩ = some (.slice sa sn sc))
  (first | exact KP.out _ _ HA.out | exact KP.out _ _ HB.out.tail | exact KP.out _ _ HC.out.tail)
  (fail)
 clear HA HB KP HS2 zx zp hw1 hw2
 generalize World.drew (World.alloc W1 _) = W2 at HC ⊢
 generalize W1.heap.size = eb at HC ⊢
 go_upto_region 2 with (fail)
 have KP2 : Hid (∀ (w' : World) (G : List Thing), St w0 w' (bx eb #[.int .i64 z, .int .i64 session, .int .i64 xid, .int .i64 kind, .string path, .string data, .slice aa acl.length ac, .int .i64 owner, .int .i64 number, .int .i64 err, .slice sa sn sc] 63 :: bx (xb + 1) #[.int .i64 0, .int .i64 0, .int .i64 0, .int .i64 0, .string ⟨#[]⟩, .string ⟨#[]⟩, .slice none 0 0, .int .i64 0, .int .i64 0, .int .i64 0, .slice none 0 0] 63 :: bx xb (([.int .i64 kind, .string path, .string data, .slice aa acl.length ac, .int .i64 owner, .int .i64 number, .int .i64 err, .slice sa sn sc] : List Value)).toArray 61 :: bx pb #[.pointer (some ⟨d.tb, 0, none⟩), .pointer (some ⟨d.wb, 0, none⟩), .slice d.oa on d.oc, .int .i64 p.opened, .map (some d.ib), .map (some d.eb)] 87 :: G) → w'.cell? ⟨pb, 2, none⟩ = some (.slice d.oa on d.oc) ∧ w'.heap[eb]? = some (.cells #[.int .i64 z, .int .i64 session, .int .i64 xid, .int .i64 kind, .string path, .string data, .slice aa acl.length ac, .int .i64 owner, .int .i64 number, .int .i64 err, .slice sa sn sc] 63 (0, 0))) := Lib.hid fun w' G h => ⟨blk_cell (h.box 3 rfl) 2 _ rfl, h.box 0 rfl⟩
 have zp := heap_lt (HC.out.box 3 rfl)
 obtain ⟨ip, iz, hi1, hi2, hi3, hi4, hi5⟩ := info_rowT infoEnR
 have HI := Lib.hid (And.intro hi1 (And.intro hi2 (And.intro hi3 (And.intro hi4 hi5))))
 have HA := Lib.hid HC.out.drew
 clear hi1 hi2 hi3 hi4 hi5
 refine wp_region_last_held (n := 10) (S := fun w' => w'.cell? ⟨pb, 2, none⟩ = some (.slice d.oa on d.oc) ∧ w'.heap[eb]? = some (.cells #[.int .i64 z, .int .i64 session, .int .i64 xid, .int .i64 kind, .string path, .string data, .slice aa acl.length ac, .int .i64 owner, .int .i64 number, .int .i64 err, .slice sa sn sc] 63 (0, 0))) (by kernel_rfl) rfl (by simp only [List.pop_toArray, List.dropLast_cons_cons, List.dropLast_singleton]; rfl) (by kernel_rfl) (by kernel_rfl) (KP2.out _ _ HA.out) (fun hHeld => ?_)
 clear HC
 generalize W2.drew = V at HA hHeld ⊢
 refine tk 0 (some 25) ?_ rfl rfl hHeld ?_ ?_
 rotate_left
 ·intro wq hSw; (try dsimp only at hSw); go_simp; try with_reducible rfl
 refine tk 1 (some 26) ?_ rfl rfl hHeld ?_ ?_
 rotate_left
 ·intro wq hSw; (try dsimp only at hSw); go_simp; try with_reducible rfl
 refine tk 2 (some 27) ?_ rfl rfl hHeld ?_ ?_
 rotate_left
 ·intro wq hSw; (try dsimp only at hSw); go_simp; try with_reducible rfl
 refine tk 3 (some 28) ?_ rfl rfl hHeld ?_ ?_
 rotate_left
 ·intro wq hSw; (try dsimp only at hSw); go_simp; try with_reducible rfl
 refine tk 4 (some 29) ?_ rfl rfl hHeld ?_ ?_
 rotate_left
 ·intro wq hSw; (try dsimp only at hSw); go_simp; try with_reducible rfl
 try simp only [Act.put, Nat.zero_add, zA, zB, zC]
 refine wpAnyH_take (i := 5) (oi := ⟨some 30, _, _, _, _, _⟩) (v := _) rfl (by kernel_rfl) (by kernel_rfl) (by kernel_rfl) (fun _ _ _ h => h) (yieldsT 11 _ (by rfl) rfl Tryz.underlying63 rfl sizeEnT eb (by rfl) ([.int .i64 z, .int .i64 session, .int .i64 xid, .int .i64 kind, .string path, .string data, .slice aa acl.length ac, .int .i64 owner, .int .i64 number, .int .i64 err, .slice sa sn sc] : List Value) rfl 63 (fun _ h => h.2)) hHeld ?_
 try simp only [Act.put, Nat.zero_add, zA, zB, zC]
 refine wpAnyH_ready (rs := [6]) (by kernel_rfl) (by simp) ?_
 refine (AllReadyH.cons (o := ⟨some 31, _, _, _, _, _⟩) rfl (fun K hK => ?_) AllReadyH.nil)
 go_simp
 have hb := heap_alloc_new V (.cells #[.int .i64 z, .int .i64 session, .int .i64 xid, .int .i64 kind, .string path, .string data, .slice aa acl.length ac, .int .i64 owner, .int .i64 number, .int .i64 err, .slice sa sn sc] 63)
 have H6 := Lib.hid (HA.out.mod ((Mod.refl (fun _ => False) V).alloc (.cells #[.int .i64 z, .int .i64 session, .int .i64 xid, .int .i64 kind, .string path, .string data, .slice aa acl.length ac, .int .i64 owner, .int .i64 number, .int .i64 err, .slice sa sn sc] 63)))
 refine hK.out _ _ (KP2.out _ _ H6.out) (fun hHeld => ?_)
 clear hK K
 try simp only [Act.put, Nat.zero_add, zA, zB, zC]
 clear HA
 generalize V.alloc _ = V6 at hb H6 hHeld ⊢
 generalize V.heap.size = nb at hb ⊢
 refine wpAnyH_ready (rs := [7]) (by kernel_rfl) (by simp) ?_
 refine (AllReadyH.cons (o := ⟨some 32, _, _, _, _, _⟩) rfl (fun K hK => ?_) AllReadyH.nil)
 refine step_append rfl rfl 63 ip iz 11 136 (by kernel_rfl) HI.out.1 HI.out.2.1 HI.out.2.2.1 HI.out.2.2.2.1 HI.out.2.2.2.2 d.oa on d.oc (d.L.flatMap EnR.cells) rfl (H6.out.slice 6 rfl) (some ⟨nb, 0, none⟩) 1 1 ([.int .i64 z, .int .i64 session, .int .i64 xid, .int .i64 kind, .string path, .string data, .slice aa acl.length ac, .int .i64 owner, .int .i64 number, .int .i64 err, .slice sa sn sc] : List Value) rfl (Sl.new (E := 63) (k := 11) (n := 1) hb rfl (by unfold maxLen; omega)).rd (fun u hu => List.all_eq_true.1 (show ([.int .i64 z, .int .i64 session, .int .i64 xid, .int .i64 kind, .string path, .string data, .slice aa acl.length ac, .int .i64 owner, .int .i64 number, .int .i64 err, .slice sa sn sc] : List Value).all (·.oneCell') = true from rfl) u hu) (by unfold maxLen; omega) (by omega) ?_
 intro a9 cap9 w9 hS9 hM9 hF9 hN9 hR9
 have H9 := Lib.hid (H6.out.regrow 6 rfl hS9 hM9 hF9)
 clear hS9 hM9 hF9 hN9 hR9 H6 hb
 refine hK.out _ _ (KP2.out _ _ H9.out) (fun hHeld => ?_)
 clear hK K
 try simp only [Act.put, Nat.zero_add, zA, zB, zC]
 refine tk 8 (some 33) ?_ rfl rfl hHeld ?_ ?_
 rotate_left
 ·intro wq hSw; (try dsimp only at hSw); go_simp; try with_reducible rfl
 refine tk 9 (some 34) ?_ rfl rfl hHeld ?_ ?_
 rotate_left
 ·intro wq hSw; (try dsimp only at hSw); go_simp; try with_reducible rfl
 try simp only [Act.put, Nat.zero_add, zA, zB, zC]
 refine wpAnyH_done (by kernel_rfl) ?_ _
 have o2 := blk_cell (H9.out.box 3 rfl) 2 _ rfl
 have f2 := blk_free (H9.out.box 3 rfl) 2
 have zo := heap_lt (H9.out.box 3 rfl)
 refine LastQ.step rfl rfl ?_
 go_simp
 have HX := Lib.hid (H9.out.set 3 rfl 2 (.slice a9 (on + 1 : Nat) cap9))
 clear H9 o2 f2 zo hHeld
 generalize w9.setCell _ _ = V9 at HX ⊢
 go_upto_region 3 with (fail)
 have HP3 := Lib.hid (HX.out.pick 4 rfl).drew
 simp only [zB, zC, zA, List.eraseIdx_cons_zero, List.eraseIdx_cons_succ] at HP3
 clear HX
 have CA := apply_st d.tb p.tree HP3.out (⟨z, session, xid, ⟨⟨kind, path, data, acl, owner, number, err⟩, aa, ac, sa, sn, sc⟩, subs⟩ : EnR) HRS.out.1 HRS.out.2 HRD.out (fun w' h => ⟨(h.slice 9 rfl).rd, (h.slice 10 rfl).rd, fun s hs => (h.inGrp 11 rfl (List.mem_map_of_mem (f := fun s : TxR => sl 46 2 s.aa s.x.acl.length s.ac (s.x.acl.flatMap ARow.cells)) hs)).rd⟩) ⟨HF.out.1.n, HF.out.1.few, HF.out.1.r, HF.out.1.all, HF.out.1.owner⟩
 rw [show (⟨z, session, xid, ⟨⟨kind, path, data, acl, owner, number, err⟩, aa, ac, sa, sn, sc⟩, subs⟩ : EnR).cells.toArray = #[.int .i64 z, .int .i64 session, .int .i64 xid, .int .i64 kind, .string path, .string data, .slice aa acl.length ac, .int .i64 owner, .int .i64 number, .int .i64 err, .slice sa sn sc] from rfl] at CA
 obtain ⟨R, hR⟩ : ∃ R, p.tree.apply z (⟨kind, path, data, acl, owner, number, err⟩ : Tx) (subs.map TxR.x) = R := ⟨_, rfl⟩
 simp only [EnR.subsX] at CA
 rw [hR] at CA
 have HCA := Lib.hid CA
 have HR := Lib.hid hR
 have KP3 : Hid (∀ (w' : World) (A : Thing) (G : List Thing), St w0 w' (A :: bx eb #[.int .i64 z, .int .i64 session, .int .i64 xid, .int .i64 kind, .string path, .string data, .slice aa acl.length ac, .int .i64 owner, .int .i64 number, .int .i64 err, .slice sa sn sc] 63 :: bx (xb + 1) #[.int .i64 0, .int .i64 0, .int .i64 0, .int .i64 0, .string ⟨#[]⟩, .string ⟨#[]⟩, .slice none 0 0, .int .i64 0, .int .i64 0, .int .i64 0, .slice none 0 0] 63 :: bx xb (([.int .i64 kind, .string path, .string data, .slice aa acl.length ac, .int .i64 owner, .int .i64 number, .int .i64 err, .slice sa sn sc] : List Value)).toArray 61 :: bx pb #[.pointer (some ⟨d.tb, 0, none⟩), .pointer (some ⟨d.wb, 0, none⟩), .slice a9 (on + 1) cap9, .int .i64 p.opened, .map (some d.ib), .map (some d.eb)] 87 :: G) → w'.cell? ⟨pb, 0, none⟩ = some (.pointer (some ⟨d.tb, 0, none⟩)) ∧ w'.cell? ⟨eb, 0, none⟩ = some (.int .i64 z) ∧ w'.cell? ⟨eb, 1, none⟩ = some (.int .i64 session) ∧ w'.cell? ⟨eb, 2, none⟩ = some (.int .i64 xid) ∧ w'.cell? ⟨eb, 3, none⟩ = some (.int .i64 kind) ∧ w'.cell? ⟨eb, 4, none⟩ = some (.string path) ∧ w'.cell? ⟨eb, 5, none⟩ = some (.string data) ∧ w'.cell? ⟨eb, 6, none⟩ = some (.slice aa acl.length ac) ∧ w'.cell? ⟨eb, 7, none⟩ = some (.int .i64 owner) ∧ w'.cell? ⟨eb, 8, none⟩ = some (.int .i64 number) ∧ w'.cell? ⟨eb, 9, none⟩ = some (.int .i64 err) ∧ w'.cell? ⟨eb, 10, none⟩ = some (.slice sa sn sc)) := Lib.hid fun w' A G h => ⟨blk_cell (h.box 4 rfl) 0 _ rfl, blk_cell (h.box 1 rfl) 0 _ rfl, blk_cell (h.box 1 rfl) 1 _ rfl, blk_cell (h.box 1 rfl) 2 _ rfl, blk_cell (h.box 1 rfl) 3 _ rfl, blk_cell (h.box 1 rfl) 4 _ rfl, blk_cell (h.box 1 rfl) 5 _ rfl, blk_cell (h.box 1 rfl) 6 _ rfl, blk_cell (h.box 1 rfl) 7 _ rfl, blk_cell (h.box 1 rfl) 8 _ rfl, blk_cell (h.box 1 rfl) 9 _ rfl, blk_cell (h.box 1 rfl) 10 _ rfl⟩
 have zp := heap_lt (HP3.out.box 4 rfl)
 have ze := heap_lt (HP3.out.box 1 rfl)
 clear CA hR
 go_region_held3 (fun w' => w'.cell? ⟨pb, 0, none⟩ = some (.pointer (some ⟨d.tb, 0, none⟩)) ∧ w'.cell? ⟨eb, 0, none⟩ = some (.int .i64 z) ∧ w'.cell? ⟨eb, 1, none⟩ = some (.int .i64 session) ∧ w'.cell? ⟨eb, 2, none⟩ = some (.int .i64 xid) ∧ w'.cell? ⟨eb, 3, none⟩ = some (.int .i64 kind) ∧ w'.cell? ⟨eb, 4, none⟩ = some (.string path) ∧ w'.cell? ⟨eb, 5, none⟩ = some (.string data) ∧ w'.cell? ⟨eb, 6, none⟩ = some (.slice aa acl.length ac) ∧ w'.cell? ⟨eb, 7, none⟩ = some (.int .i64 owner) ∧ w'.cell? ⟨eb, 8, none⟩ = some (.int .i64 number) ∧ w'.cell? ⟨eb, 9, none⟩ = some (.int .i64 err) ∧ w'.cell? ⟨eb, 10, none⟩ = some (.slice sa sn sc))
  (first | exact KP3.out _ _ _ HP3.out | exact KP3.out _ _ _ HAP.out.tail)
  ((go_at_call 16; refine HCA.out.mono ?_; rintro e wA ⟨a5, cap5, rfl, hSA⟩; have HAP := Lib.hid hSA; clear hSA))
 have hev := HEV.out.1
 rw [HR.out] at hev
 obtain ⟨en, hen⟩ : ∃ en, R.2.1.length = en := ⟨_, rfl⟩
 have hA := HAP.out
 rw [hen] at hA hev ⊢
 have HF4 := (hA.pick 6 rfl)
 simp only [List.eraseIdx_cons_zero, List.eraseIdx_cons_succ] at HF4
 have CF := Lib.hid (fire_st d.wb p.watches R.2.1 a5 en cap5 hen HF4 hev.1 HEV.out.2 hev.2)
 have x1 := blk_cell (hA.box 5 rfl) 1 (.pointer (some ⟨d.wb, 0, none⟩)) rfl
 have zp := heap_lt (hA.box 5 rfl)
 have HEN := Lib.hid (And.intro hen hev)
 clear hA HF4 hen hev HAP HCA
 go_upto_block 0 with (go_at_call 57; refine CF.out.mono ?_; rintro e wF ⟨fa, fc, rfl, hSF⟩; have HSF := Lib.hid hSF; clear hSF)
 obtain ⟨FF, hFF⟩ : ∃ FF, Watch.fire p.watches R.2.1 = FF := ⟨_, rfl⟩
 rw [hFF] at HSF ⊢
 have HFF := Lib.hid hFF
 clear hFF CF x1 zp
 go_cut [] (fun wx => St w0 wx (tre d.tb R.1 :: bx eb #[.int .i64 z, .int .i64 session, .int .i64 xid, .int .i64 kind, .string path, .string data, .slice aa acl.length ac, .int .i64 owner, .int .i64 number, .int .i64 err, .slice sa sn sc] 63 :: bx (xb + 1) #[.int .i64 0, .int .i64 0, .int .i64 0, .int .i64 0, .string ⟨#[]⟩, .string ⟨#[]⟩, .slice none 0 0, .int .i64 0, .int .i64 0, .int .i64 0, .slice none 0 0] 63 :: bx xb (([.int .i64 kind, .string path, .string data, .slice aa acl.length ac, .int .i64 owner, .int .i64 number, .int .i64 err, .slice sa sn sc] : List Value)).toArray 61 :: bx pb #[.pointer (some ⟨d.tb, 0, none⟩), .pointer (some ⟨d.wb, 0, none⟩), .slice a9 (on + 1) cap9, .int .i64 p.opened, .map (some d.ib), .map (some d.eb)] 87 :: wtb d.wb FF.1 :: sl 63 11 a9 (on + 1) cap9 (d.L.flatMap EnR.cells ++ [.int .i64 z, .int .i64 session, .int .i64 xid, .int .i64 kind, .string path, .string data, .slice aa acl.length ac, .int .i64 owner, .int .i64 number, .int .i64 err, .slice sa sn sc]) :: msl kbI 9 1 A.strC d.ib p.ids :: msl kbI 113 3 Evt.cells d.eb (FF.2.foldl Svc.tell p.events) :: grp (d.L.map EnR.own) :: sl 46 2 aa acl.length ac (acl.flatMap ARow.cells) :: sl 61 8 sa sn sc (subs.flatMap TxR.cells) :: grp (subs.map fun s => sl 46 2 s.aa s.x.acl.length s.ac (s.x.acl.flatMap ARow.cells)) :: l))
 case first =>
  obtain ⟨n, hn⟩ : ∃ n, FF.2.length = n := ⟨_, rfl⟩
  have hfw := fire_few R.2.1 p.watches
  rw [HFF.out, hn] at hfw
  have hnl : n ≤ 10000 := by have := HEV.out.2; omega
  have HWHO : Hid (∀ q ∈ FF.2, okInt q.1) := Lib.hid (fun q hq => by
   have h1 := fire_who R.2.1 p.watches (q := q) (by rw [HFF.out]; exact hq)
   obtain ⟨x, hx, he⟩ := h1
   rw [← he]; exact HTL.out.who x hx)
  obtain ⟨ep, ez, hi1, hi2, hi3, hi4, hi5⟩ := info_rowT infoEvtR
  have HEI := Lib.hid (And.intro hi1 (And.intro hi2 (And.intro hi3 (And.intro hi4 hi5))))
  clear hi1 hi2 hi3 hi4 hi5 hfw
  rw [hn] at HSF ⊢
  have HN := Lib.hid hn
  have HNL := Lib.hid hnl
  have h63 : n ≤ 9223372036854775807 := by omega
  have HSF2 : Hid (St w0 wF (sl 140 4 fa n fc (FF.2.flatMap toldC) :: wtb d.wb FF.1 :: sl 113 3 a5 en cap5 (R.2.1.flatMap Evt.cells) :: tre d.tb R.1 :: bx eb #[.int .i64 z, .int .i64 session, .int .i64 xid, .int .i64 kind, .string path, .string data, .slice aa acl.length ac, .int .i64 owner, .int .i64 number, .int .i64 err, .slice sa sn sc] 63 :: bx (xb + 1) #[.int .i64 0, .int .i64 0, .int .i64 0, .int .i64 0, .string ⟨#[]⟩, .string ⟨#[]⟩, .slice none 0 0, .int .i64 0, .int .i64 0, .int .i64 0, .slice none 0 0] 63 :: bx xb (([.int .i64 kind, .string path, .string data, .slice aa acl.length ac, .int .i64 owner, .int .i64 number, .int .i64 err, .slice sa sn sc] : List Value)).toArray 61 :: bx pb #[.pointer (some ⟨d.tb, 0, none⟩), .pointer (some ⟨d.wb, 0, none⟩), .slice a9 (on + 1) cap9, .int .i64 p.opened, .map (some d.ib), .map (some d.eb)] 87 :: sl 63 11 a9 (on + 1) cap9 (d.L.flatMap EnR.cells ++ [.int .i64 z, .int .i64 session, .int .i64 xid, .int .i64 kind, .string path, .string data, .slice aa acl.length ac, .int .i64 owner, .int .i64 number, .int .i64 err, .slice sa sn sc]) :: msl kbI 9 1 A.strC d.ib p.ids :: msl kbI 113 3 Evt.cells d.eb ((FF.2.take 0).foldl Svc.tell p.events) :: grp (d.L.map EnR.own) :: sl 46 2 aa acl.length ac (acl.flatMap ARow.cells) :: sl 61 8 sa sn sc (subs.flatMap TxR.cells) :: grp (subs.map fun s => sl 46 2 s.aa s.x.acl.length s.ac (s.x.acl.flatMap ARow.cells)) :: l)) := Lib.hid HSF.out
  clear hn hnl HSF
  go_wp2_with (fail)
  go_loopg [53] n (fun g y wr => ∃ k : Nat, k + g = n ∧ y = .int .i64 k ∧ St w0 wr (sl 140 4 fa n fc (FF.2.flatMap toldC) :: wtb d.wb FF.1 :: sl 113 3 a5 en cap5 (R.2.1.flatMap Evt.cells) :: tre d.tb R.1 :: bx eb #[.int .i64 z, .int .i64 session, .int .i64 xid, .int .i64 kind, .string path, .string data, .slice aa acl.length ac, .int .i64 owner, .int .i64 number, .int .i64 err, .slice sa sn sc] 63 :: bx (xb + 1) #[.int .i64 0, .int .i64 0, .int .i64 0, .int .i64 0, .string ⟨#[]⟩, .string ⟨#[]⟩, .slice none 0 0, .int .i64 0, .int .i64 0, .int .i64 0, .slice none 0 0] 63 :: bx xb (([.int .i64 kind, .string path, .string data, .slice aa acl.length ac, .int .i64 owner, .int .i64 number, .int .i64 err, .slice sa sn sc] : List Value)).toArray 61 :: bx pb #[.pointer (some ⟨d.tb, 0, none⟩), .pointer (some ⟨d.wb, 0, none⟩), .slice a9 (on + 1) cap9, .int .i64 p.opened, .map (some d.ib), .map (some d.eb)] 87 :: sl 63 11 a9 (on + 1) cap9 (d.L.flatMap EnR.cells ++ [.int .i64 z, .int .i64 session, .int .i64 xid, .int .i64 kind, .string path, .string data, .slice aa acl.length ac, .int .i64 owner, .int .i64 number, .int .i64 err, .slice sa sn sc]) :: msl kbI 9 1 A.strC d.ib p.ids :: msl kbI 113 3 Evt.cells d.eb ((FF.2.take k).foldl Svc.tell p.events) :: grp (d.L.map EnR.own) :: sl 46 2 aa acl.length ac (acl.flatMap ARow.cells) :: sl 61 8 sa sn sc (subs.flatMap TxR.cells) :: grp (subs.map fun s => sl 46 2 s.aa s.x.acl.length s.ac (s.x.acl.flatMap ARow.cells)) :: l))
  case atStart => exact ⟨0, by omega, rfl, HSF2.out⟩
  case round =>
   clear HSF2
   obtain ⟨k, hkg, rfl, hS⟩ := hrel
   by_cases hlt : k < n
   ·have hx : FF.2[k]? = some (FF.2[k]'(by rw [HN.out]; exact hlt)) := List.getElem?_eq_getElem _
    obtain ⟨q, hxx⟩ : ∃ x, FF.2[k]'(by rw [HN.out]; exact hlt) = x := ⟨_, rfl⟩
    rw [hxx] at hx
    obtain ⟨s, e⟩ := q
    obtain ⟨b, o, hfa, hbl, hc⟩ := (hS.slice 0 rfl).rd.elem (k := 4) toldC (fun _ => rfl) (by omega) hx
    subst hfa
    have HCC : Hid (∀ j u, ([.int .i64 s, .int .i64 e.kind, .string e.path, .int .i64 e.zxid] : List Value)[j]? = some u → wr.cell? ((⟨b, o + k * 4, none⟩ : Addr).add j) = some u) := Lib.hid (fun j u hj => by rw [add_none]; exact hc j u hj)
    have HX := Lib.hid hx
    have hso := HWHO.out _ (List.mem_of_getElem? hx)
    have HSO : Hid (okInt s) := Lib.hid hso
    obtain ⟨ev, hev⟩ : ∃ ev, (FF.2.take k).foldl Svc.tell p.events = ev := ⟨_, rfl⟩
    have hevk : EvOk ev (2000000000 + 10000) (20000000 + 10000) := by
     rw [← hev]
     refine (EvOk.tells _ HTL.out.ev).mono ?_ ?_
     ·have := List.length_take_le k FF.2; have := HN.out; have := HNL.out; omega
     ·have := List.length_take_le k FF.2; have := HN.out; have := HNL.out; omega
    rw [hev] at hS
    have HEVK := Lib.hid (And.intro hev hevk)
    have HNB := Lib.hid (hS.box1 #[.int .i64 0, .int .i64 0, .string ⟨#[]⟩, .int .i64 0] 140)
    clear hx hxx hc hso hS hev hevk
    go_upto_region 7 with (first
     | ((with_reducible refine at_list ?_); refine wpList_load_chunk 4 _ Tryz.underlying140 rfl sizeToldT ⟨b, o + k * 4, none⟩ rfl ([.int .i64 s, .int .i64 e.kind, .string e.path, .int .i64 e.zxid] : List Value) rfl HCC.out ?_)
     | ((with_reducible refine at_list ?_); refine wpList_store_whole 4 sizeToldT wr.heap.size rfl _ _ (HNB.out.box 0 rfl) rfl ([.int .i64 s, .int .i64 e.kind, .string e.path, .int .i64 e.zxid] : List Value) rfl rfl rfl ?_; intro w5 hg5 hM5 hz5; have H5 : Hid (St w0 w5 (bx wr.heap.size #[.int .i64 s, .int .i64 e.kind, .string e.path, .int .i64 e.zxid] 140 :: sl 140 4 (some ⟨b, o, none⟩) n fc (FF.2.flatMap toldC) :: wtb d.wb FF.1 :: sl 113 3 a5 en cap5 (R.2.1.flatMap Evt.cells) :: tre d.tb R.1 :: bx eb #[.int .i64 z, .int .i64 session, .int .i64 xid, .int .i64 kind, .string path, .string data, .slice aa acl.length ac, .int .i64 owner, .int .i64 number, .int .i64 err, .slice sa sn sc] 63 :: bx (xb + 1) #[.int .i64 0, .int .i64 0, .int .i64 0, .int .i64 0, .string ⟨#[]⟩, .string ⟨#[]⟩, .slice none 0 0, .int .i64 0, .int .i64 0, .int .i64 0, .slice none 0 0] 63 :: bx xb (([.int .i64 kind, .string path, .string data, .slice aa acl.length ac, .int .i64 owner, .int .i64 number, .int .i64 err, .slice sa sn sc] : List Value)).toArray 61 :: bx pb #[.pointer (some ⟨d.tb, 0, none⟩), .pointer (some ⟨d.wb, 0, none⟩), .slice a9 (on + 1) cap9, .int .i64 p.opened, .map (some d.ib), .map (some d.eb)] 87 :: sl 63 11 a9 (on + 1) cap9 (d.L.flatMap EnR.cells ++ [.int .i64 z, .int .i64 session, .int .i64 xid, .int .i64 kind, .string path, .string data, .slice aa acl.length ac, .int .i64 owner, .int .i64 number, .int .i64 err, .slice sa sn sc]) :: msl kbI 9 1 A.strC d.ib p.ids :: msl kbI 113 3 Evt.cells d.eb ev :: grp (d.L.map EnR.own) :: sl 46 2 aa acl.length ac (acl.flatMap ARow.cells) :: sl 61 8 sa sn sc (subs.flatMap TxR.cells) :: grp (subs.map fun s => sl 46 2 s.aa s.x.acl.length s.ac (s.x.acl.flatMap ARow.cells)) :: l)) := Lib.hid (HNB.out.rebox 0 rfl hg5 hM5); clear hg5 hM5 hz5))
    clear HNB HCC
    generalize wr.heap.size = tb2 at H5 ⊢
    obtain ⟨R2, hR2, hRn, h6⟩ := (H5.out.pick 11 rfl).openMsl
    simp only [List.eraseIdx_cons_zero, List.eraseIdx_cons_succ] at h6
    obtain ⟨r, hr⟩ : ∃ r, (getK R2 s).getD ⟨[], none, 0⟩ = r := ⟨_, rfl⟩
    have h7 := ((h6.perm (List.Perm.swap _ _ _)).slOut hRn hr).drew
    have hlook := slr_look hr
    have hrl : r.xs.length ≤ 20010000 ∧ (R2.map fun p => (p.1, p.2.val)).length ≤ 2000010000 := by
     constructor
     ·have h1 := HEVK.out.2.at s
      rw [slr_get hR2 s] at h1
      have e0 : r.xs = ((getK R2 s).map SlR.xs).getD [] := by rw [← hr]; cases getK R2 s <;> rfl
      rw [e0]; omega
     ·have h1 := HEVK.out.2.many
      rw [hR2, List.length_map] at h1
      rw [List.length_map]; omega
    have hxs : r.xs = ((getK ev s).getD []) := by
     rw [slr_get hR2 s, ← hr]
     cases getK R2 s <;> rfl
    obtain ⟨rn, hrn⟩ : ∃ rn, r.xs.length = rn := ⟨_, rfl⟩
    have HR2 := Lib.hid (And.intro hR2 (And.intro hxs (And.intro hrl hrn)))
    have HLK : Hid ((getK (R2.map fun p => (p.1, p.2.val)) s).getD (.slice none 0 0) = .slice r.a rn r.cap) := Lib.hid (by rw [hlook, ← hrn]; rfl)
    have h7' : St w0 w5.drew (sl 113 3 r.a rn r.cap (r.xs.flatMap Evt.cells) :: grp ((delK R2 s).map fun p => p.2.own 113 3 Evt.cells) :: mpl kbI d.eb (R2.map fun p => (p.1, p.2.val)) :: bx tb2 #[.int .i64 s, .int .i64 e.kind, .string e.path, .int .i64 e.zxid] 140 :: sl 140 4 (some ⟨b, o, none⟩) n fc (FF.2.flatMap toldC) :: wtb d.wb FF.1 :: sl 113 3 a5 en cap5 (R.2.1.flatMap Evt.cells) :: tre d.tb R.1 :: bx eb #[.int .i64 z, .int .i64 session, .int .i64 xid, .int .i64 kind, .string path, .string data, .slice aa acl.length ac, .int .i64 owner, .int .i64 number, .int .i64 err, .slice sa sn sc] 63 :: bx (xb + 1) #[.int .i64 0, .int .i64 0, .int .i64 0, .int .i64 0, .string ⟨#[]⟩, .string ⟨#[]⟩, .slice none 0 0, .int .i64 0, .int .i64 0, .int .i64 0, .slice none 0 0] 63 :: bx xb (([.int .i64 kind, .string path, .string data, .slice aa acl.length ac, .int .i64 owner, .int .i64 number, .int .i64 err, .slice sa sn sc] : List Value)).toArray 61 :: bx pb #[.pointer (some ⟨d.tb, 0, none⟩), .pointer (some ⟨d.wb, 0, none⟩), .slice a9 (on + 1) cap9, .int .i64 p.opened, .map (some d.ib), .map (some d.eb)] 87 :: sl 63 11 a9 (on + 1) cap9 (d.L.flatMap EnR.cells ++ [.int .i64 z, .int .i64 session, .int .i64 xid, .int .i64 kind, .string path, .string data, .slice aa acl.length ac, .int .i64 owner, .int .i64 number, .int .i64 err, .slice sa sn sc]) :: msl kbI 9 1 A.strC d.ib p.ids :: grp (d.L.map EnR.own) :: sl 46 2 aa acl.length ac (acl.flatMap ARow.cells) :: sl 61 8 sa sn sc (subs.flatMap TxR.cells) :: grp (subs.map fun s => sl 46 2 s.aa s.x.acl.length s.ac (s.x.acl.flatMap ARow.cells)) :: l) := by rw [← hrn]; exact h7
    have HA := Lib.hid h7'
    clear h6 h7 h7' hR2 hRn hr hlook hrl hxs hrn H5
    have KP7 : Hid (∀ (w' : World) (A B' : Thing) (G : List Thing), St w0 w' (A :: B' :: mpl kbI d.eb (R2.map fun p => (p.1, p.2.val)) :: bx tb2 #[.int .i64 s, .int .i64 e.kind, .string e.path, .int .i64 e.zxid] 140 :: sl 140 4 (some ⟨b, o, none⟩) n fc (FF.2.flatMap toldC) :: wtb d.wb FF.1 :: sl 113 3 a5 en cap5 (R.2.1.flatMap Evt.cells) :: tre d.tb R.1 :: bx eb #[.int .i64 z, .int .i64 session, .int .i64 xid, .int .i64 kind, .string path, .string data, .slice aa acl.length ac, .int .i64 owner, .int .i64 number, .int .i64 err, .slice sa sn sc] 63 :: bx (xb + 1) #[.int .i64 0, .int .i64 0, .int .i64 0, .int .i64 0, .string ⟨#[]⟩, .string ⟨#[]⟩, .slice none 0 0, .int .i64 0, .int .i64 0, .int .i64 0, .slice none 0 0] 63 :: bx xb (([.int .i64 kind, .string path, .string data, .slice aa acl.length ac, .int .i64 owner, .int .i64 number, .int .i64 err, .slice sa sn sc] : List Value)).toArray 61 :: bx pb #[.pointer (some ⟨d.tb, 0, none⟩), .pointer (some ⟨d.wb, 0, none⟩), .slice a9 (on + 1) cap9, .int .i64 p.opened, .map (some d.ib), .map (some d.eb)] 87 :: G) → w'.cell? ⟨pb, 5, none⟩ = some (.map (some d.eb)) ∧ w'.cell? ⟨tb2, 0, none⟩ = some (.int .i64 s) ∧ w'.heap[tb2]? = some (.cells #[.int .i64 s, .int .i64 e.kind, .string e.path, .int .i64 e.zxid] 140 (0, 0)) ∧ MapL kbI w' d.eb (R2.map fun p => (p.1, p.2.val))) := Lib.hid fun w' A B' G h => ⟨blk_cell (h.box 11 rfl) 5 _ rfl, blk_cell (h.box 3 rfl) 0 _ rfl, h.box 3 rfl, h.mapL 2 rfl⟩
    have zp := heap_lt (HA.out.box 11 rfl)
    have zt := heap_lt (HA.out.box 3 rfl)
    refine wp_region_last_held (n := 17) (S := fun w' => w'.cell? ⟨pb, 5, none⟩ = some (.map (some d.eb)) ∧ w'.cell? ⟨tb2, 0, none⟩ = some (.int .i64 s) ∧ w'.heap[tb2]? = some (.cells #[.int .i64 s, .int .i64 e.kind, .string e.path, .int .i64 e.zxid] 140 (0, 0)) ∧ MapL kbI w' d.eb (R2.map fun p => (p.1, p.2.val))) (by kernel_rfl) rfl (by simp only [List.pop_toArray, List.dropLast_cons_cons, List.dropLast_singleton]; rfl) (by kernel_rfl) (by kernel_rfl) (KP7.out _ _ _ _ HA.out) (fun hHeld => ?_)
    generalize w5.drew = V at HA hHeld ⊢
    refine tk 0 (some 57) ?_ rfl rfl hHeld ?_ ?_
    rotate_left
    ·intro wq hSw; (try dsimp only at hSw); go_simp; try with_reducible rfl
    refine tk 1 (some 58) ?_ rfl rfl hHeld ?_ ?_
    rotate_left
    ·intro wq hSw; (try dsimp only at hSw); go_simp; try with_reducible rfl
    refine tk 2 (some 59) ?_ rfl rfl hHeld ?_ ?_
    rotate_left
    ·intro wq hSw; (try dsimp only at hSw); go_simp; try with_reducible rfl
    refine tk 3 (some 60) ?_ rfl rfl hHeld ?_ ?_
    rotate_left
    ·intro wq hSw; (try dsimp only at hSw); go_simp; try with_reducible rfl
    refine tk 4 (some 61) ?_ rfl rfl hHeld ?_ ?_
    rotate_left
    ·intro wq hSw; (try dsimp only at hSw); go_simp; try with_reducible rfl
    refine tk 5 (some 62) ?_ rfl rfl hHeld ?_ ?_
    rotate_left
    ·intro wq hSw; (try dsimp only at hSw); go_simp; try with_reducible rfl
    refine tk 6 (some 63) ?_ rfl rfl hHeld ?_ ?_
    rotate_left
    ·intro wq hSw; (try dsimp only at hSw); go_simp; try with_reducible rfl
    refine tk 7 (some 64) ?_ rfl rfl hHeld ?_ ?_
    rotate_left
    ·intro wq hSw; (try dsimp only at hSw); go_simp; try with_reducible rfl
    refine tk 8 (some 65) ?_ rfl rfl hHeld ?_ ?_
    rotate_left
    ·intro wq hSw; (try dsimp only at hSw); go_simp; try with_reducible rfl
    refine tk 9 (some 66) ?_ rfl rfl hHeld ?_ ?_
    rotate_left
    ·intro wq hSw; (try dsimp only at hSw); go_simp; try with_reducible rfl
    refine tk 10 (some 67) ?_ rfl rfl hHeld ?_ ?_
    rotate_left
    ·intro wq hSw; (try dsimp only at hSw); go_simp; try with_reducible rfl
    refine tk 11 (some 68) ?_ rfl rfl hHeld ?_ ?_
    rotate_left
    ·intro wq hSw; (try dsimp only at hSw); go_simp; try with_reducible rfl
    try simp only [Act.put, Nat.zero_add, zA, zB, zC]
    refine wpAnyH_take (i := 12) (oi := ⟨some 69, _, _, _, _, _⟩) (v := _) rfl (by kernel_rfl) (by kernel_rfl) (by kernel_rfl) (fun _ _ _ h => h) (yieldsLookL Tryz.underlying85 (by rfl) rfl d.eb (by rfl) (R2.map fun p => (p.1, p.2.val)) zeroEvs s (by rfl) HSO.out _ HLK.out (fun _ h => h.2.2.2)) hHeld ?_
    try simp only [Act.put, Nat.zero_add, zA, zB, zC]
    refine tk 13 (some 70) ?_ rfl rfl hHeld ?_ ?_
    rotate_left
    ·intro wq hSw; (try dsimp only at hSw); go_simp; try with_reducible rfl
    try simp only [Act.put, Nat.zero_add, zA, zB, zC]
    refine wpAnyH_take (i := 14) (oi := ⟨some 71, _, _, _, _, _⟩) (v := _) rfl (by kernel_rfl) (by kernel_rfl) (by kernel_rfl) (fun _ _ _ h => h) (yields_load 3 _ (by rfl) rfl Tryz.underlying113 rfl sizeEvtT ⟨tb2, 1, none⟩ (by rfl) ([.int .i64 e.kind, .string e.path, .int .i64 e.zxid] : List Value) rfl (fun _ h => box_from [_] _ h.2.2.1)) hHeld ?_
    try simp only [Act.put, Nat.zero_add, zA, zB, zC]
    refine wpAnyH_ready (rs := [15]) (by kernel_rfl) (by simp) ?_
    refine (AllReadyH.cons (o := ⟨some 72, _, _, _, _, _⟩) rfl (fun K hK => ?_) AllReadyH.nil)
    go_simp
    have hb := heap_alloc_new V (.cells #[.int .i64 e.kind, .string e.path, .int .i64 e.zxid] 113)
    have H8 := Lib.hid (HA.out.mod ((Mod.refl (fun _ => False) V).alloc (.cells #[.int .i64 e.kind, .string e.path, .int .i64 e.zxid] 113)))
    refine hK.out _ _ (KP7.out _ _ _ _ H8.out) (fun hHeld => ?_)
    clear hK K
    try simp only [Act.put, Nat.zero_add, zA, zB, zC]
    clear HA
    generalize V.alloc _ = V6 at hb H8 hHeld ⊢
    generalize V.heap.size = nb at hb ⊢
    refine wpAnyH_ready (rs := [16]) (by kernel_rfl) (by simp) ?_
    refine (AllReadyH.cons (o := ⟨some 73, _, _, _, _, _⟩) rfl (fun K hK => ?_) AllReadyH.nil)
    refine step_append rfl rfl 113 ep ez 3 32 (by kernel_rfl) HEI.out.1 HEI.out.2.1 HEI.out.2.2.1 HEI.out.2.2.2.1 HEI.out.2.2.2.2 r.a rn r.cap (r.xs.flatMap Evt.cells) rfl (H8.out.slice 0 rfl) (some ⟨nb, 0, none⟩) 1 1 ([.int .i64 e.kind, .string e.path, .int .i64 e.zxid] : List Value) rfl (Sl.new (E := 113) (k := 3) (n := 1) hb rfl (by unfold maxLen; omega)).rd (fun u hu => List.all_eq_true.1 (show ([.int .i64 e.kind, .string e.path, .int .i64 e.zxid] : List Value).all (·.oneCell') = true from rfl) u hu) (by have := HR2.out.2.2.1.1; have := HR2.out.2.2.2; unfold maxLen; omega) (by have := HR2.out.2.2.1.1; have := HR2.out.2.2.2; omega) ?_
    intro a10 cap10 w10 hS10 hM10 hF10 hN10 hR10
    have H10 := Lib.hid (H8.out.regrow 0 rfl hS10 hM10 hF10)
    clear hS10 hM10 hF10 hN10 hR10 H8 hb
    refine hK.out _ _ (KP7.out _ _ _ _ H10.out) (fun hHeld => ?_)
    clear hK K
    try simp only [Act.put, Nat.zero_add, zA, zB, zC]
    refine wpAnyH_done (by kernel_rfl) ?_ _
    refine LastQ.listP rfl ?_
    refine wpList_putL Tryz.underlying85 d.eb (R2.map fun p => (p.1, p.2.val)) (H10.out.mapL 2 rfl) rfl (by have := HR2.out.2.2.1.2; unfold maxLen; omega) s rfl HSO.out (.slice a10 (rn + 1 : Nat) cap10) rfl ?_
    intro w11 hm11 hM11
    have H11 := H10.out.remapL 2 rfl hm11 hM11
    simp only [zB, zC] at H11
    obtain ⟨r2, hr2⟩ : ∃ r2 : SlR Evt, (⟨r.xs ++ [e], a10, cap10⟩ : SlR Evt) = r2 := ⟨_, rfl⟩
    have ev2 : Value.slice a10 (rn + 1 : Nat) cap10 = r2.val := by
     rw [← hr2]; show _ = Value.slice a10 (r.xs ++ [e]).length cap10
     rw [List.length_append, HR2.out.2.2.2]; rfl
    have ev3 : sl 113 3 a10 (rn + 1) cap10 (r.xs.flatMap Evt.cells ++ [.int .i64 e.kind, .string e.path, .int .i64 e.zxid]) = r2.own 113 3 Evt.cells := by
     rw [← hr2]; show _ = sl 113 3 a10 (r.xs ++ [e]).length cap10 ((r.xs ++ [e]).flatMap Evt.cells)
     rw [List.length_append, List.flatMap_append, HR2.out.2.2.2]; rfl
    rw [ev2, ev3] at H11
    have H12 := St.slIn (M := ev) HR2.out.1 (H11.pick 2 rfl)
    rw [show r2.xs = (getK ev s).getD [] ++ [e] from by rw [← hr2, ← HR2.out.2.1]] at H12
    have ht : putK ev s ((getK ev s).getD [] ++ [e]) = (FF.2.take (k + 1)).foldl Svc.tell p.events := by
     rw [take_snoc' HX.out, List.foldl_append, HEVK.out.1]; rfl
    rw [ht] at H12
    simp only [List.eraseIdx_cons_zero, List.eraseIdx_cons_succ] at H12
    have H13 := (H12.pick 1 rfl).tail
    simp only [List.eraseIdx_cons_zero, List.eraseIdx_cons_succ] at H13
    have H14 := H13.perm (List.perm_append_comm_assoc [_] [_, _, _, _, _, _, _, _, _, _] _)
    go_wp2
    go_roundg (n - (k + 1))
    case measure => omega
    case rel => exact ⟨k + 1, by omega, by simp, H14⟩
   ·have hk : FF.2.take k = FF.2 := List.take_of_length_le (by rw [HN.out]; omega)
    rw [hk] at hS
    have HS := Lib.hid hS
    clear hS hk
    go_wp2
    have hnn := HN.out
    subst hnn
    go_meet
    case rel => exact (HS.out.tail.perm (List.perm_append_comm_assoc [_] [_, _, _, _, _, _] _)).tail
 case rest =>
  have HS8 := Lib.hid hcut
  clear hcut HSF
  have k0 : (kind == 6) = false := by have := HF.out.2; simpa using this
  have c0 := blk_cell (HS8.out.box 3 rfl) 0 (.int .i64 kind) rfl
  have zx := heap_lt (HS8.out.box 3 rfl)
  have HCC : Hid (∀ j u, ([.int .i64 z, .int .i64 session, .int .i64 xid, .int .i64 kind, .string path, .string data, .slice aa acl.length ac, .int .i64 owner, .int .i64 number, .int .i64 err, .slice sa sn sc] : List Value)[j]? = some u → wc.cell? ((⟨eb, 0, none⟩ : Addr).add j) = some u) := Lib.hid (fun j u hj => by rw [add_none, Nat.zero_add]; exact blk_cell (HS8.out.box 1 rfl) j u (by rw [← hj]; exact List.getElem?_toArray))
  go_wp2_with (first
   | ((with_reducible refine at_list ?_); refine wpList_load_chunk 11 _ Tryz.underlying63 rfl sizeEnT ⟨eb, 0, none⟩ rfl ([.int .i64 z, .int .i64 session, .int .i64 xid, .int .i64 kind, .string path, .string data, .slice aa acl.length ac, .int .i64 owner, .int .i64 number, .int .i64 err, .slice sa sn sc] : List Value) rfl HCC.out ?_)
   | ((with_reducible refine at_list ?_); refine wpList_store_whole 11 sizeEnT (xb + 1) rfl _ _ (HS8.out.box 2 rfl) rfl ([.int .i64 z, .int .i64 session, .int .i64 xid, .int .i64 kind, .string path, .string data, .slice aa acl.length ac, .int .i64 owner, .int .i64 number, .int .i64 err, .slice sa sn sc] : List Value) rfl rfl rfl ?_; intro w5 hg5 hM5 hz5; have H9 := Lib.hid (HS8.out.rebox 2 rfl hg5 hM5); clear hg5 hM5 hz5))
  refine bodyPost_ret (results_c1 rfl _ w5 (xb + 1) _ _ _ _ rfl (H9.out.box 2 rfl) Tryz.underlying63 rfl sizeEnT) rfl ?_
  obtain ⟨E, hE⟩ : ∃ E : EnR, (⟨z, session, xid, ⟨⟨kind, path, data, acl, owner, number, err⟩, aa, ac, sa, sn, sc⟩, subs⟩ : EnR) = E := ⟨_, rfl⟩
  have hp := put_is p session xid ⟨⟨kind, path, data, acl, owner, number, err⟩, subs.map TxR.x⟩ HF.out.2
  rw [HD.out.2.1, HD.out.2.2.2] at hp
  simp only at hp
  rw [HR.out, HFF.out] at hp
  refine ⟨E, a9, cap9, by rw [HD.out.2.1, HD.out.2.2.2, hE], by rw [← hE]; rfl, ?_, ?_⟩
  ·rw [hp]
   refine ⟨?_, fun X hX => ?_⟩
   ·show p.order ++ [_] = (d.L ++ [E]).map EnR.en
    rw [HD.out.1.order, List.map_append, ← hE]; rfl
   ·rcases List.mem_append.1 hX with h | h
    ·exact HD.out.1.subs X h
    ·rw [List.mem_singleton.1 h, ← hE]; exact HF.out.1.n
  ·rw [hp]
   have h9 := H9.out
   simp only [zB, zC] at h9
   have g1 := h9.sub (((List.Sublist.refl _).cons _ |>.cons _ |>.cons _).cons_cons _)
   have g2 := ((g1.pick 9 rfl).pick 9 rfl).pick 9 rfl
   simp only [List.eraseIdx_cons_zero, List.eraseIdx_cons_succ] at g2
   have g3 := (((St.regrp [_, _, _] g2).pick 7 rfl))
   simp only [List.eraseIdx_cons_zero, List.eraseIdx_cons_succ] at g3
   have g4 := (((((((St.grpSnoc g3).pick 6 rfl).pick 6 rfl).pick 6 rfl).pick 6 rfl).pick 5 rfl).pick 6 rfl)
   simp only [List.eraseIdx_cons_zero, List.eraseIdx_cons_succ] at g4
   have e1 : (d.L ++ [E]).length = on + 1 := by rw [List.length_append, HD.out.2.2.1]; rfl
   have e2 : (d.L ++ [E]).flatMap EnR.cells = d.L.flatMap EnR.cells ++ [.int .i64 z, .int .i64 session, .int .i64 xid, .int .i64 kind, .string path, .string data, .slice aa acl.length ac, .int .i64 owner, .int .i64 number, .int .i64 err, .slice sa sn sc] := by rw [List.flatMap_append, ← hE]; rfl
   have e3 : (d.L ++ [E]).map EnR.own = d.L.map EnR.own ++ [E.own] := by rw [List.map_append]; rfl
   unfold SD.things
   simp only [List.cons_append, List.nil_append]
   rw [e1, e2, e3, ← hE]
   exact g4
end Go.Proofs.YtonnbkebjeoflaaGreatDoor
