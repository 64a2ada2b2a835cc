/-
  Laws of PlainF.
  Conditions: each law states its own.
-/
import Derived.Test.YtonnbkebjeoflaaGreatDoorJ34
import Derived.Test.YtonnbkebjeoflaaGreatDoorJ41
import Derived.Test.YtonnbkebjeoflaaGreatDoorJ43
set_option maxHeartbeats 16000000
set_option linter.unusedSectionVars false
set_option linter.unusedSimpArgs false
set_option linter.unusedVariables false
set_option maxRecDepth 100000
namespace Go.Proofs.YtonnbkebjeoflaaGreatDoor
open Go.RowKit Go.Maps
structure RqOk (t : RqR) (subs : List RqR) (w : World) : Prop where
 racl : Rd w 2 t.aa t.r.acl.length t.ac (t.r.acl.flatMap ARow.cells)
 rsubs : t.r.kind = 6 → Rd w 10 t.sa t.sn t.sc (subs.flatMap RqR.cells)
 rall : t.r.kind = 6 → ∀ u ∈ subs, Rd w 2 u.aa u.r.acl.length u.ac (u.r.acl.flatMap ARow.cells)
structure RqFit (t : RqR) (subs : List RqR) : Prop where
 ft : t.fit
 fn : t.r.kind = 6 → subs.length = t.sn
 fall : t.r.kind = 6 → ∀ u ∈ subs, u.fit
theorem txnG {w : World} (tb : Nat) (T : Tree) (s : Int) (ids : List ByteArray) (ia : Option Addr) (ic : Nat) (t : RqR) (subs : List RqR) (X : Rq) (hX : X.r = t.r) (hXs : X.subs = subs.map (·.r)) (hT : TreeAt w tb T) (hg : T.good) (hz : okInt T.zxid) (hss : T.sessions.length ≤ 16) (hi : Rd w 1 ia ids.length ic (ids.flatMap A.strC)) (hok : RqOk t subs w) (hfit : RqFit t subs) (env : Env w) (h0 : s ≠ 0) (hs : okInt s) (hth : (getK T.sessions s).isSome = true) (hc : Tree.changes t.r.kind = true) (h8 : t.r.kind ≠ 8) (CM : t.r.kind = 6 → Calls Tryz.prog 31 #[.pointer (some ⟨tb, 0, none⟩), .int .i64 s, .slice ia ids.length ic, .agg t.cells.toArray] w (T2Post (T.txn s ids X) w)) :
 Calls Tryz.prog 31 #[.pointer (some ⟨tb, 0, none⟩), .int .i64 s, .slice ia ids.length ic, .agg t.cells.toArray] w (T2Post (T.txn s ids X) w) := by
 have hq : (t.wish tb T s ids ia ic).ok w := ⟨hT, hi, hok.racl, env⟩
 have hf : (t.wish tb T s ids ia ic).fit := ⟨hg.fit, hfit.ft.path, hfit.ft.acl, hfit.ft.rows, hfit.ft.flags, fun n hn => (hg.node n hn).st.cversion⟩
 by_cases h6 : t.r.kind = 6
 ·exact CM h6
 ·exact txn_any_part (t.wish tb T s ids ia ic) w hq hf h0 hs X hX hc hth h6 h8
theorem St.entOk {w0 w : World} {pb : Nat} {p : Svc} {d : SD} {l : List Thing} (h : St w0 w (d.things pb p ++ l)) {E : EnR} (hE : E ∈ d.L) : E.ok w := by
 have h1 := (h.pick 6 rfl).ungrp
 obtain ⟨j, hj, he⟩ := List.mem_iff_getElem.1 (List.mem_map_of_mem (f := EnR.own) hE)
 have h2 := (h1.pick j (t := grp (TxnOwn E.r E.subs)) (by rw [List.getElem?_append_left hj, List.getElem?_eq_getElem hj, he]; rfl)).ungrp
 exact ⟨(h2.slice 0 rfl).rd, (h2.slice 1 rfl).rd, fun s hs => (h2.inGrp 2 rfl (List.mem_map_of_mem (f := fun s : TxR => sl 46 2 s.aa s.x.acl.length s.ac (s.x.acl.flatMap ARow.cells)) hs)).rd⟩
theorem reply_lists (T : Tree) (z x : Int) (X : Tx2) : (T.reply z x X).p.acl = [] ∧ (T.reply z x X).p.kids = [] := by
 unfold Tree.reply
 simp only
 split
 ·exact told_lists _ _
 ·split <;> exact told_lists _ _
section
variable {P : Program} {ops : Array Oper} {o : Oper} {a : Act} {k e t : TypeId} {α : Type} [DecidableEq α] {B : KB P k α}
theorem step_lookL (ht : P.underlying t = some (.map k e)) {w : World} {K : Act → World → Prop} {Q : Exit → Act → World → Prop} {G : Prop} (hgd : o.guard = none) {m x : Operand} (ho : o.op = .lookup t m x false) (b : Nat) (M : List (α × Value)) (h : MapL B w b M) (hm : a.eval m = .map (some b)) {z : Value} (hz : (zeroValue e).run P w = .ok z w) (y : α) (hx : a.eval x = B.inj y) (hy : B.ok y) (v : Value) (hv : (getK M y).getD z = v)
 (hn : K (a.put o.dst v) w) : if Region.wanted o (yielded ops a.tmps) = true then Oper.wp P o a w K Q else G := by
 have hw : Region.wanted o (yielded ops a.tmps) = true := by simp [Region.wanted, hgd]
 rw [if_pos hw]
 have hr := h.look ht false hz hy
 subst hv
 unfold Oper.wp
 simp [execOp, ho, hm, hx, hr, Result.andThen]
 exact hn
end
def CallPost (pb : Nat) (R : Svc × Tree.Rp × Int) (w0 : World) (l : List Thing) (e : Ending) (w' : World) : Prop :=
 ∃ (qaa : Option Addr) (qac : Nat) (qka : Option Addr) (qkc : Nat) (qsa : Option Addr) (qsc : Nat), e = .returned (.tuple #[.agg (RpC R.2.1.p qaa qac qka qkc qsa R.2.1.subs.length qsc).toArray, .int .i64 R.2.2]) ∧
   St w0 w' (svc pb R.1 :: sl 46 2 qaa R.2.1.p.acl.length qac (R.2.1.p.acl.flatMap ARow.cells) :: sl 9 1 qka R.2.1.p.kids.length qkc (R.2.1.p.kids.map Value.string) :: sl 33 17 qsa R.2.1.subs.length qsc (R.2.1.subs.flatMap rpS) :: l)
def Svc.does (p : Svc) (s : Int) (X : Rq) : Svc × Tree.Rp1 × List Tree.Rp1 :=
 if Tree.changes X.r.kind then ((p.put s X.r.xid (p.tree.txn s (p.idsOf s) X)).1, ((p.put s X.r.xid (p.tree.txn s (p.idsOf s) X)).1.tree.reply (4294967296 + p.order.length + 1) X.r.xid (p.tree.txn s (p.idsOf s) X)).p, ((p.put s X.r.xid (p.tree.txn s (p.idsOf s) X)).1.tree.reply (4294967296 + p.order.length + 1) X.r.xid (p.tree.txn s (p.idsOf s) X)).subs)
 else ((p.readS s X).1, (p.readS s X).2, [])
theorem put_en (p : Svc) (s xid : Int) (X : Tx2) : (p.put s xid X).2 = ⟨4294967296 + p.order.length + 1, s, xid, X⟩ := rfl
theorem call_does {p : Svc} {s : Int} (h : p.there s = true) (X : Rq) : p.call s X = ((p.does s X).1, ⟨{ (p.does s X).2.1 with xid := X.r.xid, zxid := (p.does s X).1.tree.zxid }, (p.does s X).2.2⟩, 0) := by
 unfold Svc.call Svc.does
 rw [if_neg (by rw [h]; simp)]
 split
 ·simp only [put_en]
 ·rfl
theorem call_st {w0 w : World} {l : List Thing} (pb : Nat) (p : Svc) {N M : Nat} (h : St w0 w (svc pb p :: l)) (env : Env w0) (hg : p.good N M) (hN : N ≤ 1000000) (hM : M ≤ 20000000) (s : Int) (hth : p.there s = true) (t : RqR) (subs : List RqR) (X : Rq) (hX : X.r = t.r) (hXs : X.subs = subs.map (·.r)) (hfit : RqFit t subs) (h8 : t.r.kind ≠ 8)
 (hin : ∀ w', St w0 w' l → RqOk t subs w')
 (CM : t.r.kind = 6 → ∀ (w' : World) (ids : List ByteArray) (ia : Option Addr) (ic : Nat) (tb : Nat), Mod (fun _ => False) w0 w' → TreeAt w' tb p.tree → Rd w' 1 ia ids.length ic (ids.flatMap A.strC) → RqOk t subs w' → Calls Tryz.prog 31 #[.pointer (some ⟨tb, 0, none⟩), .int .i64 s, .slice ia ids.length ic, .agg t.cells.toArray] w' (T2Post (p.tree.txn s ids X) w'))
 (CR : Tree.changes t.r.kind = false → ∀ w' G, St w0 w' (svc pb p :: G) → (∀ w2, St w0 w2 G → St w0 w2 l) → Calls Tryz.prog 32 #[.pointer (some ⟨pb, 0, none⟩), .int .i64 s, .agg t.cells.toArray] w' (RdsPost pb (p.readS s X) w0 G)) :
 Calls Tryz.prog 9 #[.pointer (some ⟨pb, 0, none⟩), .int .i64 s, .agg t.cells.toArray] w (CallPost pb (p.call s X) w0 l) := by
 have hs := hg.sInt hN (hg.has hth)
 obtain ⟨RES, hRES⟩ : ∃ R, p.does s X = R := ⟨_, rfl⟩
 rw [call_does hth X, hRES]
 obtain ⟨ch, hch⟩ : ∃ c, Tree.changes t.r.kind = c := ⟨_, rfl⟩
 have hdoes := hRES
 unfold Svc.does at hdoes
 rw [show Tree.changes X.r.kind = ch from by rw [hX]; exact hch] at hdoes
 rw [hch] at CR
 have HDO := Lib.hid hdoes
 clear hdoes hRES
 have hxid : X.r.xid = t.r.xid := by rw [hX]
 have CT : Hid (∀ w', St w0 w' (svc pb p :: l) → Calls Tryz.prog 29 #[.pointer (some ⟨pb, 0, none⟩), .int .i64 s] w' (CpPost (.bool true) w')) := Lib.hid (fun w' h' => by have := pthere_any pb p h' s hs.1; rw [hth] at this; exact this)
 have CC : Hid (∀ w', Calls Tryz.prog 17 #[.int .i64 t.r.kind] w' (fun e w2 => e = .returned (.bool ch) ∧ w2 = w')) := Lib.hid (fun w' => by have := changes_any t.r.kind w'; rw [hch] at this; exact this)
 have CX : Hid (ch = true → ∀ (w' : World) (ids : List ByteArray) (ia : Option Addr) (ic : Nat) (tb : Nat), Mod (fun _ => False) w0 w' → TreeAt w' tb p.tree → Rd w' 1 ia ids.length ic (ids.flatMap A.strC) → RqOk t subs w' → Calls Tryz.prog 31 #[.pointer (some ⟨tb, 0, none⟩), .int .i64 s, .slice ia ids.length ic, .agg t.cells.toArray] w' (T2Post (p.tree.txn s ids X) w')) :=
  Lib.hid (fun hc w' ids ia ic tb hm hT hi hok => txnG tb p.tree s ids ia ic t subs X hX hXs hT hg.tree hg.zxid hg.sess hi hok hfit (env.old hm) hs.2 hs.1 hth (by rw [hch]; exact hc) h8 (fun h6 => CM h6 w' ids ia ic tb hm hT hi hok))
 have h6 : (p.tree.txn s (p.idsOf s) X).x.kind ≠ 6 := fun h => h8 (by rw [← hX]; exact txn6 h)
 have hTX := txn_ok hg.tree hg.zxid hs.1 (p.idsOf s) X
 have hpg : (p.put s X.r.xid (p.tree.txn s (p.idsOf s) X)).1.tree.fit := (put_good hg hN hTX (txn_not5 _ _ _ _) s X.r.xid).tree.fit
 obtain ⟨⟨kind, xid, path, data, acl, flags, version, watch⟩, aa, ac, sa, sn, sc, ra, rn, rc⟩ := t
 simp only at hX hch h8 hin CC CR CX hxid
 simp only [RqR.cells] at CR CX ⊢
 have HTX := Lib.hid (And.intro h6 (And.intro hTX hpg))
 have HX := Lib.hid (And.intro hX (And.intro hxid hch))
 have HG := Lib.hid (And.intro hg (And.intro hN (And.intro hM env)))
 have HIN := Lib.hid hin
 have HCR := Lib.hid CR
 have HSI : Hid (okInt s) := Lib.hid hs.1
 rw [hxid]
 have HS0 := Lib.hid ((h.box1 #[.int .i64 kind, .int .i64 xid, .string path, .string data, .slice aa acl.length ac, .int .i64 flags, .int .i64 version, .bool watch, .slice sa sn sc, .slice ra rn rc] 40).box1 #[.int .i64 0, .int .i64 0, .int .i64 0, .string ⟨#[]⟩, .string ⟨#[]⟩, .int .i64 0, .int .i64 0, .int .i64 0, .int .i64 0, .int .i64 0, .int .i64 0, .int .i64 0, .int .i64 0, .int .i64 0, .slice none 0 0, .slice none 0 0, .slice none 0 0] 33)
 have HS0' : Hid (St w0 ((w.alloc (.cells #[.int .i64 kind, .int .i64 xid, .string path, .string data, .slice aa acl.length ac, .int .i64 flags, .int .i64 version, .bool watch, .slice sa sn sc, .slice ra rn rc] 40)).alloc (.cells #[.int .i64 0, .int .i64 0, .int .i64 0, .string ⟨#[]⟩, .string ⟨#[]⟩, .int .i64 0, .int .i64 0, .int .i64 0, .int .i64 0, .int .i64 0, .int .i64 0, .int .i64 0, .int .i64 0, .int .i64 0, .slice none 0 0, .slice none 0 0, .slice none 0 0] 33)) (svc pb p :: l)) := Lib.hid HS0.out.tail.tail
 have hz1 : (w.alloc (.cells #[.int .i64 kind, .int .i64 xid, .string path, .string data, .slice aa acl.length ac, .int .i64 flags, .int .i64 version, .bool watch, .slice sa sn sc, .slice ra rn rc] 40)).heap.size = w.heap.size + 1 := World.size_alloc _ _
 rw [hz1] at HS0
 clear hz1 h hX hch h8 hin hxid CR hs hth hg hN hM env h6 hTX hpg
 go_enter Tryz.func9, Tryz.ntmps9
 go_upto_if 16 with (first | (go_at_call 17; refine (CC.out _).mono ?_; rintro e _ ⟨rfl, rfl⟩) | (go_at_call 29; refine (CT.out _ HS0'.out).mono ?_; rintro e w2 ⟨rfl, hM2⟩; have H2 := Lib.hid (HS0.out.mod hM2); have ck := blk_cell (H2.out.box 1 rfl) 0 (.int .i64 kind) rfl; have zk := heap_lt (H2.out.box 1 rfl); clear hM2))
 have H3 := Lib.hid (H2.out.box1 #[.int .i64 0, .int .i64 0, .int .i64 0, .string ⟨#[]⟩, .string ⟨#[]⟩, .int .i64 0, .int .i64 0, .int .i64 0, .int .i64 0, .int .i64 0, .int .i64 0, .int .i64 0, .int .i64 0, .int .i64 0, .slice none 0 0, .slice none 0 0, .slice none 0 0] 33)
 clear H2 HS0 HS0' CT CC ck zk
 generalize w2.alloc _ = W3 at H3 ⊢
 generalize w2.heap.size = ob at H3 ⊢
 generalize w.heap.size = xb at H3 ⊢
 go_cut [] (fun wx => ∃ (qxid qzx qer : Int) (qpa qda : ByteArray) (q1 q2 q3 q4 q5 q6 q7 qln qkn : Int) (qacl : List ARow) (qkids : List ByteArray) (qsubs : List Tree.Rp1) (qaa : Option Addr) (qac : Nat) (qka : Option Addr) (qkc : Nat) (qsa : Option Addr) (qsc : Nat) (p2 : Svc), Hid ((p2, (⟨qxid, qzx, qer, qpa, qda, ⟨q1, q2, q3, q4, q5, q6, q7⟩, qln, qkn, qacl, qkids⟩ : Tree.Rp1), qsubs) = RES) ∧ St w0 wx (sl 46 2 qaa qacl.length qac (qacl.flatMap ARow.cells) :: sl 9 1 qka qkids.length qkc (qkids.map Value.string) :: sl 33 17 qsa qsubs.length qsc (qsubs.flatMap rpS) :: bx ob #[.int .i64 qxid, .int .i64 qzx, .int .i64 qer, .string qpa, .string qda, .int .i64 q1, .int .i64 q2, .int .i64 q3, .int .i64 q4, .int .i64 q5, .int .i64 q6, .int .i64 q7, .int .i64 qln, .int .i64 qkn, .slice qaa qacl.length qac, .slice qka qkids.length qkc, .slice qsa qsubs.length qsc] 33 :: bx (xb + 1) #[.int .i64 0, .int .i64 0, .int .i64 0, .string ⟨#[]⟩, .string ⟨#[]⟩, .int .i64 0, .int .i64 0, .int .i64 0, .int .i64 0, .int .i64 0, .int .i64 0, .int .i64 0, .int .i64 0, .int .i64 0, .slice none 0 0, .slice none 0 0, .slice none 0 0] 33 :: bx xb #[.int .i64 kind, .int .i64 xid, .string path, .string data, .slice aa acl.length ac, .int .i64 flags, .int .i64 version, .bool watch, .slice sa sn sc, .slice ra rn rc] 40 :: svc pb p2 :: l))
 case first =>
  cases ch with
  | true =>
    obtain ⟨d, hd, hS⟩ := (H3.out.pick 3 rfl).openS
    simp only [List.eraseIdx_cons_zero, List.eraseIdx_cons_succ] at hS
    have HD := Lib.hid hd
    have HA := Lib.hid hS.drew
    clear hS hd H3
    go_upto_region 5 with (fail)
    have KP : Hid (∀ (w' : World) (G : List Thing) (i j : Nat) (v1 v2 v3 v5 : Value), St w0 w' G → G[i]? = some (bx pb #[.pointer (some ⟨d.tb, 0, none⟩), v1, v2, v3, .map (some d.ib), v5] 87) → G[j]? = some (bx xb #[.int .i64 kind, .int .i64 xid, .string path, .string data, .slice aa acl.length ac, .int .i64 flags, .int .i64 version, .bool watch, .slice sa sn sc, .slice ra rn rc] 40) → w'.cell? ⟨pb, 0, none⟩ = some (.pointer (some ⟨d.tb, 0, none⟩)) ∧ w'.cell? ⟨pb, 4, none⟩ = some (.map (some d.ib)) ∧ w'.cell? ⟨xb, 1, none⟩ = some (.int .i64 xid) ∧ w'.heap[xb]? = some (.cells #[.int .i64 kind, .int .i64 xid, .string path, .string data, .slice aa acl.length ac, .int .i64 flags, .int .i64 version, .bool watch, .slice sa sn sc, .slice ra rn rc] 40 (0, 0))) := Lib.hid fun w' G i j v1 v2 v3 v5 h hi hj => ⟨blk_cell (h.box i hi) 0 _ rfl, blk_cell (h.box i hi) 4 _ rfl, blk_cell (h.box j hj) 1 _ rfl, h.box j hj⟩
    have zp := heap_lt (HA.out.box 0 rfl)
    have zx := heap_lt (HA.out.box 9 rfl)
    refine wp_region_last_held (n := 25) (S := fun w' => w'.cell? ⟨pb, 0, none⟩ = some (.pointer (some ⟨d.tb, 0, none⟩)) ∧ w'.cell? ⟨pb, 4, none⟩ = some (.map (some d.ib)) ∧ w'.cell? ⟨xb, 1, none⟩ = some (.int .i64 xid) ∧ w'.heap[xb]? = some (.cells #[.int .i64 kind, .int .i64 xid, .string path, .string data, .slice aa acl.length ac, .int .i64 flags, .int .i64 version, .bool watch, .slice sa sn sc, .slice ra rn rc] 40 (0, 0))) (by kernel_rfl) rfl (by simp only [List.pop_toArray, List.dropLast_cons_cons, List.dropLast_singleton]; rfl) (by kernel_rfl) (by kernel_rfl) (KP.out _ _ 0 9 _ _ _ _ HA.out rfl rfl) (fun hHeld => ?_)
    generalize W3.drew = V at HA hHeld ⊢
    refine tk 0 (some 17) ?_ rfl rfl hHeld ?_ ?_
    rotate_left
    ·intro wq hSw; (try dsimp only at hSw); go_simp; try with_reducible rfl
    refine tk 1 (some 18) ?_ rfl rfl hHeld ?_ ?_
    rotate_left
    ·intro wq hSw; (try dsimp only at hSw); go_simp; try with_reducible rfl
    refine tk 2 (some 19) ?_ rfl rfl hHeld ?_ ?_
    rotate_left
    ·intro wq hSw; (try dsimp only at hSw); go_simp; try with_reducible rfl
    refine tk 3 (some 20) ?_ rfl rfl hHeld ?_ ?_
    rotate_left
    ·intro wq hSw; (try dsimp only at hSw); go_simp; try with_reducible rfl
    refine tk 4 (some 21) ?_ rfl rfl hHeld ?_ ?_
    rotate_left
    ·intro wq hSw; (try dsimp only at hSw); go_simp; try with_reducible rfl
    refine tk 5 (some 22) ?_ rfl rfl hHeld ?_ ?_
    rotate_left
    ·intro wq hSw; (try dsimp only at hSw); go_simp; try with_reducible rfl
    refine tk 6 (some 23) ?_ rfl rfl hHeld ?_ ?_
    rotate_left
    ·intro wq hSw; (try dsimp only at hSw); go_simp; try with_reducible rfl
    refine tk 7 (some 24) ?_ rfl rfl hHeld ?_ ?_
    rotate_left
    ·intro wq hSw; (try dsimp only at hSw); go_simp; try with_reducible rfl
    refine tk 8 (some 25) ?_ rfl rfl hHeld ?_ ?_
    rotate_left
    ·intro wq hSw; (try dsimp only at hSw); go_simp; try with_reducible rfl
    refine tk 9 (some 26) ?_ rfl rfl hHeld ?_ ?_
    rotate_left
    ·intro wq hSw; (try dsimp only at hSw); go_simp; try with_reducible rfl
    refine tk 10 (some 27) ?_ rfl rfl hHeld ?_ ?_
    rotate_left
    ·intro wq hSw; (try dsimp only at hSw); go_simp; try with_reducible rfl
    refine tk 11 (some 28) ?_ rfl rfl hHeld ?_ ?_
    rotate_left
    ·intro wq hSw; (try dsimp only at hSw); go_simp; try with_reducible rfl
    refine tk 12 (some 29) ?_ rfl rfl hHeld ?_ ?_
    rotate_left
    ·intro wq hSw; (try dsimp only at hSw); go_simp; try with_reducible rfl
    refine tk 13 (some 30) ?_ rfl rfl hHeld ?_ ?_
    rotate_left
    ·intro wq hSw; (try dsimp only at hSw); go_simp; try with_reducible rfl
    refine tk 14 (some 31) ?_ rfl rfl hHeld ?_ ?_
    rotate_left
    ·intro wq hSw; (try dsimp only at hSw); go_simp; try with_reducible rfl
    refine tk 15 (some 32) ?_ rfl rfl hHeld ?_ ?_
    rotate_left
    ·intro wq hSw; (try dsimp only at hSw); go_simp; try with_reducible rfl
    refine tk 16 (some 33) ?_ rfl rfl hHeld ?_ ?_
    rotate_left
    ·intro wq hSw; (try dsimp only at hSw); go_simp; try with_reducible rfl
    refine tk 17 (some 34) ?_ rfl rfl hHeld ?_ ?_
    rotate_left
    ·intro wq hSw; (try dsimp only at hSw); go_simp; try with_reducible rfl
    refine tk 18 (some 35) ?_ rfl rfl hHeld ?_ ?_
    rotate_left
    ·intro wq hSw; (try dsimp only at hSw); go_simp; try with_reducible rfl
    refine tk 19 (some 36) ?_ rfl rfl hHeld ?_ ?_
    rotate_left
    ·intro wq hSw; (try dsimp only at hSw); go_simp; try with_reducible rfl
    try simp only [Act.put, Nat.zero_add, zA, zB, zC]
    refine wpAnyH_take (i := 21) (oi := ⟨some 38, _, _, _, _, _⟩) (v := _) rfl (by kernel_rfl) (by kernel_rfl) (by kernel_rfl) (fun _ _ _ h => h) (yieldsT 10 _ (by rfl) rfl Tryz.underlying40 rfl sizeReq xb (by rfl) ([.int .i64 kind, .int .i64 xid, .string path, .string data, .slice aa acl.length ac, .int .i64 flags, .int .i64 version, .bool watch, .slice sa sn sc, .slice ra rn rc] : List Value) rfl 40 (fun _ h => h.2.2.2)) hHeld ?_
    try simp only [Act.put, Nat.zero_add, zA, zB, zC]
    refine wpAnyH_ready (rs := [20]) (by kernel_rfl) (by simp) ?_
    refine (AllReadyH.cons (o := ⟨some 37, _, _, _, _, _⟩) rfl (fun K hK => ?_) AllReadyH.nil)
    obtain ⟨Ri, hRi, hRn, h1⟩ := (HA.out.pick 4 rfl).openMsl
    obtain ⟨ri, hri⟩ : ∃ r, (getK Ri s).getD ⟨[], none, 0⟩ = r := ⟨_, rfl⟩
    have hids : p.idsOf s = ri.xs := by
     unfold Svc.idsOf
     rw [slr_get hRi s, ← hri]
     cases getK Ri s <;> rfl
    refine step_lookL Tryz.underlying84 rfl rfl d.ib (Ri.map fun p => (p.1, p.2.val)) (h1.mapL 0 rfl) rfl (zeroStrs _) s rfl HSI.out (.slice ri.a ri.xs.length ri.cap) (by rw [slr_look hri]; rfl) ?_
    refine hK.out _ _ (KP.out _ _ 0 9 _ _ _ _ HA.out rfl rfl) (fun hHeld => ?_)
    clear hK K
    try simp only [Act.put, Nat.zero_add, zA, zB, zC]
    have CX2 := Lib.hid (CX.out rfl V ri.xs ri.a ri.cap d.tb HA.out.1 (HA.out.treeAt 1 rfl) (h1.slRd 1 rfl hri) (HIN.out V (HA.out.tail.tail.tail.tail.tail.tail.tail.tail.tail.tail)))
    have hdo := HDO.out
    have htx := HTX.out
    rw [hids] at hdo htx
    simp only [if_true] at hdo
    have HDO2 := Lib.hid hdo
    have HTX2 := Lib.hid htx
    clear hdo htx h1 hRi hRn hri hids
    refine wpAnyH_ready (rs := [22]) (by kernel_rfl) (by simp) ?_
    refine (AllReadyH.cons (o := ⟨some 39, _, _, _, _, _⟩) rfl (fun K hK => ?_) AllReadyH.nil)
    go_simp
    refine CX2.out.mono ?_
    rintro e w5 ⟨r, subs', hr1, hs1, hn1, rfl, hS5⟩
    have H5 := Lib.hid (HA.out.join hS5)
    have HRS := Lib.hid (And.intro hr1 (And.intro hs1 hn1))
    clear hS5 HA CX2 hr1 hs1 hn1
    refine hK.out _ _ (KP.out _ _ 3 12 _ _ _ _ H5.out rfl rfl) (fun hHeld => ?_)
    clear hK K
    try simp only [Act.put, Nat.zero_add, zA, zB, zC]
    refine wpAnyH_ready (rs := [23]) (by kernel_rfl) (by simp) ?_
    refine (AllReadyH.cons (o := ⟨some 40, _, _, _, _, _⟩) rfl (fun K hK => ?_) AllReadyH.nil)
    go_simp
    have hXT : p.tree.txn s ri.xs X = ⟨r.x, subs'.map TxR.x⟩ := by rw [HRS.out.1, HRS.out.2.1]
    have hdo := HDO2.out
    have htx := HTX2.out
    rw [hXT] at hdo htx
    rw [HX.out.2.1] at hdo htx
    have HDO3 := Lib.hid hdo
    have HTX3 := Lib.hid htx
    have CP := Lib.hid (putD_st pb p d HD.out HG.out.1 HG.out.2.1 HG.out.2.2.1 r subs' s xid (H5.out.perm (List.perm_append_comm_assoc (TxnOwn r subs') (d.things pb p) _)) HG.out.2.2.2.rdy htx.1 HRS.out.2.2 htx.2.1)
    clear hdo htx hXT HDO2 HTX2 HTX HDO
    refine CP.out.mono ?_
    rintro e w6 ⟨E, oa, oc, hE, rfl, ht, hS6⟩
    subst hE
    have H6 := Lib.hid hS6
    have HT := Lib.hid ht
    clear hS6 ht H5 CP
    refine hK.out _ _ (KP.out _ _ 0 9 _ _ _ _ H6.out rfl rfl) (fun hHeld => ?_)
    clear hK K
    try simp only [Act.put, Nat.zero_add, zA, zB, zC]
    refine wpAnyH_ready (rs := [24]) (by kernel_rfl) (by simp) ?_
    refine (AllReadyH.cons (o := ⟨some 41, _, _, _, _, _⟩) rfl (fun K hK => ?_) AllReadyH.nil)
    go_simp
    obtain ⟨p2, hp2⟩ : ∃ p2, (p.put s xid ⟨r.x, subs'.map TxR.x⟩).1 = p2 := ⟨_, rfl⟩
    have hdo := HDO3.out
    have htx := HTX3.out
    have ht := HT.out
    have h6 := H6.out
    rw [hp2] at hdo htx ht h6
    have hfw := htx.2.1.few
    simp only [List.length_map] at hfw
    have CRP := reply_any w6 d.tb p2.tree (h6.treeAt 1 rfl) htx.2.2 (⟨4294967296 + p.order.length + 1, s, xid, r, subs'⟩ : EnR) (St.entOk (d := ⟨d.tb, d.wb, oa, oc, d.L ++ [⟨4294967296 + p.order.length + 1, s, xid, r, subs'⟩], d.ib, d.eb⟩) h6 (List.mem_append_right _ (List.mem_singleton.2 rfl))) ⟨HRS.out.2.2, by show subs'.length ≤ 1000; omega, htx.2.1.fit, fun y hy => htx.2.1.all _ (List.mem_map_of_mem hy), htx.2.1.owner⟩
    have hrl := reply_lists p2.tree (4294967296 + p.order.length + 1) xid ⟨r.x, subs'.map TxR.x⟩
    simp only [EnR.subsX] at CRP
    obtain ⟨qq, hqq⟩ : ∃ q, p2.tree.reply (4294967296 + p.order.length + 1) xid ⟨r.x, subs'.map TxR.x⟩ = q := ⟨_, rfl⟩
    rw [hqq] at CRP hdo hrl
    obtain ⟨⟨qxid, qzx, qer, qpa, qda, ⟨q1, q2, q3, q4, q5, q6, q7⟩, qln, qkn, qacl, qkids⟩, qsubs⟩ := qq
    obtain ⟨rfl, rfl⟩ : qacl = [] ∧ qkids = [] := hrl
    have HDO4 := Lib.hid hdo
    have HCRP := Lib.hid CRP
    have HH6 : Hid (St w0 w6 (_ ++ _)) := Lib.hid h6
    have HT2 := Lib.hid ht
    clear hdo htx ht h6 hp2 hqq CRP HDO3 HTX3 HT H6 hfw
    refine HCRP.out.mono ?_
    rintro e w7 ⟨qsa, qsc, rfl, hS7⟩
    have H7 := Lib.hid (HH6.out.join hS7)
    clear hS7 HCRP HH6
    refine hK.out _ _ (KP.out _ _ 1 10 _ _ _ _ H7.out rfl rfl) (fun hHeld => ?_)
    clear hK K
    try simp only [Act.put, Nat.zero_add, zA, zB, zC]
    refine wpAnyH_done (by kernel_rfl) ?_ _
    refine LastQ.listP rfl ?_
    refine wpList_store_whole 17 sizeRp ob rfl _ _ (H7.out.box 8 rfl) rfl ([.int .i64 qxid, .int .i64 qzx, .int .i64 qer, .string qpa, .string qda, .int .i64 q1, .int .i64 q2, .int .i64 q3, .int .i64 q4, .int .i64 q5, .int .i64 q6, .int .i64 q7, .int .i64 qln, .int .i64 qkn, .slice none 0 0, .slice none 0 0, .slice qsa qsubs.length qsc] : List Value) rfl rfl rfl ?_
    intro w8 hg8 hM8 hz8
    have H8 := Lib.hid (H7.out.rebox 8 rfl hg8 hM8)
    clear hg8 hM8 hz8 H7 KP zp zx
    go_wp2
    go_meet
    case rel =>
     have h8 := H8.out
     simp only [SD.things, List.cons_append, List.nil_append, zB, zC] at h8
     have h9 := h8.perm (List.perm_append_comm_assoc [_] [_, _, _, _, _, _, _] _)
     have h10 := (St.shutS _ HT2.out h9).perm (List.perm_append_comm_assoc [_] [_, _, _, _] _)
     exact ⟨qxid, qzx, qer, qpa, qda, q1, q2, q3, q4, q5, q6, q7, qln, qkn, [], [], qsubs, none, 0, none, 0, qsa, qsc, p2, Lib.hid HDO4.out, ((h10.nilSlice 9 1).nilSlice 46 2)⟩
  | false =>
    have hdo := HDO.out
    simp only [Bool.false_eq_true, if_false] at hdo
    have HDO2 := Lib.hid hdo
    have HA := Lib.hid (H3.out.pick 3 rfl)
    have CRD := Lib.hid (HCR.out rfl W3 _ HA.out (fun w2 h => h.tail.tail.tail))
    have HCC : Hid (∀ j u, ([.int .i64 kind, .int .i64 xid, .string path, .string data, .slice aa acl.length ac, .int .i64 flags, .int .i64 version, .bool watch, .slice sa sn sc, .slice ra rn rc] : List Value)[j]? = some u → W3.cell? ((⟨xb, 0, none⟩ : Addr).add j) = some u) := Lib.hid (fun j u hj => by rw [add_none, Nat.zero_add]; exact blk_cell (H3.out.box 2 rfl) j u (by rw [← hj]; exact List.getElem?_toArray))
    obtain ⟨RR, hRR⟩ : ∃ R, p.readS s X = R := ⟨_, rfl⟩
    rw [hRR] at hdo
    have HDO3 := Lib.hid hdo
    have HRR := Lib.hid hRR
    clear hdo H3 HDO HDO2 HTX CX hRR
    rw [HRR.out] at CRD
    obtain ⟨p2, ⟨qxid, qzx, qer, qpa, qda, ⟨q1, q2, q3, q4, q5, q6, q7⟩, qln, qkn, qacl, qkids⟩⟩ := RR
    go_wp2_with (first
     | ((with_reducible refine at_list ?_); refine wpList_load_chunk 10 _ Tryz.underlying40 rfl sizeReq ⟨xb, 0, none⟩ rfl ([.int .i64 kind, .int .i64 xid, .string path, .string data, .slice aa acl.length ac, .int .i64 flags, .int .i64 version, .bool watch, .slice sa sn sc, .slice ra rn rc] : List Value) rfl HCC.out ?_)
     | (go_at_call 32; refine CRD.out.mono ?_; rintro e w5 ⟨qaa, qac, qka, qkc, rfl, hS5⟩; have H5 := Lib.hid hS5; clear hS5)
     | ((with_reducible refine at_list ?_); refine wpList_store_whole 17 sizeRp ob rfl _ _ (H5.out.box 3 rfl) rfl ([.int .i64 qxid, .int .i64 qzx, .int .i64 qer, .string qpa, .string qda, .int .i64 q1, .int .i64 q2, .int .i64 q3, .int .i64 q4, .int .i64 q5, .int .i64 q6, .int .i64 q7, .int .i64 qln, .int .i64 qkn, .slice qaa qacl.length qac, .slice qka qkids.length qkc, .slice none 0 0] : List Value) rfl rfl rfl ?_; intro w8 hg8 hM8 hz8; have H8 := Lib.hid (H5.out.rebox 3 rfl hg8 hM8); clear hg8 hM8 hz8))
    go_meet
    case rel =>
     have h8 := H8.out
     simp only [List.eraseIdx_cons_zero, List.eraseIdx_cons_succ, zB, zC] at h8
     have h9 := h8.perm (List.perm_append_comm_assoc [_] [_, _, _, _, _] _)
     have h10 := ((h9.nilSlice 33 17).perm (List.perm_append_comm_assoc [_] [_, _] _))
     exact ⟨qxid, qzx, qer, qpa, qda, q1, q2, q3, q4, q5, q6, q7, qln, qkn, qacl, qkids, [], qaa, qac, qka, qkc, none, 0, p2, Lib.hid HDO3.out, h10⟩
 case rest =>
  clear H3 HTX CX HCR HDO
  obtain ⟨qxid, qzx, qer, qpa, qda, q1, q2, q3, q4, q5, q6, q7, qln, qkn, qacl, qkids, qsubs, qaa, qac, qka, qkc, qsa, qsc, p2, HRQ, hS⟩ := hcut
  obtain ⟨d, hd, hS1⟩ := (hS.pick 6 rfl).openS
  simp only [List.eraseIdx_cons_zero, List.eraseIdx_cons_succ] at hS1
  have HD := Lib.hid hd
  have HA := Lib.hid hS1.drew
  clear hS hS1 hd
  obtain ⟨zz, hzz⟩ : ∃ zz, p2.tree.zxid = zz := ⟨_, rfl⟩
  have CZ : Hid (∀ w', TreeAt w' d.tb p2.tree → Calls Tryz.prog 20 #[.pointer (some ⟨d.tb, 0, none⟩)] w' (CpPost (.int .i64 zz) w')) := Lib.hid (fun w' h' => by rw [← hzz]; exact zxid_any w' d.tb p2.tree h')
  have HZZ := Lib.hid hzz
  clear hzz
  go_upto_region 7 with (fail)
  have KP : Hid (∀ (w' : World) (G : List Thing), St w0 w' G → G[0]? = some (bx pb #[.pointer (some ⟨d.tb, 0, none⟩), .pointer (some ⟨d.wb, 0, none⟩), .slice d.oa d.L.length d.oc, .int .i64 p2.opened, .map (some d.ib), .map (some d.eb)] 87) → G[12]? = some (bx xb #[.int .i64 kind, .int .i64 xid, .string path, .string data, .slice aa acl.length ac, .int .i64 flags, .int .i64 version, .bool watch, .slice sa sn sc, .slice ra rn rc] 40) → w'.cell? ⟨pb, 0, none⟩ = some (.pointer (some ⟨d.tb, 0, none⟩)) ∧ w'.cell? ⟨xb, 1, none⟩ = some (.int .i64 xid)) := Lib.hid fun w' G h hi hj => ⟨blk_cell (h.box 0 hi) 0 _ rfl, blk_cell (h.box 12 hj) 1 _ rfl⟩
  have zp := heap_lt (HA.out.box 0 rfl)
  have zx := heap_lt (HA.out.box 12 rfl)
  have zo := heap_lt (HA.out.box 10 rfl)
  refine wp_region_last_held (n := 11) (S := fun w' => w'.cell? ⟨pb, 0, none⟩ = some (.pointer (some ⟨d.tb, 0, none⟩)) ∧ w'.cell? ⟨xb, 1, none⟩ = some (.int .i64 xid)) (by kernel_rfl) rfl (by simp only [List.pop_toArray, List.dropLast_cons_cons, List.dropLast_singleton]; rfl) (by kernel_rfl) (by kernel_rfl) (KP.out _ _ HA.out rfl rfl) (fun hHeld => ?_)
  generalize wc.drew = V at HA hHeld ⊢
  refine tk 0 (some 46) ?_ rfl rfl hHeld ?_ ?_
  rotate_left
  ·intro wq hSw; (try dsimp only at hSw); go_simp; try with_reducible rfl
  refine tk 1 (some 47) ?_ rfl rfl hHeld ?_ ?_
  rotate_left
  ·intro wq hSw; (try dsimp only at hSw); go_simp; try with_reducible rfl
  refine tk 2 (some 48) ?_ rfl rfl hHeld ?_ ?_
  rotate_left
  ·intro wq hSw; (try dsimp only at hSw); go_simp; try with_reducible rfl
  refine tk 3 (some 49) ?_ rfl rfl hHeld ?_ ?_
  rotate_left
  ·intro wq hSw; (try dsimp only at hSw); go_simp; try with_reducible rfl
  refine tk 4 (some 50) ?_ rfl rfl hHeld ?_ ?_
  rotate_left
  ·intro wq hSw; (try dsimp only at hSw); go_simp; try with_reducible rfl
  refine tk 5 (some 51) ?_ rfl rfl hHeld ?_ ?_
  rotate_left
  ·intro wq hSw; (try dsimp only at hSw); go_simp; try with_reducible rfl
  refine tk 6 (some 52) ?_ rfl rfl hHeld ?_ ?_
  rotate_left
  ·intro wq hSw; (try dsimp only at hSw); go_simp; try with_reducible rfl
  try simp only [Act.put, Nat.zero_add, zA, zB, zC]
  refine tk 8 (some 54) ?_ rfl rfl hHeld ?_ ?_
  rotate_left
  ·intro wq hSw; (try dsimp only at hSw); go_simp; try with_reducible rfl
  try simp only [Act.put, Nat.zero_add, zA, zB, zC]
  refine wpAnyH_ready (rs := [7]) (by kernel_rfl) (by simp) ?_
  refine (AllReadyH.cons (o := ⟨some 53, _, _, _, _, _⟩) rfl (fun K hK => ?_) AllReadyH.nil)
  go_simp
  refine (CZ.out V (HA.out.treeAt 1 rfl)).mono ?_
  rintro e w5 ⟨rfl, hM5⟩
  have H5 := Lib.hid (HA.out.mod hM5)
  clear hM5 HA
  refine hK.out _ _ (KP.out _ _ H5.out rfl rfl) (fun hHeld => ?_)
  clear hK K
  try simp only [Act.put, Nat.zero_add, zA, zB, zC]
  refine wpAnyH_ready (rs := [9]) (by kernel_rfl) (by simp) ?_
  refine (AllReadyH.cons (o := ⟨none, _, _, _, _, _⟩) rfl (fun K hK => ?_) AllReadyH.nil)
  have o0 := blk_cell (H5.out.box 10 rfl) 0 (.int .i64 qxid) rfl
  have f0 := blk_free (H5.out.box 10 rfl) 0
  have zo := heap_lt (H5.out.box 10 rfl)
  go_simp
  have h6 := H5.out.set 10 rfl 0 (.int .i64 xid)
  simp only [SD.things, List.cons_append, List.nil_append, zB, zC, zA] at h6
  have H6 : Hid (St w0 (w5.setCell ⟨ob, 0, none⟩ (.int .i64 xid)) (d.things pb p2 ++ (sl 46 2 qaa qacl.length qac (qacl.flatMap ARow.cells) :: sl 9 1 qka qkids.length qkc (qkids.map Value.string) :: sl 33 17 qsa qsubs.length qsc (qsubs.flatMap rpS) :: bx ob #[.int .i64 xid, .int .i64 qzx, .int .i64 qer, .string qpa, .string qda, .int .i64 q1, .int .i64 q2, .int .i64 q3, .int .i64 q4, .int .i64 q5, .int .i64 q6, .int .i64 q7, .int .i64 qln, .int .i64 qkn, .slice qaa qacl.length qac, .slice qka qkids.length qkc, .slice qsa qsubs.length qsc] 33 :: bx (xb + 1) #[.int .i64 0, .int .i64 0, .int .i64 0, .string ⟨#[]⟩, .string ⟨#[]⟩, .int .i64 0, .int .i64 0, .int .i64 0, .int .i64 0, .int .i64 0, .int .i64 0, .int .i64 0, .int .i64 0, .int .i64 0, .slice none 0 0, .slice none 0 0, .slice none 0 0] 33 :: bx xb #[.int .i64 kind, .int .i64 xid, .string path, .string data, .slice aa acl.length ac, .int .i64 flags, .int .i64 version, .bool watch, .slice sa sn sc, .slice ra rn rc] 40 :: l))) := Lib.hid h6
  clear h6 o0 f0 zo H5
  refine hK.out _ _ (KP.out _ _ H6.out rfl rfl) (fun hHeld => ?_)
  clear hK K
  try simp only [Act.put, Nat.zero_add, zA, zB, zC]
  refine tk 10 (some 55) ?_ rfl rfl hHeld ?_ ?_
  rotate_left
  ·intro wq hSw; (try dsimp only at hSw); go_simp; try with_reducible rfl
  try simp only [Act.put, Nat.zero_add, zA, zB, zC]
  refine wpAnyH_done (by kernel_rfl) ?_ _
  generalize w5.setCell _ _ = w6 at H6 hHeld ⊢
  have o0 := blk_cell (H6.out.box 10 rfl) 1 (.int .i64 qzx) rfl
  have f0 := blk_free (H6.out.box 10 rfl) 1
  have zo := heap_lt (H6.out.box 10 rfl)
  refine LastQ.step rfl rfl ?_
  go_simp
  have h7 := H6.out.set 10 rfl 1 (.int .i64 zz)
  simp only [SD.things, List.cons_append, List.nil_append, zB, zC, zA] at h7
  have H7 : Hid (St w0 (w6.setCell ⟨ob, 1, none⟩ (.int .i64 zz)) (d.things pb p2 ++ (sl 46 2 qaa qacl.length qac (qacl.flatMap ARow.cells) :: sl 9 1 qka qkids.length qkc (qkids.map Value.string) :: sl 33 17 qsa qsubs.length qsc (qsubs.flatMap rpS) :: bx ob #[.int .i64 xid, .int .i64 zz, .int .i64 qer, .string qpa, .string qda, .int .i64 q1, .int .i64 q2, .int .i64 q3, .int .i64 q4, .int .i64 q5, .int .i64 q6, .int .i64 q7, .int .i64 qln, .int .i64 qkn, .slice qaa qacl.length qac, .slice qka qkids.length qkc, .slice qsa qsubs.length qsc] 33 :: bx (xb + 1) #[.int .i64 0, .int .i64 0, .int .i64 0, .string ⟨#[]⟩, .string ⟨#[]⟩, .int .i64 0, .int .i64 0, .int .i64 0, .int .i64 0, .int .i64 0, .int .i64 0, .int .i64 0, .int .i64 0, .int .i64 0, .slice none 0 0, .slice none 0 0, .slice none 0 0] 33 :: bx xb #[.int .i64 kind, .int .i64 xid, .string path, .string data, .slice aa acl.length ac, .int .i64 flags, .int .i64 version, .bool watch, .slice sa sn sc, .slice ra rn rc] 40 :: l))) := Lib.hid h7
  clear h7 o0 f0 zo H6 hHeld KP zp zx CZ
  generalize w6.setCell _ _ = w7 at H7 ⊢
  have HCC : Hid (∀ j u, ([.int .i64 xid, .int .i64 zz, .int .i64 qer, .string qpa, .string qda, .int .i64 q1, .int .i64 q2, .int .i64 q3, .int .i64 q4, .int .i64 q5, .int .i64 q6, .int .i64 q7, .int .i64 qln, .int .i64 qkn, .slice qaa qacl.length qac, .slice qka qkids.length qkc, .slice qsa qsubs.length qsc] : List Value)[j]? = some u → w7.cell? ((⟨ob, 0, none⟩ : Addr).add j) = some u) := Lib.hid (fun j u hj => by rw [add_none, Nat.zero_add]; exact blk_cell (H7.out.box 10 rfl) j u (by rw [← hj]; exact List.getElem?_toArray))
  go_wp2_with (first
   | ((with_reducible refine at_list ?_); refine wpList_load_chunk 17 _ Tryz.underlying33 rfl sizeRp ⟨ob, 0, none⟩ rfl ([.int .i64 xid, .int .i64 zz, .int .i64 qer, .string qpa, .string qda, .int .i64 q1, .int .i64 q2, .int .i64 q3, .int .i64 q4, .int .i64 q5, .int .i64 q6, .int .i64 q7, .int .i64 qln, .int .i64 qkn, .slice qaa qacl.length qac, .slice qka qkids.length qkc, .slice qsa qsubs.length qsc] : List Value) rfl HCC.out ?_)
   | ((with_reducible refine at_list ?_); refine wpList_store_whole 17 sizeRp (xb + 1) rfl _ _ (H7.out.box 11 rfl) rfl ([.int .i64 xid, .int .i64 zz, .int .i64 qer, .string qpa, .string qda, .int .i64 q1, .int .i64 q2, .int .i64 q3, .int .i64 q4, .int .i64 q5, .int .i64 q6, .int .i64 q7, .int .i64 qln, .int .i64 qkn, .slice qaa qacl.length qac, .slice qka qkids.length qkc, .slice qsa qsubs.length qsc] : List Value) rfl rfl rfl ?_; intro w9 hg9 hM9 hz9; have H9 := Lib.hid (H7.out.rebox 11 rfl hg9 hM9); clear hg9 hM9 hz9))
  refine bodyPost_ret (results_cell_tmp rfl _ w9 (xb + 1) _ _ _ _ rfl (H9.out.box 11 rfl) Tryz.underlying33 rfl sizeRp) rfl ?_
  have h9 := H9.out
  simp only [SD.things, List.cons_append, List.nil_append, zB, zC] at h9
  have h10 := (St.shutS d HD.out h9).perm (List.perm_append_comm_assoc [_, _, _, _] [_, _, _] _)
  have h11 := h10.tail.tail.tail
  have hz := HZZ.out
  subst hz
  rw [← HRQ.out]
  exact ⟨qaa, qac, qka, qkc, qsa, qsc, rfl, h11⟩
end Go.Proofs.YtonnbkebjeoflaaGreatDoor
