/-
  Contracts and plain laws of PrepA.
  Conditions: each law states its own.
-/
import Derived.Test.YtonnbkebjeoflaaGreatDoorJ12
import Derived.Test.YtonnbkebjeoflaaGreatDoorJ18
import Derived.Test.YtonnbkebjeoflaaGreatDoorJ21
set_option linter.unusedSectionVars false
set_option linter.unusedSimpArgs false
set_option linter.unusedVariables false
set_option maxRecDepth 100000
namespace Go.Proofs.YtonnbkebjeoflaaGreatDoor
open Go.RowKit Go.Maps
structure Env (w : World) : Prop where
 rdy : Rdy w
 tab : Tab w
 atab : A.Tab w
theorem Env.old {w w' : World} (h : Env w) (k : Mod (fun _ => False) w w') : Env w' := ⟨h.rdy.old k, h.tab.old k, A.Tab.old h.atab k⟩
structure WishR where
 tb : Nat
 T : Tree
 s : Int
 ids : List ByteArray
 ia : Option Addr
 ic : Nat
 r : Rq1
 aa : Option Addr
 ac : Nat
 sa : Option Addr
 sn : Nat
 sc : Nat
 ra : Option Addr
 rn : Nat
 rc : Nat
def WishR.rcells (q : WishR) : List Value := [.int .i64 q.r.kind, .int .i64 q.r.xid, .string q.r.path, .string q.r.data, .slice q.aa q.r.acl.length q.ac, .int .i64 q.r.flags, .int .i64 q.r.version, .bool q.r.watch, .slice q.sa q.sn q.sc, .slice q.ra q.rn q.rc]
def WishR.cells (q : WishR) : List Value := [.pointer (some ⟨q.tb, 0, none⟩), .int .i64 q.s, .slice q.ia q.ids.length q.ic] ++ q.rcells
structure WishR.ok (q : WishR) (w : World) : Prop where
 tree : TreeAt w q.tb q.T
 ids : Rd w 1 q.ia q.ids.length q.ic (q.ids.flatMap A.strC)
 acl : Rd w 2 q.aa q.r.acl.length q.ac (q.r.acl.flatMap ARow.cells)
 env : Env w
structure WishR.fit (q : WishR) : Prop where
 tree : q.T.fit
 path : q.r.path.size ≤ 2000000000
 acl : q.r.acl.length ≤ 10000000
 rows : ∀ a ∈ q.r.acl, a.fit
 flags : okInt q.r.flags
 stats : ∀ n ∈ q.T.nodes, okInt n.2.st.cversion
theorem WishR.ok.old {q : WishR} {w w' : World} (h : q.ok w) (k : Mod (fun _ => False) w w') : q.ok w' := ⟨h.tree.old k, h.ids.mod k (fun _ _ h => h), h.acl.mod k (fun _ _ h => h), h.env.old k⟩
theorem sizeWish : (Tryz.prog.info? 144).map (·.size) = some 13 := by kernel_rfl
def Clos (w : World) (f : Value) (e : Int) : Prop := ∃ (K : FuncId) (caps : Array Value), f = .func (.func K) #[] caps ∧ (∀ args w, (callFunc K args).run Tryz.prog w = .ok (.enter K args) w) ∧ ∀ w', Mod (fun _ => False) w w' → Calls Tryz.prog K caps w' (CpPost (.int .i64 e) w')
theorem firstE_drop {es : List Int} {k : Nat} (h : ∀ e ∈ es.take k, e = 0) : firstE es = firstE (es.drop k) := by
 induction es generalizing k with
 | nil => simp
 | cons e es ih =>
   cases k with
   | zero => rfl
   | succ k =>
     have h0 : e = 0 := h e (by simp)
     rw [List.drop_succ_cons, ← ih (k := k) (fun x hx => h x (by rw [List.take_succ_cons]; exact List.mem_cons_of_mem _ hx))]
     show (if e = 0 then firstE es else e) = _
     rw [if_pos h0]
set_option maxHeartbeats 4000000 in
theorem first_any (w : World) (b : Nat) (T : TypeId) (fs : List (Value × Int)) (n : Nat) (hn : fs.length = n) (hs : n ≤ 1000) (hb : w.heap[b]? = some (.cells (fs.map (·.1)).toArray T (0, 0))) (hc : ∀ f ∈ fs, Clos w f.1 f.2) :
 Calls Tryz.prog 119 #[.slice (some ⟨b, 0, none⟩) n n] w (CpPost (.int .i64 (firstE (fs.map (·.2)))) w) := by
 have hl63 : n ≤ 2 ^ 63 - 1 := by omega
 have HN := Lib.hid hn
 have HB := Lib.hid hb
 have HC := Lib.hid hc
 obtain ⟨r, hr⟩ : ∃ r, firstE (fs.map (·.2)) = r := ⟨_, rfl⟩
 have HR := Lib.hid hr
 rw [hr]
 clear hn hb hc hr
 go_enter Tryz.func119, Tryz.ntmps119
 go_wp2
 go_loopg [8] n (fun g y wr => ∃ k : Nat, k + g = n ∧ y = .int .i64 k ∧ Mod (fun _ => False) w wr ∧ Hid (∀ e ∈ (fs.map (·.2)).take k, e = 0))
 case atStart => exact ⟨0, by omega, rfl, Mod.refl _ _, Lib.hid (by simp)⟩
 case round =>
  obtain ⟨k, hkg, rfl, hM, HZ⟩ := hrel
  by_cases hlt : k < n
  ·have hx : fs[k]? = some (fs[k]'(HN.out ▸ hlt)) := List.getElem?_eq_getElem _
   obtain ⟨⟨f, e⟩, hxx⟩ : ∃ x, fs[k]'(HN.out ▸ hlt) = x := ⟨_, rfl⟩
   rw [hxx] at hx
   obtain ⟨K, caps, hf, eg, hcl⟩ := HC.out (f, e) (List.mem_of_getElem? hx)
   simp only at hf hcl
   subst hf
   have hb1 := hM.heap HB.out id
   have c0 : wr.cell? ⟨b, k, none⟩ = some (.func (.func K) #[] caps) := blk_cell hb1 k _ (by rw [List.getElem?_toArray, List.getElem?_map, hx]; rfl)
   have zb := heap_lt hb1
   have HCL := Lib.hid (hcl wr hM)
   have HX := Lib.hid hx
   have HM := Lib.hid hM
   clear hcl hx hxx hb1 hM
   by_cases h0 : e = 0
   ·subst h0
    go_wp2_with fail
    refine HCL.out.mono ?_
    rintro e w2 ⟨rfl, hM2⟩
    go_wp2
    go_roundg (n - (k + 1))
    case measure => omega
    case rel =>
     refine ⟨k + 1, by omega, by simp, HM.out.then hM2 (fun _ _ h => h), Lib.hid ?_⟩
     intro e he
     rw [take_snoc' (t := (0 : Int)) (by rw [List.getElem?_map, HX.out]; rfl)] at he
     rcases List.mem_append.1 he with h | h
     ·exact HZ.out e h
     ·exact List.mem_singleton.1 h
   ·have g0 : (e == 0) = false := by simpa using h0
    have hres : r = e := by
     rw [← HR.out, firstE_drop HZ.out, List.drop_eq_getElem_cons (by rw [List.length_map, HN.out]; exact hlt)]
     have : (fs.map (·.2))[k]? = some e := by rw [List.getElem?_map, HX.out]; rfl
     obtain ⟨h1, h2⟩ := List.getElem?_eq_some_iff.1 this
     rw [h2]
     show (if e = 0 then _ else e) = e
     rw [if_neg h0]
    have HRES := Lib.hid hres
    clear h0 hres
    go_wp2_with fail
    refine HCL.out.mono ?_
    rintro e2 w2 ⟨rfl, hM2⟩
    go_wp2
    go_ret
    rw [HRES.out]
    exact ⟨rfl, HM.out.then hM2 (fun _ _ h => h)⟩
  ·have hk : k = n := by omega
   subst hk
   clear hkg hlt
   have hres : r = 0 := by
    rw [← HR.out, firstE_drop HZ.out, List.drop_of_length_le (by rw [List.length_map, HN.out]; exact Nat.le_refl _)]
    rfl
   have HRES := Lib.hid hres
   have HM := Lib.hid hM
   clear hres hM
   go_wp2
   go_ret
   rw [HRES.out]
   exact ⟨rfl, HM.out⟩
theorem when_any (b : Bool) (e : Int) (w : World) : Calls Tryz.prog 124 #[.bool b, .int .i64 e] w (CpPost (.int .i64 (whenE b e)) w) := by
 cases b
 all_goals
  go_enter Tryz.func124, Tryz.ntmps124
  go_wp2
  go_ret
  exact ⟨rfl, Mod.refl _ _⟩
theorem none_any (q : WishR) (w : World) : Calls Tryz.prog 209 #[.agg q.cells.toArray] w (CpPost (.int .i64 0) w) := by
 go_enter Tryz.func209, Tryz.ntmps209
 go_wp2
 go_ret
 exact ⟨rfl, (Mod.refl _ _).alloc _⟩
def WishR.carr (q : WishR) : Array Value := #[.pointer (some ⟨q.tb, 0, none⟩), .int .i64 q.s, .slice q.ia q.ids.length q.ic, .int .i64 q.r.kind, .int .i64 q.r.xid, .string q.r.path, .string q.r.data, .slice q.aa q.r.acl.length q.ac, .int .i64 q.r.flags, .int .i64 q.r.version, .bool q.r.watch, .slice q.sa q.sn q.sc, .slice q.ra q.rn q.rc]
theorem carr_eq (q : WishR) : q.cells.toArray = q.carr := rfl
def z9 : Array Value := #[.int .i64 0, .int .i64 0, .int .i64 0, .int .i64 0, .int .i64 0, .int .i64 0, .int .i64 0, .int .i64 0, .int .i64 0]
set_option maxHeartbeats 4000000 in
theorem there_any (q : WishR) (w : World) (hq : q.ok w) (hf : q.fit) (p : ByteArray) (hp : p.size ≤ maxLen) :
 Calls Tryz.prog 135 #[.agg q.cells.toArray, .string p] w (CpPost (.bool (q.T.is p)) w) := by
 have HS := Lib.hid ((St.start w).box1 q.carr 144)
 have CS : Hid (∀ w', Mod (fun _ => False) w w' → Calls Tryz.prog 87 #[.pointer (some ⟨q.tb, 0, none⟩), .string p] w' (CpPost (.tuple #[.agg (q.T.statV p).toArray, .bool (q.T.is p)]) w')) := Lib.hid fun w' hm => stat_any w' q.tb q.T (hq.tree.old hm) hf.tree p hp
 rw [carr_eq]
 have hl : (q.T.statV p).length = 9 ∧ (q.T.statV p).all (·.oneCell') = true := by
  unfold Tree.statV
  cases q.T.node p with
  | none => exact ⟨rfl, rfl⟩
  | some n => exact ⟨rfl, rfl⟩
 obtain ⟨sv, hsv⟩ : ∃ sv, q.T.statV p = sv := ⟨_, rfl⟩
 obtain ⟨is, his⟩ : ∃ is, q.T.is p = is := ⟨_, rfl⟩
 rw [hsv] at hl CS
 rw [his] at CS ⊢
 have HL := Lib.hid hl
 clear hq hf hp hl hsv his
 have c0 := blk_cell (HS.out.box 0 rfl) 0 (.pointer (some ⟨q.tb, 0, none⟩)) rfl
 have z0 := heap_lt (HS.out.box 0 rfl)
 simp only [WishR.carr] at HS c0 z0 ⊢
 go_enter Tryz.func135, Tryz.ntmps135
 go_wp2_with (first
  | (go_at_call 87; refine (CS.out _ HS.out.1).mono ?_; rintro e w3 ⟨rfl, hM3⟩; have HS3 := Lib.hid ((HS.out.mod hM3).box1 z9 29); clear hM3)
  | ((with_reducible refine at_list ?_); refine wpList_store_whole 9 sizeStatT w3.heap.size rfl _ _ (HS3.out.box 0 rfl) rfl sv rfl HL.out.1 HL.out.2 ?_; intro w4 hg4 hM4 hz4; have HS4 := Lib.hid (HS3.out.rebox 0 rfl hg4 hM4); clear hg4 hM4 hz4))
 go_ret
 exact ⟨rfl, HS4.out.1⟩
theorem mayAt_some {T : Tree} {ids : List ByteArray} {p : ByteArray} {perm : Int} {n : Nd} (h : T.node p = some n) : T.mayAt ids p perm = may n.acl perm ids := by unfold Tree.mayAt; rw [h]
theorem mayAt_none {T : Tree} {ids : List ByteArray} {p : ByteArray} {perm : Int} (h : T.node p = none) : T.mayAt ids p perm = false := by unfold Tree.mayAt; rw [h]
set_option maxHeartbeats 4000000 in
theorem mayW_any (q : WishR) (w : World) (hq : q.ok w) (hf : q.fit) (p : ByteArray) (hp : p.size ≤ maxLen) (perm : Int) :
 Calls Tryz.prog 126 #[.agg q.cells.toArray, .string p, .int .i64 perm] w (CpPost (.bool (q.T.mayAt q.ids p perm)) w) := by
 have HS := Lib.hid ((St.start w).box1 q.carr 144)
 have CA : Hid (∀ w', Mod (fun _ => False) w w' → Calls Tryz.prog 139 #[.pointer (some ⟨q.tb, 0, none⟩), .string p] w' (AclPost (q.T.node p) w')) := Lib.hid fun w' hm => acl_any w' q.tb q.T (hq.tree.old hm) p hp (fun n hn => Nat.le_trans (hf.tree.acl (p, n) (node_mem hn)) (by omega))
 rw [carr_eq]
 have c0 := blk_cell (HS.out.box 0 rfl) 0 (.pointer (some ⟨q.tb, 0, none⟩)) rfl
 have c2 := blk_cell (HS.out.box 0 rfl) 2 (.slice q.ia q.ids.length q.ic) rfl
 have z0 := heap_lt (HS.out.box 0 rfl)
 cases hn : q.T.node p with
 | none =>
   rw [hn] at CA
   rw [mayAt_none hn]
   clear hq hf hp hn
   simp only [WishR.carr] at HS c0 c2 z0 ⊢
   go_enter Tryz.func126, Tryz.ntmps126
   go_wp2_with (go_at_call 139; refine (CA.out _ HS.out.1).mono ?_; rintro e w3 ⟨rfl, hM3⟩)
   go_ret
   exact ⟨rfl, HS.out.1.then hM3 (fun _ _ h => h)⟩
 | some n =>
   rw [hn] at CA
   rw [mayAt_some hn]
   have CM : Hid (∀ w' a, Mod (fun _ => False) w w' → Sl w' 46 2 a n.acl.length n.acl.length (n.acl.flatMap ARow.cells) → Calls Tryz.prog 213 #[.slice a n.acl.length n.acl.length, .int .i64 perm, .slice q.ia q.ids.length q.ic] w' (CpPost (.bool (may n.acl perm q.ids)) w')) :=
    Lib.hid fun w' a hm hs => (A.may_any a n.acl.length n.acl.length n.acl perm q.ia q.ids.length q.ic q.ids w' hs.rd rfl (hq.ids.mod hm (fun _ _ h => h)) rfl).mono fun e w'' h => h
   obtain ⟨an, han⟩ : ∃ an, n.acl.length = an := ⟨_, rfl⟩
   have HAN := Lib.hid han
   simp only [AclPost, han] at CA CM
   clear hq hf hp hn
   simp only [WishR.carr] at HS c0 c2 z0 ⊢
   go_enter Tryz.func126, Tryz.ntmps126
   go_wp2_with (first
    | (go_at_call 139; refine (CA.out _ HS.out.1).mono ?_; rintro e w3 ⟨a3, rfl, hs3, hf3, hM3⟩; have HM3 := Lib.hid (HS.out.1.then hM3 (fun _ _ h => h)); rw [HAN.out] at hs3; have HS3 := Lib.hid hs3; have c2 := hM3.cell c2 id; have z0 := Nat.lt_of_lt_of_le z0 hM3.size; clear hM3 hs3 hf3)
    | (go_at_call 213; refine (CM.out _ _ HM3.out HS3.out).mono ?_; rintro e w4 ⟨rfl, hM4⟩))
   go_ret
   exact ⟨rfl, HM3.out.then hM4 (fun _ _ h => h)⟩
end Go.Proofs.YtonnbkebjeoflaaGreatDoor
