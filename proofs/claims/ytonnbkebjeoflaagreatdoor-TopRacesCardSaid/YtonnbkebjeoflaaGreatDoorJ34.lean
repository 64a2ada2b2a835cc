/-
  Laws of PlainA, Good, PrepL, PlainB.
  Conditions: each law states its own.
-/
import Derived.Test.YtonnbkebjeoflaaGreatDoorJ11
import Derived.Test.YtonnbkebjeoflaaGreatDoorJ14
import Derived.Test.YtonnbkebjeoflaaGreatDoorJ18
import Derived.Test.YtonnbkebjeoflaaGreatDoorJ25
import Derived.Test.YtonnbkebjeoflaaGreatDoorJ30
import Derived.Test.YtonnbkebjeoflaaGreatDoorJ31
import Derived.Test.YtonnbkebjeoflaaGreatDoorJ32
import Derived.Test.YtonnbkebjeoflaaGreatDoorJ33
set_option maxHeartbeats 16000000
set_option linter.unusedSectionVars false
set_option linter.unusedSimpArgs false
set_option linter.unusedVariables false
set_option maxRecDepth 100000
namespace Go.Proofs.YtonnbkebjeoflaaGreatDoor
open Go.RowKit Go.Maps
def EnR.own (E : EnR) : Thing := grp (TxnOwn E.r E.subs)
def EnR.en (E : EnR) : En := ⟨E.zxid, E.session, E.xid, ⟨E.r.x, E.subsX⟩⟩
structure SD where
 tb : Nat
 wb : Nat
 oa : Option Addr
 oc : Nat
 L : List EnR
 ib : Nat
 eb : Nat
structure SD.tells (d : SD) (p : Svc) : Prop where
 order : p.order = d.L.map EnR.en
 subs : ∀ E ∈ d.L, E.subs.length = E.r.sn
noncomputable def SD.things (d : SD) (pb : Nat) (p : Svc) : List Thing := [bx pb #[.pointer (some ⟨d.tb, 0, none⟩), .pointer (some ⟨d.wb, 0, none⟩), .slice d.oa d.L.length d.oc, .int .i64 p.opened, .map (some d.ib), .map (some d.eb)] 87,
 tre d.tb p.tree, wtb d.wb p.watches, sl 63 11 d.oa d.L.length d.oc (d.L.flatMap EnR.cells), msl kbI 9 1 A.strC d.ib p.ids, msl kbI 113 3 Evt.cells d.eb p.events, grp (d.L.map EnR.own)]
noncomputable def svc (pb : Nat) (p : Svc) : Thing := some1 fun d : SD => grp (pr (d.tells p) :: d.things pb p)
theorem St.openS {w0 w : World} {pb : Nat} {p : Svc} {l : List Thing} (h : St w0 w (svc pb p :: l)) : ∃ d : SD, d.tells p ∧ St w0 w (d.things pb p ++ l) := by
 obtain ⟨d, h⟩ := h.tell
 have h := h.ungrp
 exact ⟨d, h.pure, h.tail⟩
theorem St.shutS {w0 w : World} {pb : Nat} {p : Svc} {l : List Thing} (d : SD) (hd : d.tells p) (h : St w0 w (d.things pb p ++ l)) : St w0 w (svc pb p :: l) :=
 St.untell d (St.regrp (_ :: d.things pb p) (h.told hd))
theorem St.mslNew {P : Program} {k : TypeId} {α β : Type} [DecidableEq α] {w0 w : World} {l : List Thing} (B : KB P k α) (E K : Nat) (f : β → List Value) (h : St w0 w l) : St w0 (w.alloc (.map #[] 0)) (msl B E K f w.heap.size [] :: l) :=
 St.shutMsl (M := []) [] rfl ((St.regrp [] (l := _ :: _) (h.mapNew B)).perm (List.Perm.swap _ _ _))
theorem pnew_any (w : World) : Calls Tryz.prog 23 #[] w (PtrPost (fun pb => svc pb Svc.new) w) := by
 have CT := Lib.hid (newTree_any w)
 have hmm := @run_makeMap Tryz.prog
 go_enter Tryz.func23, Tryz.ntmps23
 go_wp2_with (first
  | (go_at_call 36; refine CT.out.mono ?_; rintro e w1 ⟨tb, rfl, hS1⟩; have HS1 := Lib.hid hS1; clear hS1)
  | (go_at_call 46; refine (wnew_any w1).mono ?_; rintro e w2 ⟨wb, rfl, hS2⟩; have HS2 := Lib.hid (HS1.out.join hS2); clear hS2))
 go_ret
 have h1 := ((HS2.out.mslNew kbI 9 1 A.strC).mslNew kbI 113 3 Evt.cells).box1 #[.pointer (some ⟨tb, 0, none⟩), .pointer (some ⟨wb, 0, none⟩), .slice none 0 0, .int .i64 0, .map (some w2.heap.size), .map (some (w2.heap.size + 1))] 87
 refine ⟨_, rfl, ?_⟩
 have h2 := (St.regrp [] (l := _ :: _) (h1.nilSlice 63 11))
 simp only [World.size_alloc] at h2
 have h3 : St w _ ((⟨tb, wb, none, 0, [], w2.heap.size, w2.heap.size + 1⟩ : SD).things (w2.heap.size + 1 + 1) Svc.new ++ []) := ((((((h2.pick 3 rfl).pick 4 rfl).pick 3 rfl).pick 5 rfl).pick 6 rfl).pick 6 rfl)
 exact St.shutS _ ⟨rfl, fun E hE => (by cases hE)⟩ h3
open Go.RowKit
theorem inc_ok (n : Int) : okInt (inc n) := by
 unfold inc okInt
 have := IntWalk.i64_left n
 simp [IntKind.wrap, IntKind.bits, IntKind.signed]
 omega
theorem firstE_all {l : List Int} (h : firstE l = 0) : ∀ e ∈ l, e = 0 := by
 induction l with
 | nil => intro e he; cases he
 | cons a l ih =>
   unfold firstE at h
   intro e he
   by_cases ha : a = 0
   ·rw [if_pos ha] at h
    rcases List.mem_cons.1 he with rfl | he
    ·exact ha
    ·exact ih h e he
   ·rw [if_neg ha] at h
    exact absurd h ha
theorem whenE_zero {b : Bool} {e : Int} (he : e ≠ 0) (h : whenE b e = 0) : b = false := by
 unfold whenE at h
 cases b
 ·rfl
 ·exact absurd h he
theorem check_size {p : ByteArray} (h : checkB p = 0) : p.size ≤ 60 := by
 unfold checkB checkL at h
 have hs : p.data.toList.length = p.size := by rw [Array.length_toList]; rfl
 rw [← hs]
 by_cases h1 : p.data.toList = [47]
 ·rw [h1]; decide
 ·rw [if_neg h1] at h
  by_cases h2 : formL p.data.toList = false
  ·rw [if_pos h2] at h; omega
  ·rw [if_neg h2] at h
   by_cases h3 : 60 < p.data.toList.length ∨ 6 < (parts p.data.toList).length - 1
   ·rw [if_pos h3] at h; omega
   ·omega
structure St7.ok (s : St7) : Prop where
 czxid : okInt s.czxid
 mzxid : okInt s.mzxid
 pzxid : okInt s.pzxid
 version : okInt s.version
 cversion : okInt s.cversion
 aversion : okInt s.aversion
 owner : okInt s.owner
structure Nd.good (n : Nd) : Prop where
 data : n.data.size ≤ 100
 acl : A.rightL n.acl = true
 st : n.st.ok
structure Tree.good (T : Tree) : Prop where
 nodup : (T.nodes.map (·.1)).Nodup
 many : T.nodes.length ≤ 64
 path : ∀ n ∈ T.nodes, checkB n.1 = 0
 node : ∀ n ∈ T.nodes, n.2.good
theorem right_few {l : List ARow} (h : A.rightL l = true) : l.length ≤ 4 := by
 unfold A.rightL at h
 simp only [Bool.and_eq_true, decide_eq_true_eq] at h
 exact h.1.2
theorem Tree.good.fit {T : Tree} (h : T.good) : T.fit :=
 ⟨by have := h.many; omega, fun n hn => by have := check_size (h.path n hn); omega, fun n hn => by have := right_few (h.node n hn).acl; omega, fun n hn => by have := (h.node n hn).data; unfold maxLen; omega⟩
theorem Tree.good.room {T : Tree} (h : T.good) {k : Nat} (hk : k ≤ 100000) : T.room k :=
 ⟨by have := h.many; omega, fun n hn => by have := check_size (h.path n hn); omega, fun n hn => by have := right_few (h.node n hn).acl; omega, fun n hn => by have := (h.node n hn).data; unfold maxLen; omega⟩
theorem Tree.good.at {T : Tree} (h : T.good) {p : ByteArray} {n : Nd} (hn : T.node p = some n) : n.good := h.node (p, n) (getK_some_mem hn)
theorem Tree.good.same {T U : Tree} (h : T.good) (hn : U.nodes = T.nodes) : U.good := ⟨by rw [hn]; exact h.nodup, by rw [hn]; exact h.many, by rw [hn]; exact h.path, by rw [hn]; exact h.node⟩
theorem Tree.good.put {T U : Tree} (h : T.good) {p : ByteArray} {n : Nd} (hU : U.nodes = putK T.nodes p n) (hp : checkB p = 0) (hn : n.good) (hm : (T.node p).isSome = true ∨ T.nodes.length < 64) : U.good := by
 refine ⟨by rw [hU]; exact putK_nodup h.nodup p n, ?_, fun m hm => ?_, fun m hm => ?_⟩
 ·rw [hU, putK_length h.nodup]
  have := h.many
  split
  ·exact this
  ·rename_i hs
   rcases hm with hm | hm
   ·exact absurd hm hs
   ·omega
 ·rw [hU] at hm
  rcases mem_putK hm with h1 | rfl
  ·exact h.path m h1
  ·exact hp
 ·rw [hU] at hm
  rcases mem_putK hm with h1 | rfl
  ·exact h.node m h1
  ·exact hn
theorem Tree.good.kid {T : Tree} (h : T.good) (p : ByteArray) {number zxid : Int} (hn : okInt number) (hz : okInt zxid) : (T.kid p number zxid).good := by
 unfold Tree.kid
 cases hx : T.node p with
 | none => exact h
 | some n =>
   have hg := h.at hx
   exact h.put (p := p) rfl (h.path (p, n) (getK_some_mem hx)) ⟨hg.data, hg.acl, ⟨hg.st.czxid, hg.st.mzxid, hz, hg.st.version, hn, hg.st.aversion, hg.st.owner⟩⟩ (.inl (by rw [hx]; rfl))
structure Tx.goodAt (T : Tree) (x : Tx) : Prop where
 owner : okInt x.owner
 number : okInt x.number
 create : x.kind = 1 → checkB x.path = 0 ∧ x.data.size ≤ 100 ∧ A.rightL x.acl = true ∧ T.nodes.length < 64
 set : x.kind = 3 → x.data.size ≤ 100
 acl : x.kind = 4 → A.rightL x.acl = true
theorem part_good {T : Tree} (h : T.good) {x : Tx} (hx : x.goodAt T) {z : Int} (hz : okInt z) : (T.part x z).1.good := by
 have o0 : okInt 0 := by unfold okInt; omega
 unfold Tree.part
 split
 ·rename_i hk
  unfold Tree.create
  split
  ·exact h
  ·obtain ⟨h1, h2, h3, h4⟩ := hx.create hk
   refine Tree.good.kid (T := { T with nodes := putK T.nodes x.path ⟨x.data, x.acl, ⟨z, z, z, 0, 0, 0, x.owner⟩⟩ }) ?_ _ hx.number hz
   exact h.put rfl h1 ⟨h2, h3, ⟨hz, hz, hz, o0, o0, o0, hx.owner⟩⟩ (.inr h4)
 ·split
  ·unfold Tree.erase
   split
   ·exact h
   ·refine Tree.good.kid (T := { T with nodes := T.nodes.filter fun n => !Tree.gone x.path n.1 }) ?_ _ hx.number hz
    exact ⟨h.nodup.sublist (List.filter_sublist.map _), Nat.le_trans (List.length_filter_le _ _) h.many, fun n hn => h.path n (List.mem_filter.1 hn).1, fun n hn => h.node n (List.mem_filter.1 hn).1⟩
  ·cases hn : T.node x.path with
   | none => exact h
   | some n =>
     have hg := h.at hn
     have hp := h.path (x.path, n) (getK_some_mem hn)
     simp only
     split
     ·rename_i hk
      exact h.put rfl hp ⟨hx.set hk, hg.acl, ⟨hg.st.czxid, hz, hg.st.pzxid, hx.number, hg.st.cversion, hg.st.aversion, hg.st.owner⟩⟩ (.inl (by rw [hn]; rfl))
     ·split
      ·rename_i hk
       exact h.put rfl hp ⟨hg.data, hx.acl hk, ⟨hg.st.czxid, hg.st.mzxid, hg.st.pzxid, hg.st.version, hg.st.cversion, hx.number, hg.st.owner⟩⟩ (.inl (by rw [hn]; rfl))
      ·exact h
theorem apply_part {T : Tree} {z : Int} {x : Tx} (h5 : x.kind ≠ 5) (h6 : x.kind ≠ 6) (h7 : x.kind ≠ 7) (h8 : x.kind ≠ 8) (s : List Tx) : T.apply z x s = ((({ T with zxid := z } : Tree).part x z).1, (({ T with zxid := z } : Tree).part x z).2, 0) := by
 unfold Tree.apply
 simp only [if_neg h5, if_neg h6, if_neg h7, if_neg h8]
theorem partTx_kind (T : Tree) (s : Int) (ids : List ByteArray) (r : Rq1) : 0 ≤ (T.partTx s ids r).1.kind ∧ (T.partTx s ids r).1.kind ≤ 4 := by
 unfold Tree.partTx
 split
 ·exact ⟨by show (0 : Int) ≤ 1; omega, by show (1 : Int) ≤ 4; omega⟩
 ·split
  ·exact ⟨by show (0 : Int) ≤ 2; omega, by show (2 : Int) ≤ 4; omega⟩
  ·simp only
   split
   ·exact ⟨by show (0 : Int) ≤ 3; omega, by show (3 : Int) ≤ 4; omega⟩
   ·split
    ·exact ⟨by show (0 : Int) ≤ 4; omega, by show (4 : Int) ≤ 4; omega⟩
    ·split
     ·exact ⟨by show (0 : Int) ≤ 0; omega, by show (0 : Int) ≤ 4; omega⟩
     ·exact ⟨by show (0 : Int) ≤ 0; omega, by show (0 : Int) ≤ 4; omega⟩
structure Tx.small (x : Tx) : Prop where
 path : x.path.size ≤ 60
 data : x.data.size ≤ 100
 acl : x.acl.length ≤ 4
 rows : ∀ a ∈ x.acl, A.okR a = true
theorem Tx.small.fit {x : Tx} (h : x.small) : x.fit := ⟨by have := h.path; omega, by have := h.data; unfold maxLen; omega, by have := h.acl; omega⟩
theorem small_none {k o n e : Int} {p : ByteArray} (hp : p.size ≤ 60) : (⟨k, p, ⟨#[]⟩, [], o, n, e⟩ : Tx).small := ⟨hp, by show (0 : Nat) ≤ 100; omega, by show (0 : Nat) ≤ 4; omega, fun a ha => (by cases ha)⟩
theorem right_rows {l : List ARow} (h : A.rightL l = true) : ∀ a ∈ l, A.okR a = true := by
 unfold A.rightL at h
 simp only [Bool.and_eq_true] at h
 exact List.all_eq_true.1 h.2
theorem mkTx_small {T : Tree} {s : Int} {ids : List ByteArray} {r : Rq1} (h : (T.mkTx s ids r).2 = 0) : (T.mkTx s ids r).1.small ∧ checkB (T.mkTx s ids r).1.path = 0 ∧ A.rightL r.acl = true ∧ T.nodes.length < 64 ∧ T.is (parentB r.path) = true ∧ T.is (T.mkTx s ids r).1.path = false ∧ (T.stat (parentB r.path)).owner = 0 ∧ checkB r.path = 0 ∧ (flag r.flags 1 = true → (T.owned s).length < 32) := by
 unfold Tree.mkTx at h ⊢
 simp only at h ⊢
 have h1 := firstE_all h
 generalize hw : (if flag r.flags 2 = true then numberedB r.path (T.stat (parentB r.path)).cversion else r.path) = whole at h1 ⊢
 have e1 := h1 (checkB r.path) (by simp)
 have e2 := whenE_zero (by decide) (h1 (whenE (decide (100 < r.data.size) || decide (r.flags < 0) || decide (3 < r.flags)) 1) (by simp))
 have e3 := whenE_zero (by decide) (h1 (whenE (!A.rightL r.acl) 50) (by simp))
 have e4 := whenE_zero (by decide) (h1 (whenE (!T.is (parentB r.path)) 60) (by simp))
 have e5 := whenE_zero (by decide) (h1 (whenE (decide ((T.stat (parentB r.path)).owner ≠ 0)) 63) (by simp))
 have e6 := whenE_zero (by decide) (h1 (whenE (decide (checkB whole ≠ 0)) 41) (by simp))
 have e7 := whenE_zero (by decide) (h1 (whenE (T.is whole) 61) (by simp))
 have e8 := whenE_zero (by decide) (h1 (whenE (decide (64 ≤ T.nodes.length)) 64) (by simp))
 have e9 := whenE_zero (by decide) (h1 (whenE (flag r.flags 1 && decide (32 ≤ (T.owned s).length)) 64) (by simp))
 simp only [Bool.or_eq_false_iff, decide_eq_false_iff_not, Bool.not_eq_false', ne_eq, Decidable.not_not, Nat.not_le, Nat.not_lt, Bool.and_eq_false_imp] at e2 e3 e4 e5 e6 e8 e9
 exact ⟨⟨check_size e6, e2.1.1, right_few e3, right_rows e3⟩, e6, e3, e8, e4, e7, e5, e1, e9⟩
theorem partTx_small {T : Tree} {s : Int} {ids : List ByteArray} {r : Rq1} (h : (T.partTx s ids r).2 = 0) : (T.partTx s ids r).1.small := by
 unfold Tree.partTx at h ⊢
 split
 ·rename_i hk
  rw [if_pos hk] at h
  exact (mkTx_small h).1
 ·rename_i hk
  rw [if_neg hk] at h
  split
  ·rename_i hk2
   rw [if_pos hk2] at h
   exact small_none (check_size (firstE_all h (checkB r.path) (by simp)))
  ·rename_i hk2
   rw [if_neg hk2] at h
   simp only at h ⊢
   split
   ·rename_i hk3
    rw [if_pos hk3] at h
    have h1 := firstE_all h
    have e1 := h1 (checkB r.path) (by simp)
    have e2 := whenE_zero (by decide) (h1 (whenE (decide (100 < r.data.size)) 1) (by simp))
    simp only [decide_eq_false_iff_not, Nat.not_lt] at e2
    exact ⟨check_size e1, e2, by show (0 : Nat) ≤ 4; omega, fun a ha => (by cases ha)⟩
   ·rename_i hk3
    rw [if_neg hk3] at h
    split
    ·rename_i hk4
     rw [if_pos hk4] at h
     have h1 := firstE_all h
     have e1 := h1 (checkB r.path) (by simp)
     have e3 := whenE_zero (by decide) (h1 (whenE (!A.rightL r.acl) 50) (by simp))
     simp only [Bool.not_eq_false'] at e3
     exact ⟨check_size e1, by show (0 : Nat) ≤ 100; omega, right_few e3, right_rows e3⟩
    ·rename_i hk4
     rw [if_neg hk4] at h
     split
     ·exact small_none (by show (0 : Nat) ≤ 60; omega)
     ·exact small_none (by show (0 : Nat) ≤ 60; omega)
theorem partTx_good {T : Tree} {s : Int} {ids : List ByteArray} {r : Rq1} (hs : okInt s) (h : (T.partTx s ids r).2 = 0) : (T.partTx s ids r).1.goodAt T := by
 have o0 : okInt 0 := by unfold okInt; omega
 have hsm := partTx_small h
 unfold Tree.partTx at h hsm ⊢
 split
 ·rename_i hk
  rw [if_pos hk] at h hsm
  obtain ⟨h1, h2, h3, h4, _⟩ := mkTx_small h
  refine ⟨?_, inc_ok _, fun _ => ⟨h2, h1.data, h3, h4⟩, fun h => (by cases h), fun h => (by cases h)⟩
  unfold Tree.mkTx
  simp only
  split
  ·exact hs
  ·exact o0
 ·rename_i hk
  rw [if_neg hk] at h hsm
  split
  ·exact ⟨o0, inc_ok _, fun h => (by cases h), fun h => (by cases h), fun h => (by cases h)⟩
  ·rename_i hk2
   rw [if_neg hk2] at h hsm
   simp only at h hsm ⊢
   split
   ·rename_i hk3
    rw [if_pos hk3] at h hsm
    exact ⟨o0, inc_ok _, fun h => (by cases h), fun _ => hsm.data, fun h => (by cases h)⟩
   ·rename_i hk3
    rw [if_neg hk3] at h hsm
    split
    ·rename_i hk4
     rw [if_pos hk4] at h hsm
     have h1 := firstE_all h
     have e3 := whenE_zero (by decide) (h1 (whenE (!A.rightL r.acl) 50) (by simp))
     simp only [Bool.not_eq_false'] at e3
     exact ⟨o0, inc_ok _, fun h => (by cases h), fun h => (by cases h), fun _ => e3⟩
    ·split
     ·exact ⟨o0, o0, fun h => (by cases h), fun h => (by cases h), fun h => (by cases h)⟩
     ·exact ⟨o0, o0, fun h => (by cases h), fun h => (by cases h), fun h => (by cases h)⟩
structure RqR where
 r : Rq1
 aa : Option Addr
 ac : Nat
 sa : Option Addr
 sn : Nat
 sc : Nat
 ra : Option Addr
 rn : Nat
 rc : Nat
def RqR.cells (t : RqR) : List Value := [.int .i64 t.r.kind, .int .i64 t.r.xid, .string t.r.path, .string t.r.data, .slice t.aa t.r.acl.length t.ac, .int .i64 t.r.flags, .int .i64 t.r.version, .bool t.r.watch, .slice t.sa t.sn t.sc, .slice t.ra t.rn t.rc]
def RqR.wish (t : RqR) (tb : Nat) (T : Tree) (s : Int) (ids : List ByteArray) (ia : Option Addr) (ic : Nat) : WishR := ⟨tb, T, s, ids, ia, ic, t.r, t.aa, t.ac, t.sa, t.sn, t.sc, t.ra, t.rn, t.rc⟩
structure RqR.fit (t : RqR) : Prop where
 path : t.r.path.size ≤ 2000000000
 acl : t.r.acl.length ≤ 10000000
 rows : ∀ a ∈ t.r.acl, a.fit
 flags : okInt t.r.flags
theorem apply_of {T : Tree} {z : Int} {x : Tx} (hk : 0 ≤ x.kind ∧ x.kind ≤ 4) : T.apply z x [] = ((({ T with zxid := z } : Tree).part x z).1, (({ T with zxid := z } : Tree).part x z).2, 0) := apply_part (by omega) (by omega) (by omega) (by omega) []
theorem kid_rest (T : Tree) (p : ByteArray) (n z : Int) : (T.kid p n z).sessions = T.sessions ∧ (T.kid p n z).zxid = T.zxid := by
 unfold Tree.kid
 cases T.node p <;> exact ⟨rfl, rfl⟩
theorem part_rest (T : Tree) (x : Tx) (z : Int) : (T.part x z).1.sessions = T.sessions ∧ (T.part x z).1.zxid = T.zxid := by
 unfold Tree.part
 split
 ·unfold Tree.create
  split
  ·exact ⟨rfl, rfl⟩
  ·exact kid_rest _ _ _ _
 ·split
  ·unfold Tree.erase
   split
   ·exact ⟨rfl, rfl⟩
   ·exact kid_rest _ _ _ _
  ·cases T.node x.path with
   | none => exact ⟨rfl, rfl⟩
   | some n =>
     simp only
     split
     ·exact ⟨rfl, rfl⟩
     ·split <;> exact ⟨rfl, rfl⟩
theorem multi_step {T : Tree} {s : Int} {ids : List ByteArray} {r : Rq1} {l : List Rq1} {i : Nat} {done : List Tx} (h : (T.partTx s ids r).2 = 0) :
 T.multiTx s ids (r :: l) i done = (T.apply T.zxid (T.partTx s ids r).1 []).1.multiTx s ids l (i + 1) (done ++ [(T.partTx s ids r).1]) := by
 show (if (T.partTx s ids r).2 ≠ 0 then _ else _) = _
 rw [if_neg (by rw [h]; simp)]
theorem multi_stop {T : Tree} {s : Int} {ids : List ByteArray} {r : Rq1} {l : List Rq1} {i : Nat} {done : List Tx} (h : (T.partTx s ids r).2 ≠ 0) :
 T.multiTx s ids (r :: l) i done = Tree.refusal (T.partTx s ids r).2 i := by
 show (if (T.partTx s ids r).2 ≠ 0 then _ else _) = _
 rw [if_pos h]
theorem pthere_any {w0 w : World} {l : List Thing} (pb : Nat) (p : Svc) (h : St w0 w (svc pb p :: l)) (id : Int) (hi : okInt id) :
 Calls Tryz.prog 29 #[.pointer (some ⟨pb, 0, none⟩), .int .i64 id] w (CpPost (.bool (p.there id)) w) := by
 obtain ⟨d, hd, hS⟩ := h.openS
 have c0 : w.cell? ⟨pb, 0, none⟩ = some (.pointer (some ⟨d.tb, 0, none⟩)) := blk_cell (hS.box 0 rfl) 0 _ rfl
 have zp := heap_lt (hS.box 0 rfl)
 have CS := Lib.hid (session_any w d.tb p.tree (hS.treeAt 1 rfl) id hi _ _ rfl rfl)
 rw [show p.there id = (getK p.tree.sessions id).isSome from rfl]
 generalize (getK p.tree.sessions id).isSome = b at CS ⊢
 generalize (getK p.tree.sessions id).getD ⟨0, .empty⟩ = v at CS
 clear hd hS h hi
 go_enter Tryz.func29, Tryz.ntmps29
 go_wp2_with (go_at_call 56; refine CS.out.mono ?_; rintro e w2 ⟨rfl, hM2⟩)
 go_ret
 exact ⟨rfl, hM2⟩
theorem laid_any (t : RqR) (e : Int) (w : World) : Calls Tryz.prog 66 #[.agg t.cells.toArray, .int .i64 e] w (CpPost (.int .i64 (Svc.laidK t.r e)) w) := by
 obtain ⟨⟨kind, xid, path, data, acl, flags, version, watch⟩, aa, ac, sa, sn, sc, ra, rn, rc⟩ := t
 simp only [RqR.cells]
 have HM := Lib.hid ((Mod.refl (fun _ => False) w).alloc (.cells #[.int .i64 kind, .int .i64 xid, .string path, .string data, .slice aa acl.length ac, .int .i64 flags, .int .i64 version, .bool watch, .slice sa sn sc, .slice ra rn rc] 40))
 obtain ⟨v, hv⟩ : ∃ v, Svc.laidK ⟨kind, xid, path, data, acl, flags, version, watch⟩ e = v := ⟨_, rfl⟩
 rw [hv]
 unfold Svc.laidK at hv
 simp only at hv
 cases watch with
 | false =>
   simp only [if_true] at hv
   subst hv
   go_enter Tryz.func66, Tryz.ntmps66
   go_wp2
   go_ret
   exact ⟨rfl, HM.out⟩
 | true =>
   simp only [Bool.true_eq_false, if_false] at hv
   by_cases h1 : kind = 10 ∧ e = 60
   ·obtain ⟨rfl, rfl⟩ := h1
    simp only [and_self, if_true] at hv
    subst hv
    go_enter Tryz.func66, Tryz.ntmps66
    go_wp2
    go_ret
    exact ⟨rfl, HM.out⟩
   ·rw [if_neg h1] at hv
    by_cases h2 : e = 0
    ·subst h2
     have g60 : ((0 : Int) == 60) = false := rfl
     rw [if_neg (by simp)] at hv
     by_cases h9 : kind = 9
     ·subst h9
      simp only [true_or, if_true] at hv
      subst hv
      clear h1
      go_enter Tryz.func66, Tryz.ntmps66
      go_wp2
      go_ret
      exact ⟨rfl, HM.out⟩
     ·by_cases h10 : kind = 10
      ·subst h10
       simp only [or_true, if_true] at hv
       subst hv
       clear h1 h9
       go_enter Tryz.func66, Tryz.ntmps66
       go_wp2
       go_ret
       exact ⟨rfl, HM.out⟩
      ·rw [if_neg (by omega)] at hv
       have g9 : (kind == 9) = false := by simpa using h9
       have g10 : (kind == 10) = false := by simpa using h10
       by_cases h11 : kind = 11
       ·subst h11
        simp only [if_true] at hv
        subst hv
        clear h1 h9 h10
        go_enter Tryz.func66, Tryz.ntmps66
        go_wp2
        go_ret
        exact ⟨rfl, HM.out⟩
       ·rw [if_neg h11] at hv
        subst hv
        have g11 : (kind == 11) = false := by simpa using h11
        clear h1 h9 h10 h11
        go_enter Tryz.func66, Tryz.ntmps66
        go_wp2
        go_ret
        exact ⟨rfl, HM.out⟩
    ·rw [if_pos h2] at hv
     subst hv
     have ge : (e == 0) = false := by simpa using h2
     have gn : (e != 0) = true := by simp [bne, ge]
     by_cases h10 : kind = 10
     ·subst h10
      have g60 : (e == 60) = false := by simp; omega
      clear h1 h2
      go_enter Tryz.func66, Tryz.ntmps66
      go_wp2
      go_ret
      exact ⟨rfl, HM.out⟩
     ·have g10 : (kind == 10) = false := by simpa using h10
      clear h1 h2 h10
      go_enter Tryz.func66, Tryz.ntmps66
      go_wp2
      go_ret
      exact ⟨rfl, HM.out⟩
end Go.Proofs.YtonnbkebjeoflaaGreatDoor
