/-
  Contracts and plain laws of TreeO, TreeR, TreeS.
  Conditions: each law states its own.
-/
import Derived.Shelf.SlMaps.Clone
import Derived.Test.YtonnbkebjeoflaaGreatDoorJ11
import Derived.Test.YtonnbkebjeoflaaGreatDoorJ17
set_option linter.unusedSectionVars false
set_option linter.unusedSimpArgs false
set_option linter.unusedVariables false
set_option maxRecDepth 100000
namespace Go.Proofs.YtonnbkebjeoflaaGreatDoor
open Go.RowKit Go.Maps
structure Tree.room (T : Tree) (k : Nat) : Prop where
 many : T.nodes.length + k ≤ 1000000
 path : ∀ n ∈ T.nodes, n.1.size ≤ 1000000
 acl : ∀ n ∈ T.nodes, n.2.acl.length ≤ 1000000
 data : ∀ n ∈ T.nodes, n.2.data.size ≤ maxLen
theorem Tree.room.fit {T : Tree} {k : Nat} (h : T.room k) : T.fit := ⟨by have := h.many; omega, h.path, h.acl, h.data⟩
theorem Tree.room.le {T : Tree} {k j : Nat} (h : T.room k) (hj : j ≤ k) : T.room j := ⟨by have := h.many; omega, h.path, h.acl, h.data⟩
theorem delK_le {α β : Type} [DecidableEq α] (M : List (α × β)) (x : α) : (delK M x).length ≤ M.length := (delK_sub M x).length_le
theorem putK_le {α β : Type} [DecidableEq α] (M : List (α × β)) (x : α) (v : β) : (putK M x v).length ≤ M.length + 1 := by
 unfold putK
 have := delK_le M x
 rw [List.length_append, List.length_singleton]
 omega
theorem mem_putK {α β : Type} [DecidableEq α] {M : List (α × β)} {x : α} {v : β} {p : α × β} (h : p ∈ putK M x v) : p ∈ M ∨ p = (x, v) := by
 unfold putK at h
 rcases List.mem_append.1 h with h | h
 ·exact .inl ((delK_sub M x).subset h)
 ·exact .inr (List.mem_singleton.1 h)
theorem Tree.room.put {T : Tree} {k : Nat} (h : T.room (k + 1)) {p : ByteArray} {n : Nd} (hp : p.size ≤ 1000000) (ha : n.acl.length ≤ 1000000) (hd : n.data.size ≤ maxLen) {z : Int} {ss : List (Int × Hd)} : ({ nodes := putK T.nodes p n, sessions := ss, zxid := z } : Tree).room k := by
 refine ⟨?_, fun m hm => ?_, fun m hm => ?_, fun m hm => ?_⟩
 ·have := putK_le T.nodes p n; have := h.many; show (putK T.nodes p n).length + k ≤ _; omega
 all_goals rcases mem_putK hm with h1 | rfl
 ·exact h.path m h1
 ·exact hp
 ·exact h.acl m h1
 ·exact ha
 ·exact h.data m h1
 ·exact hd
theorem Tree.room.kid {T : Tree} {k : Nat} (h : T.room (k + 1)) (p : ByteArray) (n z : Int) : (T.kid p n z).room k := by
 unfold Tree.kid
 cases hn : T.node p with
 | none => exact h.le (by omega)
 | some nd =>
   have h1 : p.size ≤ 1000000 := h.path (p, nd) (node_mem hn)
   have h2 : nd.acl.length ≤ 1000000 := h.acl (p, nd) (node_mem hn)
   have h3 : nd.data.size ≤ maxLen := h.data (p, nd) (node_mem hn)
   exact Tree.room.put (n := { nd with st := { nd.st with cversion := n, pzxid := z } }) h h1 h2 h3
theorem Tree.room.sub {T : Tree} {k : Nat} (h : T.room k) {ns : List (ByteArray × Nd)} (hs : ∀ n ∈ ns, n ∈ T.nodes) (hl : ns.length ≤ T.nodes.length) {ss : List (Int × Hd)} {z : Int} : ({ nodes := ns, sessions := ss, zxid := z } : Tree).room k :=
 ⟨by have := h.many; show ns.length + k ≤ _; omega, fun n hn => h.path n (hs n hn), fun n hn => h.acl n (hs n hn), fun n hn => h.data n (hs n hn)⟩
theorem part_room {T : Tree} {k : Nat} (h : T.room (k + 2)) {x : Tx} (hx : x.fit) (z : Int) : (T.part x z).1.room k := by
 have h0 : T.room k := h.le (by omega)
 unfold Tree.part
 split
 ·unfold Tree.create
  split
  ·exact h0
  ·exact (Tree.room.put (k := k + 1) h hx.path hx.acl hx.data).kid _ _ _
 ·split
  ·unfold Tree.erase
   split
   ·exact h0
   ·exact (Tree.room.sub (k := k + 1) (h.le (by omega)) (fun n hn => (List.mem_filter.1 hn).1) (List.length_filter_le _ _)).kid _ _ _
  ·split
   ·exact h0
   ·rename_i n hn
    have h2 : n.acl.length ≤ 1000000 := h.acl (x.path, n) (node_mem hn)
    have h3 : n.data.size ≤ maxLen := h.data (x.path, n) (node_mem hn)
    split
    ·exact (Tree.room.put (k := k + 1) (n := { n with data := x.data, st := { n.st with version := x.number, mzxid := z } }) h hx.path h2 hx.data).le (by omega)
    ·split
     ·exact (Tree.room.put (k := k + 1) (n := { n with acl := x.acl, st := { n.st with aversion := x.number } }) h hx.path hx.acl h3).le (by omega)
     ·exact h0
theorem part_evs (T : Tree) (x : Tx) (z : Int) : (T.part x z).2.length ≤ 2 := by
 unfold Tree.part
 split
 ·unfold Tree.create; split <;> simp
 ·split
  ·unfold Tree.erase
   split
   ·simp
   ·simp only []
    split
    ·split <;> simp
    ·simp
  ·split
   ·simp
   ·split
    ·simp
    ·split <;> simp
theorem parts_nil (T : Tree) (z : Int) : T.parts [] z = (T, []) := rfl
theorem parts_snoc (T : Tree) (l : List Tx) (x : Tx) (z : Int) : T.parts (l ++ [x]) z = (((T.parts l z).1.part x z).1, (T.parts l z).2 ++ ((T.parts l z).1.part x z).2) := by
 unfold Tree.parts
 rw [List.foldl_append]
 rfl
theorem fold_room {k : Nat} {z : Int} : ∀ (l : List Tx) (s : Tree × List Evt), s.1.room (2 * l.length + k) → (∀ x ∈ l, x.fit) →
 (l.foldl (fun s x => ((s.1.part x z).1, s.2 ++ (s.1.part x z).2)) s).1.room k ∧ (l.foldl (fun s x => ((s.1.part x z).1, s.2 ++ (s.1.part x z).2)) s).2.length ≤ s.2.length + 2 * l.length
 | [], s, h, _ => ⟨h.le (by simp), by simp⟩
 | x :: l, s, h, hx => by
   have h1 := part_room (k := 2 * l.length + k) (h.le (by rw [List.length_cons]; omega)) (hx x (by simp)) z
   obtain ⟨h2, h3⟩ := fold_room l ((s.1.part x z).1, s.2 ++ (s.1.part x z).2) h1 (fun y hy => hx y (List.mem_cons_of_mem _ hy))
   refine ⟨h2, ?_⟩
   have h4 := part_evs s.1 x z
   rw [List.foldl_cons]
   simp only [List.length_append, List.length_cons] at h3 ⊢
   omega
theorem parts_room {T : Tree} {k : Nat} {z : Int} {l : List Tx} (h : T.room (2 * l.length + k)) (hx : ∀ x ∈ l, x.fit) : (T.parts l z).1.room k ∧ (T.parts l z).2.length ≤ 2 * l.length := by
 have := fold_room (z := z) l (T, []) h hx
 simpa [Tree.parts] using this
theorem take_snoc' {α : Type} {L : List α} {k : Nat} {t : α} (h : L[k]? = some t) : L.take (k + 1) = L.take k ++ [t] := by
 obtain ⟨hk, rfl⟩ := List.getElem?_eq_some_iff.1 h
 exact List.take_succ_eq_append_getElem hk
end Go.Proofs.YtonnbkebjeoflaaGreatDoor
namespace Go.Proofs.YtonnbkebjeoflaaGreatDoor
open Go.RowKit Go.Maps
def Tree.owns (T : Tree) (s : Int) (p : ByteArray) : Bool := decide (s ≠ 0) && (match T.node p with | some n => decide (n.st.owner = s) | none => false)
theorem owned_eq (T : Tree) (s : Int) : T.owned s = T.paths.filter (T.owns s) := rfl
theorem paths_node {T : Tree} {p : ByteArray} (h : p ∈ T.paths) : ∃ n, T.node p = some n := by
 unfold Tree.paths at h
 rw [List.mem_mergeSort] at h
 cases hn : T.node p with
 | some n => exact ⟨n, rfl⟩
 | none => exact absurd h (getK_none.1 hn)
theorem filter_snoc {α : Type} (f : α → Bool) {L : List α} {k : Nat} {t : α} (h : L[k]? = some t) : (L.take (k + 1)).filter f = (L.take k).filter f ++ (if f t then [t] else []) := by
 rw [take_snoc' h, List.filter_append]
 by_cases hs : f t = true
 ·simp [hs]
 ·simp [hs]
set_option maxHeartbeats 8000000 in
theorem owned_any (w : World) (tb : Nat) (T : Tree) (h : TreeAt w tb T) (hf : T.fit) (s : Int) (hs0 : s ≠ 0) :
 Calls Tryz.prog 114 #[.pointer (some ⟨tb, 0, none⟩), .int .i64 s] w (NewSl 9 1 ((T.owned s).map Value.string) (T.owned s).length w) := by
 obtain ⟨ip, iz, hi1, hi2, hi3, hi4, hi5⟩ := info_rowT infoStrR
 have HI := Lib.hid (And.intro hi1 (And.intro hi2 (And.intro hi3 (And.intro hi4 hi5))))
 have CP := Lib.hid (paths_any w tb T h hf.many)
 obtain ⟨d, hd, ht, hm, _, hr⟩ := h.open
 have HT0 := Lib.hid (blk_cell ht 0 (.map (some d.mb)) rfl)
 have HZT := Lib.hid (heap_lt ht)
 have HM := Lib.hid hm
 have HR := Lib.hid hr
 have HD := Lib.hid hd
 have HF := Lib.hid hf
 obtain ⟨tn, htn⟩ : ∃ tn, T.nodes.length = tn := ⟨_, rfl⟩
 have hpn : T.paths.length = tn := by unfold Tree.paths; rw [List.length_mergeSort, List.length_map, htn]
 have HN := Lib.hid (And.intro hpn (show tn ≤ 1000000 by rw [← htn]; exact hf.many))
 have hps : ∀ q ∈ T.paths, q.size ≤ 1000000 := fun q hq => by
  unfold Tree.paths at hq
  rw [List.mem_mergeSort] at hq
  obtain ⟨n, hn, rfl⟩ := List.mem_map.1 hq
  exact hf.path n hn
 have HQ := Lib.hid hps
 rw [htn] at CP
 have g0 : (s == 0) = false := by simpa using hs0
 have g9 : (s != 0) = true := by simpa using hs0
 have HZ := Lib.hid hs0
 have h63 : (tn : Int) ≤ 1000000 := by have := HN.out.2; omega
 obtain ⟨res, hres⟩ : ∃ res, T.owned s = res := ⟨_, rfl⟩
 have HRES := Lib.hid hres
 rw [hres]
 clear hi1 hi2 hi3 hi4 hi5 hd ht hm hr hf htn hpn hps h hres hs0
 go_enter Tryz.func114, Tryz.ntmps114
 go_wp2_with (go_at_call 161; refine CP.out.mono ?_; rintro e w6 ⟨pa, pc, rfl, hs6, hf6, hM6⟩; have HS6 := Lib.hid (((St.start w).newSlice hM6 hs6 hf6).nilSlice 9 1); clear hM6 hs6 hf6)
 clear CP
 go_loopg [5, 11] tn (fun g y5 y wr => ∃ (k : Nat) (oa : Option Addr) (oc : Nat), k + g = tn ∧ y = .int .i64 k ∧ y5 = .slice oa ((T.paths.take k).filter (T.owns s)).length oc ∧ St w wr [sl 9 1 oa ((T.paths.take k).filter (T.owns s)).length oc (((T.paths.take k).filter (T.owns s)).map Value.string), sl 9 1 pa tn pc (T.paths.map Value.string)])
 case atStart => exact ⟨0, none, 0, by omega, rfl, rfl, HS6.out⟩
 case round =>
  clear HS6
  obtain ⟨k, oa, oc, hkg, rfl, rfl, hS⟩ := hrel
  by_cases hlt : k < tn
  ·have hx : T.paths[k]? = some (T.paths[k]'(by rw [HN.out.1]; exact hlt)) := List.getElem?_eq_getElem _
   obtain ⟨q, hxx⟩ : ∃ x, T.paths[k]'(by rw [HN.out.1]; exact hlt) = x := ⟨_, rfl⟩
   rw [hxx] at hx
   obtain ⟨b, o, rfl, hbl, c0⟩ := (hS.slice 1 rfl).rd.strAt hx
   have hqs := HQ.out q (List.mem_of_getElem? hx)
   obtain ⟨n, hn⟩ := paths_node (List.mem_of_getElem? hx)
   have hrec : ∃ r, getK d.recs q = some r ∧ r.nd = n := by
    rw [rec_of HD.out] at hn
    cases hg : getK d.recs q with
    | none => rw [hg] at hn; cases hn
    | some r => rw [hg] at hn; exact ⟨r, rfl, by simpa using hn⟩
   obtain ⟨r, hg, hrn⟩ := hrec
   subst hrn
   have hbk := (HR.out (q, r) (getK_some_mem hg)).1
   have k8 := hS.1.cell (blk_cell hbk 8 (.int .i64 r.nd.st.owner) rfl) id
   have zb : r.b < _ := heap_lt (hS.1.heap hbk id)
   have t0 := hS.1.cell HT0.out id
   have zt := Nat.lt_of_lt_of_le HZT.out hS.1.size
   have HG := Lib.hid (ptr_some hg)
   have HML := Lib.hid (HM.out.kept (hS.1.keep _ HM.out.lt id))
   have HS := Lib.hid hS
   have HX := Lib.hid hx
   have HLE : Hid (((T.paths.take k).filter (T.owns s)).length ≤ 1000000) := Lib.hid (by
    have h1 := List.length_filter_le (T.owns s) (T.paths.take k)
    rw [List.length_take] at h1
    have h2 := HN.out
    omega)
   have hstep := filter_snoc (T.owns s) hx
   have HQS := Lib.hid (show q.size ≤ maxLen by unfold maxLen; omega)
   have hown : T.owns s q = (decide (s ≠ 0) && decide (r.nd.st.owner = s)) := by unfold Tree.owns; rw [hn]
   clear hx hxx hg hbk hqs hS hn
   by_cases ho : r.nd.st.owner = s
   ·have hyes : T.owns s q = true := by rw [hown]; simp [HZ.out, ho]
    rw [hyes] at hstep
    simp only [if_true] at hstep
    have HST := Lib.hid hstep
    have g1 : (r.nd.st.owner == s) = true := by simpa using ho
    clear hown hyes hstep ho
    have TX := Lib.hid trivial
    obtain ⟨m, hm⟩ : ∃ m, ((T.paths.take k).filter (T.owns s)).length = m := ⟨_, rfl⟩
    have HMM := Lib.hid hm
    have HS1 := HS
    rw [hm] at HS1 HLE ⊢
    clear hm
    go_upto_region 6 with ((with_reducible refine at_list ?_); refine wpList_lookLG (B := kbP) mapNodes d.mb _ HML.out rfl (zeroNp _) q rfl HQS.out _ HG.out (by rfl) ?_)
    go_wp2_with (at_builtin; refine wpList_append 9 ip iz 1 16 (by kernel_rfl) HI.out.1 HI.out.2.1 HI.out.2.2.1 HI.out.2.2.2.1 HI.out.2.2.2.2 oa m oc (((T.paths.take k).filter (T.owns s)).map Value.string) rfl ((HS1.out.mod ((Mod.refl _ _).alloc (.cells #[.string q] 9))).slice 0 rfl) (some ⟨wr.heap.size, 0, none⟩) 1 1 [.string q] rfl (Sl.new (E := 9) (k := 1) (n := 1) (heap_alloc_new wr _) (by simp) (by unfold maxLen; omega)).rd (by intro u hu; rw [List.mem_singleton] at hu; subst hu; rfl) (by have := HLE.out; unfold maxLen; omega) (by have := HLE.out; omega) ?_; intro a9 cap9 w9 hS9 hM9 hF9 hN9 hR9; have h9 := (HS1.out.mod ((Mod.refl _ _).alloc (.cells #[.string q] 9))).regrow 0 rfl hS9 hM9 hF9)
    simp only [List.set_cons_zero] at h9
    go_roundg (tn - (k + 1))
    case measure => omega
    case rel => exact ⟨k + 1, a9, cap9, by omega, by simp, by rw [HST.out, List.length_append, HMM.out]; rfl, by rw [HST.out, List.length_append, List.map_append, HMM.out]; exact h9⟩
   ·have hno : T.owns s q = false := by rw [hown]; simp [ho]
    rw [hno] at hstep
    simp only [Bool.false_eq_true, if_false, List.append_nil] at hstep
    have HST := Lib.hid hstep
    have g1 : (r.nd.st.owner == s) = false := by simpa using ho
    clear hown hno hstep ho
    go_wp2_with ((with_reducible refine at_list ?_); refine wpList_lookLG (B := kbP) mapNodes d.mb _ HML.out rfl (zeroNp _) q rfl HQS.out _ HG.out (by rfl) ?_)
    go_roundg (tn - (k + 1))
    case measure => omega
    case rel => exact ⟨k + 1, oa, oc, by omega, by simp, by rw [HST.out], by rw [HST.out]; exact HS.out⟩
  ·have hk : (T.paths.take k).filter (T.owns s) = res := by rw [List.take_of_length_le (by rw [HN.out.1]; omega), ← owned_eq, HRES.out]
   have HS := Lib.hid hS
   clear hS
   go_wp2
   go_ret
   have h1 := HS.out
   rw [hk] at h1 ⊢
   exact ⟨oa, oc, rfl, h1.slice 0 rfl, h1.slYoung 0 rfl, h1.1⟩
end Go.Proofs.YtonnbkebjeoflaaGreatDoor
namespace Go.Proofs.YtonnbkebjeoflaaGreatDoor
open Go.RowKit Go.Maps
section
variable {P : Program} {ops : Array Oper} {S : World → Prop} {o : Oper} {a : Act} {k e t : TypeId} {α : Type} [DecidableEq α] {B : KB P k α}
theorem yields_load {ty : TypeId} {x : Operand} (k : Nat) (d : TypeDesc) (hw : Region.wanted o (yielded ops a.tmps) = true) (ho : o.op = .load ty x)
 (hu : P.underlying ty = some d) (hd : (match d with | .struct _ | .array _ _ => true | _ => false) = true) (hi : (P.info? ty).map (·.size) = some k) (ad : Addr) (hx : a.eval x = .pointer (some ad)) (cs : List Value) (hl : cs.length = k)
 (hS : ∀ w, S w → ∀ j u, cs[j]? = some u → w.cell? (ad.add j) = some u) : YieldsIf P ops S o (.agg cs.toArray) a :=
 Or.inl ⟨hw, fun w h => by
  have hr := run_loadAt_chunk (P := P) w ty k d hu hd hi ad cs hl (hS w h)
  unfold execOp
  simp only [ho, hx, Sem.run_bind, Sem.run_pure, hr, Result.andThen_ok]⟩
end
theorem box_from0 {w : World} {pb : Nat} {T : TypeId} (pre cs : List Value) (h : w.heap[pb]? = some (.cells (pre ++ cs).toArray T (0, 0))) : ∀ j u, cs[j]? = some u → w.cell? ((⟨pb, pre.length, none⟩ : Addr).add j) = some u := by
 intro j u hj
 rw [add_none]
 refine blk_cell h _ u ?_
 rw [List.getElem?_toArray, List.getElem?_append_right (by omega), Nat.add_sub_cancel_left]
 exact hj
theorem filter_same {α : Type} {p q : α → Bool} {N : List α} (h : ∀ n ∈ N, p n = q n) : N.filter p = N.filter q := List.filter_congr h
theorem left_step {α β : Type} [DecidableEq α] {N : List (α × β)} (hn : (N.map (·.1)).Nodup) {left : α → Bool} {x : α} {v : β} (hx : (x, v) ∈ N) (hl : left x = true) :
 (N.filter fun n => !(left n.1 && decide (n.1 ≠ x))).Perm ((N.filter fun n => !left n.1) ++ [(x, v)]) := by
 induction N with
 | nil => cases hx
 | cons q N ih =>
   rw [List.map_cons, List.nodup_cons] at hn
   by_cases hq : q.1 = x
   ·have hqx : q = (x, v) := by
     rcases List.mem_cons.1 hx with h | h
     ·exact h.symm
     ·exact absurd (List.mem_map_of_mem (f := (·.1)) h) (by rw [← hq] at hx ⊢; exact hn.1)
    have hsame : (N.filter fun n => !(left n.1 && decide (n.1 ≠ x))) = N.filter fun n => !left n.1 := filter_same fun z hz => by
     have : z.1 ≠ x := fun e => hn.1 (by rw [hq, ← e]; exact List.mem_map_of_mem (f := (·.1)) hz)
     simp [this]
    rw [List.filter_cons, List.filter_cons, hsame]
    subst hqx
    simp only [ne_eq, not_true, decide_false, Bool.and_false, Bool.not_false, if_true, hl, Bool.not_true, Bool.false_eq_true, if_false]
    exact List.perm_append_comm (l₁ := [_])
   ·have hx' : (x, v) ∈ N := by
     rcases List.mem_cons.1 hx with h | h
     ·exact absurd (by rw [← h]) hq
     ·exact h
    have h1 := ih hn.2 hx'
    rw [List.filter_cons, List.filter_cons]
    simp only [ne_eq, hq, not_false_iff, decide_true, Bool.and_true] at h1 ⊢
    split
    ·rw [List.cons_append]; exact h1.cons _
    ·exact h1
theorem putK_new {α β : Type} [DecidableEq α] {M : List (α × β)} {x : α} (h : getK M x = none) (v : β) : putK M x v = M ++ [(x, v)] := by unfold putK; rw [delK_none h]
theorem St.grpSnoc {w0 w : World} {ts : List Thing} {t : Thing} {l : List Thing} (h : St w0 w (grp ts :: t :: l)) : St w0 w (grp (ts ++ [t]) :: l) := by
 have h1 := h.ungrp
 exact St.regrp (ts ++ [t]) (by rw [List.append_assoc]; exact h1)
end Go.Proofs.YtonnbkebjeoflaaGreatDoor
