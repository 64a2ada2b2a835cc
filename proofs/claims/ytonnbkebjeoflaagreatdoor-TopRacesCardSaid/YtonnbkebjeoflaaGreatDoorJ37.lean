/-
  Laws of SvcH, PlainD.
  Conditions: each law states its own.
-/
import Derived.Test.YtonnbkebjeoflaaGreatDoorJ23
import Derived.Test.YtonnbkebjeoflaaGreatDoorJ35
import Derived.Test.YtonnbkebjeoflaaGreatDoorJ36
set_option maxHeartbeats 16000000
set_option linter.unusedSectionVars false
set_option linter.unusedSimpArgs false
set_option linter.unusedVariables false
set_option maxRecDepth 100000
namespace Go.Proofs.YtonnbkebjeoflaaGreatDoor
open Go.RowKit
theorem parts_rest (z : Int) : ∀ (l : List Tx) (T : Tree) (e : List Evt), (l.foldl (fun s x => ((s.1.part x z).1, s.2 ++ (s.1.part x z).2)) (T, e)).1.sessions = T.sessions ∧ (l.foldl (fun s x => ((s.1.part x z).1, s.2 ++ (s.1.part x z).2)) (T, e)).1.zxid = T.zxid
 | [], T, e => ⟨rfl, rfl⟩
 | x :: l, T, e => by
   have h := parts_rest z l (T.part x z).1 (e ++ (T.part x z).2)
   have h2 := part_rest T x z
   rw [List.foldl_cons]
   exact ⟨h.1.trans h2.1, h.2.trans h2.2⟩
theorem apply_zxid (T : Tree) (z : Int) (x : Tx) (s : List Tx) : (T.apply z x s).1.zxid = z := by
 unfold Tree.apply
 simp only
 split
 ·split <;> rfl
 ·split
  ·exact (parts_rest z _ _ _).2
  ·split
   ·exact (parts_rest z _ _ _).2
   ·split
    ·rfl
    ·exact (part_rest _ _ _).2
theorem apply_sess (T : Tree) (z : Int) (x : Tx) (s : List Tx) (h5 : x.kind ≠ 5) (h6 : x.kind ≠ 6) : (T.apply z x s).1.sessions = T.sessions := by
 unfold Tree.apply
 simp only [if_neg h5, if_neg h6]
 split
 ·exact (parts_rest z _ _ _).1
 ·split
  ·rfl
  ·exact (part_rest _ _ _).1
theorem apply_sess6 (T : Tree) (z : Int) (x : Tx) (s : List Tx) (h6 : x.kind = 6) : (T.apply z x s).1.sessions = delK T.sessions x.owner := by
 unfold Tree.apply
 simp only [h6]
 show delK (Tree.parts _ _ z).1.sessions x.owner = _
 rw [show (Tree.parts ({ T with zxid := z } : Tree) (s.filter fun y => decide (y.kind = 2)) z).1.sessions = T.sessions from (parts_rest z _ _ _).1]
theorem part_path (T : Tree) (x : Tx) (z : Int) : ∀ e ∈ (T.part x z).2, e.path.size ≤ x.path.size + 1 := by
 have hp := parent_le x.path
 intro e he
 unfold Tree.part at he
 split at he
 ·unfold Tree.create at he
  split at he
  ·cases he
  ·simp only [List.mem_cons, List.not_mem_nil, or_false] at he
   rcases he with rfl | rfl
   ·exact Nat.le_succ _
   ·exact hp
 ·split at he
  ·unfold Tree.erase at he
   split at he
   ·cases he
   ·simp only at he
    split at he
    ·split at he
     ·simp only [List.mem_cons, List.not_mem_nil, or_false] at he
      rcases he with rfl | rfl
      ·exact Nat.le_succ _
      ·exact hp
     ·rw [List.mem_singleton.1 he]; exact Nat.le_succ _
    ·cases he
  ·cases hn : T.node x.path with
   | none => rw [hn] at he; cases he
   | some n =>
     rw [hn] at he
     simp only at he
     split at he
     ·rw [List.mem_singleton.1 he]; exact Nat.le_succ _
     ·split at he <;> cases he
theorem parts_evs (z : Int) : ∀ (l : List Tx) (T : Tree) (e : List Evt), (∀ x ∈ l, x.path.size ≤ 60) → (∀ q ∈ e, q.path.size ≤ 61) →
 (l.foldl (fun s x => ((s.1.part x z).1, s.2 ++ (s.1.part x z).2)) (T, e)).2.length ≤ e.length + 2 * l.length ∧ ∀ q ∈ (l.foldl (fun s x => ((s.1.part x z).1, s.2 ++ (s.1.part x z).2)) (T, e)).2, q.path.size ≤ 61
 | [], T, e, _, he => ⟨Nat.le_refl _, he⟩
 | x :: l, T, e, hl, he => by
   have h := parts_evs z l (T.part x z).1 (e ++ (T.part x z).2) (fun y hy => hl y (List.mem_cons_of_mem _ hy)) (fun q hq => by
    rcases List.mem_append.1 hq with hq | hq
    ·exact he q hq
    ·have := part_path T x z q hq; have := hl x List.mem_cons_self; omega)
   have h2 := part_evs T x z
   rw [List.foldl_cons]
   refine ⟨?_, h.2⟩
   have := h.1
   rw [List.length_append] at this
   rw [List.length_cons]
   simp only at this ⊢
   omega
theorem TxOK.evs {T : Tree} {X : Tx2} (h : TxOK T X) (z : Int) : (T.apply z X.x X.subs).2.1.length ≤ 130 ∧ ∀ q ∈ (T.apply z X.x X.subs).2.1, q.path.size ≤ 61 := by
 have hp := h.path
 have hf := h.few
 unfold Tree.apply
 simp only
 split
 ·split
  ·exact ⟨Nat.zero_le _, fun q hq => (by cases hq)⟩
  ·exact ⟨Nat.zero_le _, fun q hq => (by cases hq)⟩
 ·split
  ·have := parts_evs z (X.subs.filter fun y => decide (y.kind = 2)) { T with zxid := z } [] (fun x hx => h.small x (List.mem_filter.1 hx).1) (fun q hq => (by cases hq))
   refine ⟨Nat.le_trans this.1 ?_, this.2⟩
   have := List.length_filter_le (fun y : Tx => decide (y.kind = 2)) X.subs
   simp only [List.length_nil]
   omega
  ·split
   ·have := parts_evs z X.subs { T with zxid := z } [] h.small (fun q hq => (by cases hq))
    refine ⟨Nat.le_trans this.1 ?_, this.2⟩
    simp only [List.length_nil]
    omega
   ·split
    ·exact ⟨Nat.zero_le _, fun q hq => (by cases hq)⟩
    ·refine ⟨Nat.le_trans (part_evs _ _ _) (by omega), fun q hq => ?_⟩
     have := part_path _ _ _ q hq
     omega
structure Svc.good (p : Svc) (N M : Nat) : Prop where
 tree : p.tree.good
 zxid : okInt p.tree.zxid
 nodup : (p.tree.sessions.map (·.1)).Nodup
 sess : p.tree.sessions.length ≤ 16
 keys : ∀ s ∈ p.tree.sessions.map (·.1), 1 ≤ s ∧ s ≤ p.opened
 opened : 0 ≤ p.opened ∧ p.opened ≤ N
 order : p.order.length ≤ N
 wat : WtOk p.watches (p.tree.sessions.map (·.1))
 ids : p.ids.length ≤ N ∧ ∀ q ∈ p.ids, q.2.length ≤ 16
 ev : EvOk p.events (1024 * N) M
theorem Svc.good.mono {p : Svc} {N M N' M' : Nat} (h : p.good N M) (hn : N ≤ N') (hm : M ≤ M') : p.good N' M' :=
 ⟨h.tree, h.zxid, h.nodup, h.sess, h.keys, ⟨h.opened.1, by have := h.opened.2; omega⟩, by have := h.order; omega, h.wat, ⟨by have := h.ids.1; omega, h.ids.2⟩, h.ev.mono (by omega) hm⟩
theorem Svc.good.wlen {p : Svc} {N M : Nat} (h : p.good N M) : p.watches.length ≤ 1024 := by
 have h1 := h.wat.len
 have h2 := h.sess
 rw [List.length_map] at h1
 omega
theorem Svc.good.has {p : Svc} {N M : Nat} (h : p.good N M) {s : Int} (hs : p.there s = true) : s ∈ p.tree.sessions.map (·.1) := by
 unfold Svc.there at hs
 cases hg : getK p.tree.sessions s with
 | none => rw [hg] at hs; cases hs
 | some v => exact List.mem_map_of_mem (f := (·.1)) (getK_some_mem hg)
theorem Svc.good.sInt {p : Svc} {N M : Nat} (h : p.good N M) (hN : N ≤ 1000000) {s : Int} (hs : s ∈ p.tree.sessions.map (·.1)) : okInt s ∧ s ≠ 0 := by
 have h1 := h.keys s hs
 have h2 := h.opened
 unfold okInt
 omega
theorem Svc.good.fired {p : Svc} {N M : Nat} (h : p.good N M) (l : List Evt) : EvOk ((Watch.fire p.watches l).2.foldl Svc.tell p.events) (1024 * (N + 1)) (M + 1024) := by
 have h1 := fire_few l p.watches
 have h2 := h.wlen
 exact (EvOk.tells _ h.ev).mono (by omega) (by omega)
theorem okZ {N n : Nat} (hN : N ≤ 1000000) (h : n ≤ N) : okInt (4294967296 + (n : Int) + 1) := by unfold okInt; omega
theorem put_good {p : Svc} {N M : Nat} (h : p.good N M) (hN : N ≤ 1000000) {X : Tx2} (hX : TxOK p.tree X) (h5 : X.x.kind ≠ 5) (session xid : Int) : (p.put session xid X).1.good (N + 1) (M + 1024) := by
 have hz := okZ hN h.order
 have hfs := fire_sub (p.tree.apply (4294967296 + p.order.length + 1) X.x X.subs).2.1 p.watches
 unfold Svc.put
 simp only
 by_cases h6 : X.x.kind = 6
 ·rw [if_pos h6]
  have hs := apply_sess6 p.tree (4294967296 + p.order.length + 1) X.x X.subs h6
  have hz2 := apply_zxid p.tree (4294967296 + p.order.length + 1) X.x X.subs
  refine ⟨hX.good _ hz, by rw [hz2]; exact hz, ?_, ?_, fun s hs' => ?_, ⟨h.opened.1, by have := h.opened.2; show p.opened ≤ ((N + 1 : Nat) : Int); omega⟩, ?_, ?_, ⟨?_, fun q hq => h.ids.2 q ((delK_sub _ _).subset hq)⟩, (h.fired _).del _⟩
  ·rw [hs]; exact delK_nodup h.nodup _
  ·rw [hs]; exact Nat.le_trans (delK_le _ _) h.sess
  ·rw [hs] at hs'
   exact h.keys s (((delK_sub _ _).map _).subset hs')
  ·show (p.order ++ [_]).length ≤ N + 1
   rw [List.length_append, List.length_singleton]; have := h.order; omega
  ·show WtOk (Watch.drop _ _) ((p.tree.apply _ _ _).1.sessions.map (·.1))
   rw [hs]
   refine (h.wat.sub hfs).drop X.x.owner (fun x hx hne => ?_)
   obtain ⟨q, hq, rfl⟩ := List.mem_map.1 hx
   refine List.mem_map_of_mem (f := (·.1)) (List.mem_filter.2 ⟨hq, ?_⟩)
   simpa using hne
  ·have := delK_le p.ids X.x.owner
   have := h.ids.1
   show (delK p.ids X.x.owner).length ≤ N + 1
   omega
 ·rw [if_neg h6]
  have hs := apply_sess p.tree (4294967296 + p.order.length + 1) X.x X.subs h5 h6
  have hz2 := apply_zxid p.tree (4294967296 + p.order.length + 1) X.x X.subs
  refine ⟨hX.good _ hz, by rw [hz2]; exact hz, by rw [hs]; exact h.nodup, by rw [hs]; exact h.sess, by rw [hs]; exact h.keys, ⟨h.opened.1, by have := h.opened.2; show p.opened ≤ ((N + 1 : Nat) : Int); omega⟩, ?_, ?_, ⟨by have := h.ids.1; show p.ids.length ≤ N + 1; omega, h.ids.2⟩, h.fired _⟩
  ·show (p.order ++ [_]).length ≤ N + 1
   rw [List.length_append, List.length_singleton]; have := h.order; omega
  ·show WtOk _ ((p.tree.apply _ _ _).1.sessions.map (·.1))
   rw [hs]
   exact h.wat.sub hfs
theorem txn_not5 (T : Tree) (s : Int) (ids : List ByteArray) (r : Rq) : (T.txn s ids r).x.kind ≠ 5 := by
 have hr : ∀ e n, (Tree.refusal e n).x.kind ≠ 5 := fun e n => by show (8 : Int) ≠ 5; omega
 have hm : ∀ (rs : List Rq1) (i : Nat) (done : List Tx) (U : Tree), (U.multiTx s ids rs i done).x.kind ≠ 5 := by
  intro rs
  induction rs with
  | nil => intro i done U; show (7 : Int) ≠ 5; omega
  | cons a rs ih =>
    intro i done U
    unfold Tree.multiTx
    split
    ·exact hr _ _
    ·exact ih _ _ _
 unfold Tree.txn
 split
 ·exact hr _ _
 ·split
  ·exact hr _ _
  ·split
   ·split
    ·exact hr _ _
    ·exact hm _ _ _ _
   ·split
    ·show (0 : Int) ≠ 5; omega
    ·split
     ·show (6 : Int) ≠ 5; omega
     ·split
      ·exact hr _ _
      ·have := (partTx_kind T s ids r.r).2
       show (T.partTx s ids r.r).1.kind ≠ 5
       omega
theorem txn6 {T : Tree} {s : Int} {ids : List ByteArray} {r : Rq} (h : (T.txn s ids r).x.kind = 6) : r.r.kind = 8 := by
 have hr : ∀ e n, (Tree.refusal e n).x.kind ≠ 6 := fun e n => by show (8 : Int) ≠ 6; omega
 have hm : ∀ (rs : List Rq1) (i : Nat) (done : List Tx) (U : Tree), (U.multiTx s ids rs i done).x.kind ≠ 6 := by
  intro rs
  induction rs with
  | nil => intro i done U; show (7 : Int) ≠ 6; omega
  | cons a rs ih =>
    intro i done U
    unfold Tree.multiTx
    split
    ·exact hr _ _
    ·exact ih _ _ _
 unfold Tree.txn at h
 split at h
 ·exact absurd h (hr _ _)
 ·split at h
  ·exact absurd h (hr _ _)
  ·split at h
   ·split at h
    ·exact absurd h (hr _ _)
    ·exact absurd h (hm _ _ _ _)
   ·split at h
    ·exact absurd h (by show (0 : Int) ≠ 6; omega)
    ·split at h
     ·assumption
     ·split at h
      ·exact absurd h (hr _ _)
      ·have := (partTx_kind T s ids r.r).2
       have h' : (T.partTx s ids r.r).1.kind = 6 := h
       omega
theorem openS_good {p : Svc} {N M : Nat} (h : p.good N M) (hN : N ≤ 1000000) (t : Int) : (p.openS t).1.good (N + 1) (M + 1024) := by
 unfold Svc.openS
 split
 ·exact h.mono (Nat.le_succ _) (Nat.le_add_right _ _)
 ·rename_i h16
  have ho : inc p.opened = p.opened + 1 := by
   have := h.opened
   unfold inc
   simp [IntKind.wrap, IntKind.bits, IntKind.signed]
   omega
  have ho2 := h.opened
  have hz := okZ hN h.order
  unfold Svc.put
  simp only
  rw [if_neg (by omega)]
  rw [ho]
  have ha : p.tree.apply (4294967296 + p.order.length + 1) ⟨5, ⟨#[]⟩, ⟨#[]⟩, [], p.opened + 1, Svc.clampT t, 0⟩ [] = ({ p.tree with zxid := 4294967296 + p.order.length + 1, sessions := putK p.tree.sessions (p.opened + 1) ⟨Svc.clampT t, ⟨#[]⟩⟩ }, [], 0) := by
   unfold Tree.apply
   simp only [if_true]
   rw [if_pos (by omega)]
  rw [ha]
  have hks : (putK p.tree.sessions (p.opened + 1) (⟨Svc.clampT t, ⟨#[]⟩⟩ : Hd)).length ≤ 16 := by
   have := putK_le p.tree.sessions (p.opened + 1) (⟨Svc.clampT t, ⟨#[]⟩⟩ : Hd)
   omega
  have hsub : ∀ x ∈ p.tree.sessions.map (·.1), x ∈ (putK p.tree.sessions (p.opened + 1) (⟨Svc.clampT t, ⟨#[]⟩⟩ : Hd)).map (·.1) := by
   intro x hx
   rw [keys_putK]
   by_cases he : x = p.opened + 1
   ·exact List.mem_append_right _ (by simp [he])
   ·exact List.mem_append_left _ (List.mem_filter.2 ⟨hx, by simpa using he⟩)
  refine ⟨h.tree.same rfl, hz, putK_nodup h.nodup _ _, hks, fun s hs => ?_, ⟨by show (0 : Int) ≤ p.opened + 1; omega, by show p.opened + 1 ≤ ((N + 1 : Nat) : Int); omega⟩, ?_, (h.wat.sub (fire_sub _ _)).mono hsub, ⟨by have := h.ids.1; show p.ids.length ≤ N + 1; omega, h.ids.2⟩, h.fired _⟩
  ·obtain ⟨q, hq, rfl⟩ := List.mem_map.1 hs
   rcases mem_putK hq with hq | rfl
   ·have := h.keys q.1 (List.mem_map_of_mem (f := (·.1)) hq)
    exact ⟨this.1, by show q.1 ≤ p.opened + 1; omega⟩
   ·exact ⟨by show (1 : Int) ≤ p.opened + 1; omega, Int.le_refl _⟩
  ·show (p.order ++ [_]).length ≤ N + 1
   rw [List.length_append, List.length_singleton]; have := h.order; omega
theorem readS_good {p : Svc} {N M : Nat} (h : p.good N M) {s : Int} (hs : p.there s = true) (r : Rq) : (p.readS s r).1.good (N + 1) (M + r.armed.length) := by
 have hm := h.mono (Nat.le_succ N) (Nat.le_add_right M r.armed.length)
 unfold Svc.readS
 split
 ·simp only
  split
  ·exact hm
  ·split
   ·exact hm
   ·rename_i h16
    refine ⟨hm.tree, hm.zxid, hm.nodup, hm.sess, hm.keys, hm.opened, hm.order, hm.wat, ⟨?_, fun q hq => ?_⟩, hm.ev⟩
    ·have := putK_le p.ids s (p.idsOf s ++ [(digestB r.r.path r.r.data).1])
     have := h.ids.1
     show (putK p.ids s _).length ≤ N + 1
     omega
    ·rcases mem_putK hq with hq | rfl
     ·exact h.ids.2 q hq
     ·show (p.idsOf s ++ [_]).length ≤ 16
      rw [List.length_append, List.length_singleton]; omega
 ·split
  ·have ha := WtOk.arm (h.has hs) p.tree r.armed (out := []) h.wat
   refine ⟨hm.tree, hm.zxid, hm.nodup, hm.sess, hm.keys, hm.opened, hm.order, ha.1, hm.ids, ?_⟩
   have := (h.ev.put s (l := p.eventsOf s ++ (Watch.arm s p.tree r.armed p.watches []).2) (k := r.armed.length) (by
    have h1 := h.ev.at s
    have h2 := ha.2
    unfold Svc.eventsOf
    rw [List.length_append]
    simp only [List.length_nil] at h2
    omega))
   exact this.mono (by omega) (Nat.le_refl _)
  ·split
   ·exact hm
   ·simp only
    split
    ·exact hm
    ·exact ⟨hm.tree, hm.zxid, hm.nodup, hm.sess, hm.keys, hm.opened, hm.order, h.wat.add _ _ _ (h.has hs), hm.ids, hm.ev⟩
theorem call_good {p : Svc} {N M : Nat} (h : p.good N M) (hN : N ≤ 1000000) {s : Int} (r : Rq) : (p.call s r).1.good (N + 1) (M + 1024 + r.armed.length) := by
 unfold Svc.call
 split
 ·exact h.mono (Nat.le_succ _) (by omega)
 ·rename_i ht
  have ht : p.there s = true := by simpa using ht
  have hs := h.sInt hN (h.has ht)
  split
  ·exact (put_good h hN (txn_ok h.tree h.zxid hs.1 _ _) (txn_not5 _ _ _ _) s r.r.xid).mono (Nat.le_refl _) (by omega)
  ·exact (readS_good h ht r).mono (Nat.le_refl _) (by omega)
theorem root0_good : Tree.root0.good := ⟨by show (0 : Nat) ≤ 100; omega, by decide, ok0, ok0, ok0, ok0, ok0, ok0, ok0⟩
theorem new_good : Svc.new.good 0 0 := by
 refine ⟨⟨?_, by show (1 : Nat) ≤ 64; omega, fun n hn => ?_, fun n hn => ?_⟩, ok0, List.nodup_nil, Nat.zero_le _, fun s hs => (by cases hs), ⟨Int.le_refl _, Int.le_refl _⟩, Nat.le_refl _, ⟨List.nodup_nil, fun s => Nat.zero_le _, fun x hx => (by cases hx)⟩, ⟨Nat.le_refl _, fun q hq => (by cases hq)⟩, ⟨Nat.le_refl _, fun q hq => (by cases hq)⟩⟩
 ·show [rootP].Nodup
  simp
 ·rw [List.mem_singleton.1 hn]; decide
 ·rw [List.mem_singleton.1 hn]; exact root0_good
open Go.RowKit Go.Maps
theorem Svc.good.tells {p : Svc} {N M : Nat} (h : p.good N M) (hN : N ≤ 1000000) (hM : M ≤ 20000000) : TellOk p.events p.watches :=
 ⟨h.ev.mono (by omega) hM, fun x hx => (h.sInt hN (h.wat.who x hx)).1⟩
def PutPost (pb : Nat) (p : Svc) (session xid : Int) (r : TxR) (subs : List TxR) (w0 : World) (l : List Thing) (e : Ending) (w' : World) : Prop :=
 ∃ (d : SD) (E : EnR), E = ⟨4294967296 + p.order.length + 1, session, xid, r, subs⟩ ∧ E ∈ d.L ∧ e = .returned (.agg E.cells.toArray) ∧ d.tells (p.put session xid ⟨r.x, subs.map TxR.x⟩).1 ∧
  St w0 w' (d.things pb (p.put session xid ⟨r.x, subs.map TxR.x⟩).1 ++ l)
theorem inc_small {n : Int} (h0 : 0 ≤ n) (h1 : n ≤ 1000000000) : inc n = n + 1 := by
 unfold inc
 simp [IntKind.wrap, IntKind.bits, IntKind.signed]
 omega
theorem putD_st {w0 w : World} {l : List Thing} (pb : Nat) (p : Svc) (d : SD) (hd : d.tells p) {N M : Nat} (hg : p.good N M) (hN : N ≤ 1000000) (hM : M ≤ 20000000) (r : TxR) (subs : List TxR) (session xid : Int) (h : St w0 w (d.things pb p ++ (TxnOwn r subs ++ l))) (hr : Rdy w0) (hk : r.x.kind ≠ 6) (hn : subs.length = r.sn) (hX : TxOK p.tree ⟨r.x, subs.map TxR.x⟩) :
 Calls Tryz.prog 30 #[.pointer (some ⟨pb, 0, none⟩), .int .i64 session, .int .i64 xid, .agg r.cells.toArray] w (PutDPost pb p d session xid r subs w0 l) := by
 have hf := hX.few
 simp only [List.length_map] at hf
 have hev := hX.evs (4294967296 + p.order.length + 1)
 refine put_st pb p d hd r subs session xid h hr hk ⟨hn, by show subs.length ≤ 1000; omega, hX.fit, fun s hs => hX.all _ (List.mem_map_of_mem hs), hX.owner⟩ (by have := hg.order; omega) (hg.tree.room (by omega)) (by have := hg.sess; omega) (by have := hg.wlen; omega) (hg.tells hN hM) ⟨by have := hev.1; simp only at this; omega, fun e he => by have := hev.2 e he; omega⟩
theorem putG_st {w0 w : World} {l : List Thing} (pb : Nat) (p : Svc) {N M : Nat} (hg : p.good N M) (hN : N ≤ 1000000) (hM : M ≤ 20000000) (r : TxR) (subs : List TxR) (session xid : Int) (h : St w0 w (svc pb p :: (TxnOwn r subs ++ l))) (hr : Rdy w0) (hk : r.x.kind ≠ 6) (hn : subs.length = r.sn) (hX : TxOK p.tree ⟨r.x, subs.map TxR.x⟩) :
 Calls Tryz.prog 30 #[.pointer (some ⟨pb, 0, none⟩), .int .i64 session, .int .i64 xid, .agg r.cells.toArray] w (PutPost pb p session xid r subs w0 l) := by
 obtain ⟨d, hd, hS⟩ := h.openS
 refine (putD_st pb p d hd hg hN hM r subs session xid hS hr hk hn hX).mono ?_
 rintro e w' ⟨E, oa, oc, hE, he, ht, hs⟩
 exact ⟨_, E, hE, List.mem_append_right _ (List.mem_singleton.2 rfl), he, ht, hs⟩
theorem open_ok {T : Tree} (h : T.good) {o : Int} (ho : okInt o) (n : Int) : TxOK T ⟨⟨5, ⟨#[]⟩, ⟨#[]⟩, [], o, n, 0⟩, []⟩ := by
 refine ⟨small0.fit, by show (0 : Nat) ≤ 64; omega, fun y hy => (by cases hy), fun y hy => (by cases hy), by show (0 : Nat) ≤ 60; omega, ho, fun z hz => ?_⟩
 unfold Tree.apply
 simp only [if_true]
 split
 ·exact h.same rfl
 ·exact h.same rfl
theorem good_opened {p : Svc} {N M : Nat} (h : p.good N M) : ({ p with opened := p.opened + 1 } : Svc).good (N + 1) M := by
 have hm := h.mono (Nat.le_succ N) (Nat.le_refl M)
 refine ⟨hm.tree, hm.zxid, hm.nodup, hm.sess, fun s hs => ⟨(h.keys s hs).1, ?_⟩, ⟨?_, ?_⟩, hm.order, hm.wat, hm.ids, hm.ev⟩
 ·have := (h.keys s hs).2; show s ≤ p.opened + 1; omega
 ·have := h.opened.1; show 0 ≤ p.opened + 1; omega
 ·have := h.opened.2; show p.opened + 1 ≤ ((N + 1 : Nat) : Int); omega
theorem St.noTxn {w0 w : World} {a : Thing} {l : List Thing} (x : Tx) (hx : x.acl = []) (h : St w0 w (a :: l)) : St w0 w (a :: (TxnOwn ⟨x, none, 0, none, 0, 0⟩ [] ++ l)) := by
 have h1 := ((St.regrp [] (l := _ :: _) ((h.nilSlice 61 8).nilSlice 46 2)).pick 3 rfl)
 simp only [List.eraseIdx_cons_zero, List.eraseIdx_cons_succ] at h1
 have h2 := h1.perm (List.Perm.cons _ (List.perm_append_comm_assoc [_] [_, _] l))
 unfold TxnOwn
 rw [hx]
 exact h2
section
variable {P : Program} {ops : Array Oper} {S : World → Prop} {o : Oper} {a : Act}
theorem yieldsMax (hw : Region.wanted o (yielded ops a.tmps) = true) {x y : Operand} {ts : Array TypeId} (ho : o.op = .call { callee := .builtin .max, args := #[x, y], argTypes := ts }) (m n r : Int) (hx : a.eval x = .int .i64 m) (hy : a.eval y = .int .i64 n) (hr : (if n > m then n else m) = r) : YieldsIf P ops S o (.int .i64 r) a :=
 Or.inl ⟨hw, fun w h => by
  have hrun := run_max_int2 (P := P) (w := w) ts o.type .i64 .i64 m n
  subst hr
  unfold execOp
  simp only [ho, resolve, invoke, builtin, Sem.run_bind, Sem.run_pure, Result.andThen_ok, List.map_toArray, List.map_cons, List.map_nil, hx, hy, hrun]⟩
theorem yieldsMin (hw : Region.wanted o (yielded ops a.tmps) = true) {x y : Operand} {ts : Array TypeId} (ho : o.op = .call { callee := .builtin .min, args := #[x, y], argTypes := ts }) (m n r : Int) (hx : a.eval x = .int .i64 m) (hy : a.eval y = .int .i64 n) (hr : (if n < m then n else m) = r) : YieldsIf P ops S o (.int .i64 r) a :=
 Or.inl ⟨hw, fun w h => by
  have hrun := run_min_int2 (P := P) (w := w) ts o.type .i64 .i64 m n
  subst hr
  unfold execOp
  simp only [ho, resolve, invoke, builtin, Sem.run_bind, Sem.run_pure, Result.andThen_ok, List.map_toArray, List.map_cons, List.map_nil, hx, hy, hrun]⟩
end
theorem openS_st {w0 w : World} {l : List Thing} (pb : Nat) (p : Svc) {N M : Nat} (h : St w0 w (svc pb p :: l)) (hr : Rdy w0) (hg : p.good N M) (hN : N < 1000000) (hM : M ≤ 20000000) (t : Int) :
 Calls Tryz.prog 26 #[.pointer (some ⟨pb, 0, none⟩), .int .i64 t] w (StPost (.tuple #[.int .i64 (p.openS t).2.1, .int .i64 (p.openS t).2.2]) w0 (svc pb (p.openS t).1 :: l)) := by
 obtain ⟨d, hd, hS⟩ := h.openS
 have hsl := hg.sess
 have CS := sessions_any w d.tb p.tree (hS.treeAt 1 rfl) (by omega)
 have c0 := blk_cell (hS.box 0 rfl) 0 (.pointer (some ⟨d.tb, 0, none⟩)) rfl
 have c3 := blk_cell (hS.box 0 rfl) 3 (.int .i64 p.opened) rfl
 have zp := heap_lt (hS.box 0 rfl)
 obtain ⟨sn, hsn⟩ : ∃ sn, p.tree.sessions.length = sn := ⟨_, rfl⟩
 rw [hsn] at hsl CS
 have CSH := Lib.hid CS
 by_cases h16 : 16 ≤ sn
 ·have h16' : (16 : Int) ≤ sn := by omega
  have ho : p.openS t = (p, 0, 91) := by unfold Svc.openS; rw [hsn, if_pos h16]
  rw [ho]
  have H0 := Lib.hid h
  clear CS hS hd h hg ho
  go_enter Tryz.func26, Tryz.ntmps26
  go_wp2_with (go_at_call 51; refine CSH.out.mono ?_; rintro e w1 ⟨sa, sc, rfl, hs1, hf1, hM1⟩; have H1 := Lib.hid (H0.out.mod hM1); clear hs1 hf1 hM1)
  refine bodyPost_ret (results_tmp2 rfl _ _ _) rfl ?_
  exact ⟨rfl, H1.out⟩
 ·have hlt : ¬ ((16 : Int) ≤ sn) := by omega
  have hob := hg.opened
  have hinc : wrap64 (p.opened + 1) = p.opened + 1 := by unfold wrap64; omega
  have HS := Lib.hid hS
  have HD := Lib.hid hd
  have HG := Lib.hid hg
  clear CS hS h hd
  go_enter Tryz.func26, Tryz.ntmps26
  go_upto_region 4 with (go_at_call 51; refine CSH.out.mono ?_; rintro e w1 ⟨sa, sc, rfl, hs1, hf1, hM1⟩; have H1 := Lib.hid (HS.out.mod hM1); have c3 := blk_cell (H1.out.box 0 rfl) 3 (.int .i64 p.opened) rfl; have f3 := blk_free (H1.out.box 0 rfl) 3; have zp := heap_lt (H1.out.box 0 rfl); clear hs1 hf1 hM1)
  have ho : p.openS t = ((({ p with opened := p.opened + 1 } : Svc).put (p.opened + 1) 0 ⟨⟨5, ⟨#[]⟩, ⟨#[]⟩, [], p.opened + 1, Svc.clampT t, 0⟩, []⟩).1, p.opened + 1, 0) := by
   unfold Svc.openS
   rw [hsn, if_neg h16, inc_small hob.1 (by omega)]
  have hpo : (({ p with opened := p.opened + 1 } : Svc).put (p.opened + 1) 0 ⟨⟨5, ⟨#[]⟩, ⟨#[]⟩, [], p.opened + 1, Svc.clampT t, 0⟩, []⟩).1.opened = p.opened + 1 := by
   unfold Svc.put
   simp only
   rw [if_neg (by omega)]
  obtain ⟨p2, hp2⟩ : ∃ p2 : Svc, ({ p with opened := p.opened + 1 } : Svc) = p2 := ⟨_, rfl⟩
  have H2 : St w0 (w1.setCell ⟨pb, 3, none⟩ (.int .i64 (p.opened + 1))) (svc pb p2 :: l) := by
   rw [← hp2]
   exact St.shutS d ⟨HD.out.order, HD.out.subs⟩ (H1.out.set 0 rfl 3 (.int .i64 (p.opened + 1)))
  obtain ⟨cl, hcl⟩ : ∃ cl, Svc.clampT t = cl := ⟨_, rfl⟩
  have hg2 : p2.good (N + 1) M := by rw [← hp2]; exact good_opened HG.out
  have hop : okInt (p.opened + 1) := by unfold okInt; omega
  have hopen : p2.opened = p.opened + 1 := by rw [← hp2]
  rw [hp2, hcl] at hpo ho
  have HO := Lib.hid ho
  have CP : Hid (∀ w', St w0 w' (svc pb p2 :: l) → _) := Lib.hid fun w' h' => putG_st pb p2 hg2 (by omega) hM ⟨⟨5, ⟨#[]⟩, ⟨#[]⟩, [], p.opened + 1, cl, 0⟩, none, 0, none, 0, 0⟩ [] (p.opened + 1) 0 (St.noTxn _ rfl h') hr (by show (5 : Int) ≠ 6; omega) rfl (open_ok hg2.tree hop cl)
  have KP : Hid (∀ w', St w0 w' (svc pb p2 :: l) → w'.cell? ⟨pb, 3, none⟩ = some (.int .i64 (p.opened + 1)) ∧ pb < w'.heap.size) := Lib.hid fun w' h' => by
   obtain ⟨d', _, h''⟩ := h'.openS
   exact ⟨blk_cell (h''.box 0 rfl) 3 _ (by rw [hopen]; rfl), heap_lt (h''.box 0 rfl)⟩
  have HP := Lib.hid (And.intro hpo hcl)
  clear hcl hpo hp2 ho hg2 hop hopen hinc hob hlt HS HD HG H1 c0 c3 f3 zp CSH
  generalize w1.setCell _ _ = W2 at H2 ⊢
  have HA := Lib.hid H2.drew
  have zp := (KP.out _ HA.out).2
  clear H2
  obtain ⟨mx, hmx⟩ : ∃ mx : Int, (if (4 : Int) > t then 4 else t) = mx := ⟨_, rfl⟩
  have hmn : (if (60 : Int) < mx then 60 else mx) = cl := by
   rw [← HP.out.2, ← hmx]
   unfold Svc.clampT
   omega
  have HMX := Lib.hid (And.intro hmx hmn)
  clear hmx hmn
  refine wp_region_last_held (n := 13) (S := fun w' => w'.cell? ⟨pb, 3, none⟩ = some (.int .i64 (p.opened + 1))) (by kernel_rfl) rfl (by simp only [List.pop_toArray, List.dropLast_cons_cons, List.dropLast_singleton]; rfl) (by kernel_rfl) (by kernel_rfl) (KP.out _ HA.out).1 (fun hHeld => ?_)
  generalize W2.drew = V at HA hHeld ⊢
  refine tk 0 (some 21) ?_ rfl rfl hHeld ?_ ?_
  rotate_left
  ·intro wq hSw; (try dsimp only at hSw); go_simp; try with_reducible rfl
  refine tk 1 (some 22) ?_ rfl rfl hHeld ?_ ?_
  rotate_left
  ·intro wq hSw; (try dsimp only at hSw); go_simp; try with_reducible rfl
  refine tk 2 (some 23) ?_ rfl rfl hHeld ?_ ?_
  rotate_left
  ·intro wq hSw; (try dsimp only at hSw); go_simp; try with_reducible rfl
  refine tk 3 (some 24) ?_ rfl rfl hHeld ?_ ?_
  rotate_left
  ·intro wq hSw; (try dsimp only at hSw); go_simp; try with_reducible rfl
  refine tk 4 (some 25) ?_ rfl rfl hHeld ?_ ?_
  rotate_left
  ·intro wq hSw; (try dsimp only at hSw); go_simp; try with_reducible rfl
  refine tk 5 (some 26) ?_ rfl rfl hHeld ?_ ?_
  rotate_left
  ·intro wq hSw; (try dsimp only at hSw); go_simp; try with_reducible rfl
  refine tk 6 (some 27) ?_ rfl rfl hHeld ?_ ?_
  rotate_left
  ·intro wq hSw; (try dsimp only at hSw); go_simp; try with_reducible rfl
  refine tk 7 (some 28) ?_ rfl rfl hHeld ?_ ?_
  rotate_left
  ·intro wq hSw; (try dsimp only at hSw); go_simp; try with_reducible rfl
  refine tk 8 (some 29) ?_ rfl rfl hHeld ?_ ?_
  rotate_left
  ·intro wq hSw; (try dsimp only at hSw); go_simp; try with_reducible rfl
  refine tk 9 (some 30) ?_ rfl rfl hHeld ?_ ?_
  rotate_left
  ·intro wq hSw; (try dsimp only at hSw); go_simp; try with_reducible rfl
  try simp only [Act.put, Nat.zero_add, zA, zB, zC]
  refine wpAnyH_take (i := 10) (oi := ⟨some 31, _, _, _, _, _⟩) (v := _) rfl (by kernel_rfl) (by kernel_rfl) (by kernel_rfl) (fun _ _ _ h => h) (yieldsMax (by rfl) rfl t 4 mx (by rfl) (by rfl) HMX.out.1) hHeld ?_
  try simp only [Act.put, Nat.zero_add, zA, zB, zC]
  refine wpAnyH_take (i := 11) (oi := ⟨some 32, _, _, _, _, _⟩) (v := _) rfl (by kernel_rfl) (by kernel_rfl) (by kernel_rfl) (fun _ _ _ h => h) (yieldsMin (by rfl) rfl mx 60 cl (by rfl) (by rfl) HMX.out.2) hHeld ?_
  try simp only [Act.put, Nat.zero_add, zA, zB, zC]
  refine tk 12 (some 33) ?_ rfl rfl hHeld ?_ ?_
  rotate_left
  ·intro wq hSw; (try dsimp only at hSw); go_simp; try with_reducible rfl
  try simp only [Act.put, Nat.zero_add, zA, zB, zC]
  refine wpAnyH_done (by kernel_rfl) ?_ _
  refine LastQ.listP rfl ?_
  go_wp2_with (go_at_call 30; refine (CP.out _ HA.out).mono ?_; rintro e w3 ⟨d3, E, hE, hEL, rfl, hd3, hS3⟩; have HB := Lib.hid (St.shutS d3 hd3 hS3); have c3b : w3.cell? ⟨pb, 3, none⟩ = some (.int .i64 (p.opened + 1)) := (by rw [← HP.out.1]; exact blk_cell (hS3.box 0 rfl) 3 _ rfl); have zp3 := heap_lt (hS3.box 0 rfl); clear hE hEL hd3 hS3)
  refine bodyPost_ret (results_tmp2 rfl _ _ _) rfl ?_
  rw [HO.out]
  exact ⟨rfl, HB.out⟩
end Go.Proofs.YtonnbkebjeoflaaGreatDoor
