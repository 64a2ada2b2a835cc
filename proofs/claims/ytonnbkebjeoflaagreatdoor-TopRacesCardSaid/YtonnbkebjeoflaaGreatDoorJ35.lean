/-
  Laws of SvcG.
  Conditions: each law states its own.
-/
import Derived.Test.YtonnbkebjeoflaaGreatDoorJ21
import Derived.Test.YtonnbkebjeoflaaGreatDoorJ24
import Derived.Test.YtonnbkebjeoflaaGreatDoorJ34
set_option linter.unusedSectionVars false
set_option linter.unusedSimpArgs false
set_option linter.unusedVariables false
namespace Go.Proofs.YtonnbkebjeoflaaGreatDoor
open Go.RowKit
theorem filter_both {α : Type} (f : α → Bool) : ∀ l : List α, l.length = (l.filter f).length + (l.filter fun x => !f x).length
 | [] => rfl
 | x :: l => by
   have := filter_both f l
   rw [List.filter_cons, List.filter_cons]
   cases f x <;> simp <;> omega
theorem count_sub {V W : List Wt} (h : V.Sublist W) (s : Int) : Watch.count V s ≤ Watch.count W s := (h.filter _).length_le
theorem watch_bound : ∀ (K : List Int) {W : List Wt}, (∀ s, Watch.count W s ≤ 64) → (∀ x ∈ W, x.who ∈ K) → W.length ≤ 64 * K.length
 | [], W, _, h => by
   cases W with
   | nil => simp
   | cons x W => exact absurd (h x List.mem_cons_self) List.not_mem_nil
 | k :: K, W, hc, h => by
   have h1 := watch_bound K (W := W.filter fun x => !decide (x.who = k)) (fun s => Nat.le_trans (count_sub List.filter_sublist s) (hc s)) (fun x hx => by
    obtain ⟨hx, hk⟩ := List.mem_filter.1 hx
    rcases List.mem_cons.1 (h x hx) with h | h
    ·simp [h] at hk
    ·exact h)
   have h2 := filter_both (fun x : Wt => decide (x.who = k)) W
   have h3 := hc k
   unfold Watch.count at h3
   rw [List.length_cons]
   omega
theorem fire_sub : ∀ (l : List Evt) (W : List Wt), (Watch.fire W l).1.Sublist W
 | [], W => List.Sublist.refl _
 | e :: l, W => (fire_sub l (Watch.left W e)).trans List.filter_sublist
theorem who_hit (W : List Wt) (e : Evt) : (Watch.who W e).length + (Watch.left W e).length ≤ W.length := by
 have h1 : (Watch.who W e).length ≤ (W.filter (Watch.hit e)).length := by
  unfold Watch.who
  refine Nat.le_trans (compact_le _) ?_
  rw [List.length_mergeSort, List.length_map]
  exact Nat.le_refl _
 have h2 := filter_both (Watch.hit e) W
 unfold Watch.left
 omega
theorem fire_few : ∀ (l : List Evt) (W : List Wt), (Watch.fire W l).2.length + (Watch.fire W l).1.length ≤ W.length
 | [], W => by show 0 + W.length ≤ W.length; omega
 | e :: l, W => by
   have h1 := fire_few l (Watch.left W e)
   have h2 := who_hit W e
   show ((Watch.who W e).map _ ++ _).length + _ ≤ _
   rw [List.length_append, List.length_map]
   show (Watch.who W e).length + (Watch.fire (Watch.left W e) l).2.length + (Watch.fire (Watch.left W e) l).1.length ≤ W.length
   omega
theorem compact_mem : ∀ (l : List Int) {x : Int}, x ∈ compactL l → x ∈ l
 | [], _, h => h
 | [_], _, h => h
 | a :: b :: l, x, h => by
   unfold compactL at h
   split at h
   ·exact List.mem_cons_of_mem _ (compact_mem _ h)
   ·rcases List.mem_cons.1 h with h | h
    ·rw [h]; exact List.mem_cons_self
    ·exact List.mem_cons_of_mem _ (compact_mem _ h)
theorem who_mem {W : List Wt} {e : Evt} {s : Int} (h : s ∈ Watch.who W e) : ∃ x ∈ W, x.who = s := by
 unfold Watch.who at h
 have h1 := compact_mem _ h
 rw [List.mem_mergeSort] at h1
 obtain ⟨x, hx, hs⟩ := List.mem_map.1 h1
 exact ⟨x, (List.mem_filter.1 hx).1, hs⟩
theorem fire_who : ∀ (l : List Evt) (W : List Wt) {q : Int × Evt}, q ∈ (Watch.fire W l).2 → ∃ x ∈ W, x.who = q.1
 | [], W, q, h => (by cases h)
 | e :: l, W, q, h => by
   rcases List.mem_append.1 (show q ∈ (Watch.who W e).map (fun s => (s, e)) ++ (Watch.fire (Watch.left W e) l).2 from h) with h | h
   ·obtain ⟨s, hs, rfl⟩ := List.mem_map.1 h
    exact who_mem hs
   ·obtain ⟨x, hx, hs⟩ := fire_who l _ h
    exact ⟨x, (List.mem_filter.1 hx).1, hs⟩
structure WtOk (W : List Wt) (K : List Int) : Prop where
 nodup : W.Nodup
 few : ∀ s, Watch.count W s ≤ 64
 who : ∀ x ∈ W, x.who ∈ K
theorem WtOk.len {W : List Wt} {K : List Int} (h : WtOk W K) : W.length ≤ 64 * K.length := watch_bound K h.few h.who
theorem WtOk.sub {V W : List Wt} {K : List Int} (h : WtOk W K) (hs : V.Sublist W) : WtOk V K := ⟨h.nodup.sublist hs, fun s => Nat.le_trans (count_sub hs s) (h.few s), fun x hx => h.who x (hs.subset hx)⟩
theorem WtOk.mono {W : List Wt} {K L : List Int} (h : WtOk W K) (hs : ∀ x ∈ K, x ∈ L) : WtOk W L := ⟨h.nodup, h.few, fun x hx => hs _ (h.who x hx)⟩
theorem WtOk.drop {W : List Wt} {K L : List Int} (h : WtOk W K) (s : Int) (hs : ∀ x ∈ K, x ≠ s → x ∈ L) : WtOk (Watch.drop W s) L := by
 have h1 : WtOk (Watch.drop W s) K := h.sub List.filter_sublist
 exact ⟨h1.nodup, h1.few, fun x hx => hs _ (h1.who x hx) (by have := (List.mem_filter.1 hx).2; simpa using this)⟩
theorem WtOk.add {W : List Wt} {K : List Int} (h : WtOk W K) (s k : Int) (p : ByteArray) (hs : s ∈ K) : WtOk (Watch.add W s k p).1 K := by
 unfold Watch.add
 split
 ·exact h
 ·split
  ·exact h
  ·rename_i hn
   split
   ·exact h
   ·rename_i hc
    refine ⟨?_, fun t => ?_, fun x hx => ?_⟩
    ·rw [List.nodup_append]
     refine ⟨h.nodup, by simp, fun a ha b hb e => ?_⟩
     rw [List.mem_singleton] at hb
     subst hb
     subst e
     exact hn ha
    ·have h1 := h.few t
     have h2 := h.few s
     unfold Watch.count at *
     rw [List.filter_append, List.length_append]
     by_cases he : s = t
     ·subst he
      simp only [List.filter_cons, decide_true, if_true, List.filter_nil, List.length_cons, List.length_nil]
      omega
     ·simp only [List.filter_cons, he, decide_false, Bool.false_eq_true, if_false, List.filter_nil, List.length_nil]
      omega
    ·rcases List.mem_append.1 hx with hx | hx
     ·exact h.who x hx
     ·rw [List.mem_singleton.1 hx]; exact hs
theorem WtOk.arm {K : List Int} {s : Int} (hs : s ∈ K) (T : Tree) : ∀ (l : List Armd) {W : List Wt} {out : List Evt}, WtOk W K → WtOk (Watch.arm s T l W out).1 K ∧ (Watch.arm s T l W out).2.length ≤ out.length + l.length
 | [], W, out, h => ⟨h, Nat.le_refl _⟩
 | a :: l, W, out, h => by
   unfold Watch.arm
   split
   ·have := WtOk.arm hs T l (out := out) h
    exact ⟨this.1, by have := this.2; rw [List.length_cons]; omega⟩
   ·split
    ·have := WtOk.arm hs T l (out := out) (h.add s a.kind a.path hs)
     exact ⟨this.1, by have := this.2; rw [List.length_cons]; omega⟩
    ·split
     ·have := WtOk.arm hs T l (out := out) h
      exact ⟨this.1, by have := this.2; rw [List.length_cons]; omega⟩
     ·have := WtOk.arm hs T l (out := out ++ [(Watch.since T a).1]) h
      exact ⟨this.1, by have := this.2; rw [List.length_append, List.length_singleton] at this; rw [List.length_cons]; omega⟩
structure EvOk (ev : List (Int × List Evt)) (n m : Nat) : Prop where
 many : ev.length ≤ n
 each : ∀ q ∈ ev, q.2.length ≤ m
theorem EvOk.at {ev : List (Int × List Evt)} {n m : Nat} (h : EvOk ev n m) (s : Int) : ((getK ev s).getD []).length ≤ m := by
 cases hg : getK ev s with
 | none => exact Nat.zero_le _
 | some l => exact h.each _ (getK_some_mem hg)
theorem EvOk.put {ev : List (Int × List Evt)} {n m : Nat} (h : EvOk ev n m) (s : Int) {l : List Evt} {k : Nat} (hl : l.length ≤ m + k) : EvOk (putK ev s l) (n + 1) (m + k) :=
 ⟨Nat.le_trans (putK_le _ _ _) (Nat.succ_le_succ h.many), fun q hq => by
  rcases mem_putK hq with hq | rfl
  ·exact Nat.le_trans (h.each q hq) (Nat.le_add_right _ _)
  ·exact hl⟩
theorem EvOk.mono {ev : List (Int × List Evt)} {n m n' m' : Nat} (h : EvOk ev n m) (hn : n ≤ n') (hm : m ≤ m') : EvOk ev n' m' := ⟨Nat.le_trans h.many hn, fun q hq => Nat.le_trans (h.each q hq) hm⟩
theorem EvOk.del {ev : List (Int × List Evt)} {n m : Nat} (h : EvOk ev n m) (s : Int) : EvOk (delK ev s) n m := ⟨Nat.le_trans (delK_le _ _) h.many, fun q hq => h.each q ((delK_sub _ _).subset hq)⟩
theorem EvOk.tell {ev : List (Int × List Evt)} {n m : Nat} (h : EvOk ev n m) (x : Int × Evt) : EvOk (Svc.tell ev x) (n + 1) (m + 1) :=
 h.put x.1 (k := 1) (by rw [List.length_append, List.length_singleton]; have := h.at x.1; omega)
theorem EvOk.tells : ∀ (l : List (Int × Evt)) {ev : List (Int × List Evt)} {n m : Nat}, EvOk ev n m → EvOk (l.foldl Svc.tell ev) (n + l.length) (m + l.length)
 | [], _, _, _, h => h
 | x :: l, ev, n, m, h => by
   have := EvOk.tells l (h.tell x)
   rw [List.length_cons, List.foldl_cons]
   exact this.mono (by omega) (by omega)
def Tree.keys (T : Tree) : List ByteArray := T.nodes.map (·.1)
theorem node_noneK {T : Tree} {p : ByteArray} : T.node p = none ↔ p ∉ T.keys := getK_none
theorem keys_putK {α β : Type} [DecidableEq α] (M : List (α × β)) (x : α) (v : β) : (putK M x v).map (·.1) = ((M.map (·.1)).filter fun k => decide (k ≠ x)) ++ [x] := by
 unfold putK delK
 rw [List.map_append, List.filter_map]
 rfl
theorem putK_keys {T U : Tree} (h : T.keys = U.keys) (p : ByteArray) (n m : Nd) : (putK T.nodes p n).map (·.1) = (putK U.nodes p m).map (·.1) := by
 unfold Tree.keys at h
 rw [keys_putK, keys_putK, h]
theorem node_both {T U : Tree} (h : T.keys = U.keys) (p : ByteArray) : (T.node p = none ∧ U.node p = none) ∨ ∃ n m, T.node p = some n ∧ U.node p = some m := by
 cases ht : T.node p with
 | none => exact .inl ⟨rfl, node_noneK.2 (by rw [← h]; exact node_noneK.1 ht)⟩
 | some n =>
   cases hu : U.node p with
   | none => exact absurd (node_noneK.2 (by rw [h]; exact node_noneK.1 hu)) (by rw [ht]; simp)
   | some m => exact .inr ⟨n, m, rfl, rfl⟩
theorem kid_keys {T U : Tree} (h : T.keys = U.keys) (p : ByteArray) (n z n' z' : Int) : (T.kid p n z).keys = (U.kid p n' z').keys := by
 unfold Tree.kid
 rcases node_both h p with ⟨h1, h2⟩ | ⟨a, b, h1, h2⟩
 ·rw [h1, h2]; exact h
 ·rw [h1, h2]; exact putK_keys h _ _ _
theorem part_keys {T U : Tree} (h : T.keys = U.keys) (x : Tx) (z z' : Int) : (T.part x z).1.keys = (U.part x z').1.keys := by
 unfold Tree.part
 split
 ·unfold Tree.create
  rcases node_both h (parentB x.path) with ⟨h1, h2⟩ | ⟨a, b, h1, h2⟩
  ·rw [h1, h2]
   simp only [or_true, if_true]
   exact h
  ·rw [h1, h2]
   simp only [reduceCtorEq, or_false]
   split
   ·exact h
   ·exact kid_keys (T := { T with nodes := putK T.nodes x.path _ }) (U := { U with nodes := putK U.nodes x.path _ }) (putK_keys h _ _ _) _ _ _ _ _
 ·split
  ·unfold Tree.erase
   split
   ·exact h
   ·refine kid_keys (T := { T with nodes := T.nodes.filter fun n => !Tree.gone x.path n.1 }) (U := { U with nodes := U.nodes.filter fun n => !Tree.gone x.path n.1 }) ?_ _ _ _ _ _
    have e : ∀ V : Tree, (V.nodes.filter fun n => !Tree.gone x.path n.1).map (·.1) = V.keys.filter fun k => !Tree.gone x.path k := fun V => by
     unfold Tree.keys
     rw [List.filter_map]
     rfl
    show (T.nodes.filter _).map _ = (U.nodes.filter _).map _
    rw [e, e, h]
  ·rcases node_both h x.path with ⟨h1, h2⟩ | ⟨a, b, h1, h2⟩
   ·rw [h1, h2]; exact h
   ·rw [h1, h2]
    simp only
    split
    ·exact putK_keys h _ _ _
    ·split
     ·exact putK_keys h _ _ _
     ·exact h
theorem goodAt_keys {T U : Tree} (h : T.keys = U.keys) {x : Tx} (hx : x.goodAt T) : x.goodAt U := by
 have e : U.nodes.length = T.nodes.length := by
  have := congrArg List.length h
  unfold Tree.keys at this
  rw [List.length_map, List.length_map] at this
  exact this.symm
 exact ⟨hx.owner, hx.number, fun hk => by rw [e]; exact hx.create hk, hx.set, hx.acl⟩
structure TxOK (T : Tree) (X : Tx2) : Prop where
 fit : X.x.fit
 few : X.subs.length ≤ 64
 all : ∀ y ∈ X.subs, y.fit
 small : ∀ y ∈ X.subs, y.path.size ≤ 60
 path : X.x.path.size ≤ 60
 owner : okInt X.x.owner
 good : ∀ z, okInt z → (T.apply z X.x X.subs).1.good
theorem ok0 : okInt 0 := by unfold okInt; omega
theorem small0 {k o n e : Int} : (⟨k, ⟨#[]⟩, ⟨#[]⟩, [], o, n, e⟩ : Tx).small := small_none (by show (0 : Nat) ≤ 60; omega)
theorem refusal_ok {T : Tree} (h : T.good) (e n : Int) : TxOK T (Tree.refusal e n) := by
 refine ⟨small0.fit, by show (0 : Nat) ≤ 64; omega, fun y hy => (by cases hy), fun y hy => (by cases hy), by show (0 : Nat) ≤ 60; omega, ok0, fun z hz => ?_⟩
 unfold Tree.apply Tree.refusal
 simp only
 exact h.same (by rfl)
theorem good_at {T : Tree} (h : T.good) (z : Int) : ({ T with zxid := z } : Tree).good := h.same rfl
theorem part_ok {T : Tree} (h : T.good) {x : Tx} (hx : x.goodAt T) (hk : 0 ≤ x.kind ∧ x.kind ≤ 4) (hs : x.small) : TxOK T ⟨x, []⟩ := by
 refine ⟨hs.fit, by show (0 : Nat) ≤ 64; omega, fun y hy => (by cases hy), fun y hy => (by cases hy), hs.path, hx.owner, fun z hz => ?_⟩
 show (T.apply z x []).1.good
 rw [apply_of hk]
 exact part_good (good_at h z) (goodAt_keys (T := T) (U := { T with zxid := z }) rfl hx) hz
theorem multi_ok {z : Int} (hz : okInt z) {s : Int} (hs : okInt s) (ids : List ByteArray) (U0 : Tree) : ∀ (rs : List Rq1) (i : Nat) (done : List Tx) (T : Tree), T.good → okInt T.zxid → (U0.parts done z).1.good → T.keys = (U0.parts done z).1.keys → (∀ y ∈ done, y.small) →
 (∃ e n, T.multiTx s ids rs i done = Tree.refusal e n) ∨ ∃ l, T.multiTx s ids rs i done = ⟨⟨7, ⟨#[]⟩, ⟨#[]⟩, [], 0, 0, 0⟩, l⟩ ∧ (U0.parts l z).1.good ∧ l.length = done.length + rs.length ∧ ∀ y ∈ l, y.small
 | [], i, done, T, hT, hTz, hU, hk, hd => .inr ⟨done, rfl, hU, rfl, hd⟩
 | r :: rs, i, done, T, hT, hTz, hU, hk, hd => by
   by_cases he : (T.partTx s ids r).2 = 0
   ·rw [multi_step he]
    have hg := partTx_good hs he
    have hsm := partTx_small he
    have ha := apply_of (T := T) (z := T.zxid) (partTx_kind T s ids r)
    rw [ha]
    have hpg : (T.part (T.partTx s ids r).1 T.zxid).1.good := part_good hT hg hTz
    have hU2 : (U0.parts (done ++ [(T.partTx s ids r).1]) z).1.good := by
     rw [parts_snoc]
     exact part_good hU (goodAt_keys hk hg) hz
    have hk2 : (T.part (T.partTx s ids r).1 T.zxid).1.keys = (U0.parts (done ++ [(T.partTx s ids r).1]) z).1.keys := by
     rw [parts_snoc]
     exact part_keys hk _ _ _
    have := multi_ok hz hs ids U0 rs (i + 1) (done ++ [(T.partTx s ids r).1]) _ hpg (by rw [(part_rest T _ _).2]; exact hTz) hU2 hk2 (fun y hy => by
     rcases List.mem_append.1 hy with hy | hy
     ·exact hd y hy
     ·rw [List.mem_singleton.1 hy]; exact hsm)
    rcases this with h | ⟨l, h1, h2, h3, h4⟩
    ·exact .inl h
    ·refine .inr ⟨l, h1, h2, ?_, h4⟩
     rw [h3, List.length_append, List.length_singleton, List.length_cons]
     omega
   ·rw [multi_stop he]
    exact .inl ⟨_, _, rfl⟩
theorem parts_goodD {z : Int} (hz : okInt z) : ∀ (l : List Tx) {T : Tree}, T.good → (∀ y ∈ l, y.kind = 2 ∧ okInt y.owner ∧ okInt y.number) → ∀ {e : List Evt}, (l.foldl (fun s x => ((s.1.part x z).1, s.2 ++ (s.1.part x z).2)) (T, e)).1.good
 | [], T, h, _, _ => h
 | x :: l, T, h, hl, e => by
   rw [List.foldl_cons]
   obtain ⟨h1, h2, h3⟩ := hl x List.mem_cons_self
   exact parts_goodD hz l (part_good h (x := x) ⟨h2, h3, fun hk => by omega, fun hk => by omega, fun hk => by omega⟩ hz) (fun y hy => hl y (List.mem_cons_of_mem _ hy))
theorem close_all : ∀ (l : List ByteArray) (T : Tree) (done : List Tx), (∀ y ∈ done, y.kind = 2 ∧ okInt y.owner ∧ okInt y.number ∧ y.small) → (∀ p ∈ l, p.size ≤ 60) →
 (∀ y ∈ T.closeTx l done, y.kind = 2 ∧ okInt y.owner ∧ okInt y.number ∧ y.small) ∧ (T.closeTx l done).length = done.length + l.length
 | [], T, done, hd, _ => ⟨hd, rfl⟩
 | p :: l, T, done, hd, hp => by
   unfold Tree.closeTx
   have := close_all l (T.apply T.zxid ⟨2, p, ⟨#[]⟩, [], 0, inc (T.stat (parentB p)).cversion, 0⟩ []).1 (done ++ [⟨2, p, ⟨#[]⟩, [], 0, inc (T.stat (parentB p)).cversion, 0⟩]) (fun y hy => by
    rcases List.mem_append.1 hy with hy | hy
    ·exact hd y hy
    ·rw [List.mem_singleton.1 hy]; exact ⟨rfl, ok0, inc_ok _, small_none (hp p List.mem_cons_self)⟩) (fun q hq => hp q (List.mem_cons_of_mem _ hq))
   refine ⟨this.1, ?_⟩
   rw [this.2, List.length_append, List.length_singleton, List.length_cons]
   omega
theorem owned_size {T : Tree} (h : T.good) (s : Int) : ∀ p ∈ T.owned s, p.size ≤ 60 := by
 intro p hp
 unfold Tree.owned at hp
 have h1 := (List.mem_filter.1 hp).1
 unfold Tree.paths at h1
 rw [List.mem_mergeSort] at h1
 obtain ⟨n, hn, rfl⟩ := List.mem_map.1 h1
 exact check_size (h.path n hn)
theorem owned_few {T : Tree} (h : T.good) (s : Int) : (T.owned s).length ≤ 64 := by
 unfold Tree.owned
 refine Nat.le_trans (List.length_filter_le _ _) ?_
 unfold Tree.paths
 rw [List.length_mergeSort, List.length_map]
 exact h.many
theorem txn_ok {T : Tree} (h : T.good) (hz : okInt T.zxid) {s : Int} (hs : okInt s) (ids : List ByteArray) (r : Rq) : TxOK T (T.txn s ids r) := by
 unfold Tree.txn
 split
 ·exact refusal_ok h _ _
 ·split
  ·exact refusal_ok h _ _
  ·split
   ·split
    ·exact refusal_ok h _ _
    ·rename_i hn
     rcases multi_ok ok0 hs ids { T with zxid := 0 } r.subs 0 [] T h hz (good_at h 0) rfl (fun y hy => (by cases hy)) with ⟨e, n, h1⟩ | ⟨l, h1, h2, h3, h4⟩
     ·rw [h1]; exact refusal_ok h _ _
     ·rw [h1]
      refine ⟨small0.fit, ?_, fun y hy => (h4 y hy).fit, fun y hy => (h4 y hy).path, by show (0 : Nat) ≤ 60; omega, ok0, fun z hz' => ?_⟩
      ·show l.length ≤ 64
       rw [h3, List.length_nil]; omega
      ·rcases multi_ok hz' hs ids { T with zxid := z } r.subs 0 [] T h hz (good_at h z) rfl (fun y hy => (by cases hy)) with ⟨e, n, g1⟩ | ⟨m, g1, g2, g3, g4⟩
       ·rw [h1] at g1
        exact absurd (congrArg (fun X : Tx2 => X.x.kind) g1) (by show ¬ ((7 : Int) = 8); omega)
       ·rw [h1] at g1
        have : l = m := congrArg Tx2.subs g1
        subst this
        unfold Tree.apply
        simp only
        exact g2
   ·split
    ·exact part_ok h ⟨ok0, ok0, fun h => (by cases h), fun h => (by cases h), fun h => (by cases h)⟩ ⟨Int.le_refl _, by show (0 : Int) ≤ 4; omega⟩ small0
    ·split
     ·obtain ⟨h1, h2⟩ := close_all (T.owned s).reverse T [] (fun y hy => (by cases hy)) (fun p hp => owned_size h s p (List.mem_reverse.1 hp))
      refine ⟨small0.fit, ?_, fun y hy => (h1 y hy).2.2.2.fit, fun y hy => (h1 y hy).2.2.2.path, by show (0 : Nat) ≤ 60; omega, hs, fun z hz' => ?_⟩
      ·show (T.closeTx _ _).length ≤ 64
       rw [h2, List.length_reverse]
       have := owned_few h s
       simp only [List.length_nil]
       omega
      ·unfold Tree.apply
       simp only
       refine Tree.good.same (T := (({ T with zxid := z } : Tree).parts _ z).1) ?_ rfl
       exact parts_goodD hz' _ (good_at h z) (fun y hy => by have := h1 y (List.mem_filter.1 hy).1; exact ⟨this.1, this.2.1, this.2.2.1⟩)
     ·split
      ·exact refusal_ok h _ _
      ·rename_i he
       have he : (T.partTx s ids r.r).2 = 0 := by simpa using he
       exact part_ok h (partTx_good hs he) (partTx_kind _ _ _ _) (partTx_small he)
end Go.Proofs.YtonnbkebjeoflaaGreatDoor
