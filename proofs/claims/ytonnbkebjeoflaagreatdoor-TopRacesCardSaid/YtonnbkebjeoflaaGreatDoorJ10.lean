/-
  Contracts and plain laws of Tree, Step, TreeA, TreeB, TreeC, TreeD, TreeG.
  Conditions: each law states its own.
-/
import Derived.Test.YtonnbkebjeoflaaGreatDoorProg
import Derived.Deep.RegionLaw
import Derived.Deep.RegionHeld3
import Derived.BigQuiet
import Derived.OwnWalk
import Derived.Deep.Cut
import Derived.Deep.CutBlock
import Derived.Deep.DeepCutAuto
import Derived.Test.YtonnbkebjeoflaaGreatDoorJ1
import Derived.Test.YtonnbkebjeoflaaGreatDoorJ2
import Derived.Test.YtonnbkebjeoflaaGreatDoorJ5
import Derived.Test.YtonnbkebjeoflaaGreatDoorJ6
import Derived.Test.YtonnbkebjeoflaaGreatDoorJ9
set_option linter.unusedSectionVars false
set_option linter.unusedSimpArgs false
set_option linter.unusedVariables false
set_option maxRecDepth 100000
namespace Go.Proofs.YtonnbkebjeoflaaGreatDoor
open Go.RowKit Go.Maps
def pr (φ : Prop) : Thing where
 lies _ F := φ ∧ ∀ x, ¬ F x
 keep := fun h _ _ => h
 below := fun h x hx => absurd hx (h.2 x)
theorem kStr : Tryz.prog.underlying 9 = some .string := Tryz.underlying9
theorem kInt : Tryz.prog.underlying 3 = some (.int .i64) := Tryz.underlying3
noncomputable def kbP : KB Tryz.prog 9 ByteArray := kbStr kStr
noncomputable def kbI : KB Tryz.prog 3 Int := kbInt kInt
theorem mapNodes : Tryz.prog.underlying 102 = some (.map 9 167) := Tryz.underlying102
theorem mapSess : Tryz.prog.underlying 103 = some (.map 3 107) := Tryz.underlying103
structure NRec where
 nd : Nd
 b : Nat
 aa : Option Addr
 ac : Nat
def NRec.cells (r : NRec) : List Value := [.string r.nd.data, .slice r.aa r.nd.acl.length r.ac, .int .i64 r.nd.st.czxid, .int .i64 r.nd.st.mzxid, .int .i64 r.nd.st.pzxid, .int .i64 r.nd.st.version, .int .i64 r.nd.st.cversion, .int .i64 r.nd.st.aversion, .int .i64 r.nd.st.owner, .int .i64 0, .int .i64 0]
def NRec.own (r : NRec) : Thing := grp [bx r.b r.cells.toArray 169, sl 46 2 r.aa r.nd.acl.length r.ac (r.nd.acl.flatMap ARow.cells)]
def NRec.ptr (r : NRec) : Value := .pointer (some ⟨r.b, 0, none⟩)
def Hd.val (h : Hd) : Value := .agg #[.int .i64 h.timeout, .string h.secret]
structure TD where
 mb : Nat
 sb : Nat
 recs : List (ByteArray × NRec)
noncomputable def TD.things (tb : Nat) (T : Tree) (d : TD) : List Thing :=
 [pr (T.nodes = d.recs.map fun p => (p.1, p.2.nd)), bx tb #[.map (some d.mb), .map (some d.sb), .int .i64 T.zxid] 105,
  mpl kbP d.mb (d.recs.map fun p => (p.1, p.2.ptr)), mpl kbI d.sb (T.sessions.map fun p => (p.1, p.2.val)), grp (d.recs.map fun p => p.2.own)]
noncomputable def tre (tb : Nat) (T : Tree) : Thing := some1 fun d : TD => grp (d.things tb T)
def TreeAt (w : World) (tb : Nat) (T : Tree) : Prop := ∃ F, (tre tb T).lies w F
theorem TreeAt.old {w w' : World} {tb : Nat} {T : Tree} (h : TreeAt w tb T) (hm : Mod (fun _ => False) w w') : TreeAt w' tb T := by
 obtain ⟨F, h⟩ := h
 exact ⟨F, (tre tb T).mod h hm (fun _ _ h => h)⟩
theorem St.treeAt {w0 w : World} {l : List Thing} (h : St w0 w l) (i : Nat) {tb : Nat} {T : Tree} (hi : l[i]? = some (tre tb T)) : TreeAt w tb T := by
 obtain ⟨F, hl, _⟩ := h.at i hi
 exact ⟨F, hl⟩
theorem TreeAt.open {w : World} {tb : Nat} {T : Tree} (h : TreeAt w tb T) : ∃ d : TD, T.nodes = (d.recs.map fun p => (p.1, p.2.nd)) ∧ w.heap[tb]? = some (.cells #[.map (some d.mb), .map (some d.sb), .int .i64 T.zxid] 105 (0, 0)) ∧
 MapL kbP w d.mb (d.recs.map fun p => (p.1, p.2.ptr)) ∧ MapL kbI w d.sb (T.sessions.map fun p => (p.1, p.2.val)) ∧
 ∀ p ∈ d.recs, w.heap[p.2.b]? = some (.cells p.2.cells.toArray 169 (0, 0)) ∧ Sl w 46 2 p.2.aa p.2.nd.acl.length p.2.ac (p.2.nd.acl.flatMap ARow.cells) := by
 obtain ⟨F, d, hl⟩ := h
 obtain ⟨_, _, ⟨h1, _⟩, ⟨_, _, ⟨h2, _⟩, ⟨_, _, ⟨h3, _⟩, ⟨_, _, ⟨h4, _⟩, ⟨G, _, h5, _⟩, _⟩, _⟩, _⟩, _⟩ := hl
 refine ⟨d, h1, h2, h3, h4, fun p hp => ?_⟩
 have h5 : Side w (d.recs.map fun p => p.2.own) G := h5
 obtain ⟨l1, l2, hl⟩ := List.append_of_mem (List.mem_map_of_mem (f := fun p => p.2.own) hp)
 rw [hl] at h5
 obtain ⟨_, _, _, ⟨_, _, ⟨_, _, ⟨k1, _⟩, ⟨_, _, ⟨k2, _⟩, _⟩, _⟩, _⟩, _⟩ := Side.parts h5
 exact ⟨k1, k2⟩
theorem rec_of {recs : List (ByteArray × NRec)} {T : Tree} (h : T.nodes = recs.map fun p => (p.1, p.2.nd)) (p : ByteArray) : T.node p = (getK recs p).map NRec.nd := by
 unfold Tree.node
 rw [h, getK_map]
theorem ptr_of (recs : List (ByteArray × NRec)) (p : ByteArray) : getK (recs.map fun p => (p.1, p.2.ptr)) p = (getK recs p).map NRec.ptr := getK_map _ _ _
def NewSl (E k : Nat) (cs : List Value) (n : Nat) (w : World) (e : Ending) (w' : World) : Prop :=
 ∃ (a : Option Addr) (cap : Nat), e = .returned (.slice a n cap) ∧ Sl w' E k a n cap cs ∧ (∀ b, own a = some b → w.heap.size ≤ b) ∧ Mod (fun _ => False) w w'
end Go.Proofs.YtonnbkebjeoflaaGreatDoor
namespace Go.Proofs.YtonnbkebjeoflaaGreatDoor
open Go.RowKit
theorem step_append {P : Program} {ops : Array Oper} {o : Oper} {a : Act} {w : World} {K : Act → World → Prop} {Q : Exit → Act → World → Prop} {G : Prop} (hgd : o.guard = none) {x y : Operand} {t : TypeId}
 (ho : o.op = .call { callee := .builtin .append, args := #[x, y], argTypes := #[t, t] })
 (E : TypeId) (i : TypeInfo) (z : Value) (k bytes : Nat) (ht : P.underlying t = some (.slice E)) (hi : P.info? E = some i) (hz : i.zero = some z) (hsize : i.size = k) (hby : i.bytes = bytes) (hzs : z.cells.size = k)
 (p : Option Addr) (n cap : Nat) (cs : List Value) (hx : a.eval x = .slice p n cap) (hv : Sl w E k p n cap cs)
 (s : Option Addr) (m sc : Nat) (news : List Value) (hy : a.eval y = .slice s m sc) (hs : Rd w k s m sc news) (h1 : ∀ u ∈ news, u.oneCell' = true)
 (h63 : n + m ≤ maxLen) (hb : ((n + m) + (n + m) / 4 + 512) * bytes ≤ 281474976710656)
 (h : ∀ a' cap' w', Sl w' E k a' (n + m) cap' (cs ++ news) → Mod (fun b => own p = some b) w w' → (∀ b, own a' = some b → own p = some b ∨ (w.heap.size ≤ b ∧ b < w'.heap.size)) → (a' = none ↔ p = none ∧ m = 0) → (n + m ≤ cap → a' = p ∧ cap' = cap) →
  K (a.put o.dst (.slice a' (n + m) cap')) w') : if Region.wanted o (yielded ops a.tmps) = true then Oper.wp P o a w K Q else G := by
 have hw : Region.wanted o (yielded ops a.tmps) = true := by simp [Region.wanted, hgd]
 rw [if_pos hw]
 obtain ⟨p', cap', w', hr, h2, h3, h4, h5, h6⟩ := append_law (P := P) w t o.type E i z k bytes ht hi hz hsize hby hzs p n cap cs hv s m sc news hs h1 h63 hb
 unfold Oper.wp
 simp [execOp, ho, resolve, invoke, builtin, hx, hy, hr, Result.andThen]
 exact h p' cap' w' h2 h3 h4 h5 h6
end Go.Proofs.YtonnbkebjeoflaaGreatDoor
namespace Go.Proofs.YtonnbkebjeoflaaGreatDoor
open Go.RowKit Go.Maps
def CpPost (v : Value) (w : World) (e : Ending) (w' : World) : Prop := e = .returned v ∧ Mod (fun _ => False) w w'
theorem infoAclR : (Tryz.prog.info? 46).map (fun i => (i.zero.map (·.cells.size), i.size, i.bytes)) = some (some 2, 2, 24) := by kernel_rfl
theorem info_rowT {P : Program} {T : TypeId} {k b : Nat} (h : (P.info? T).map (fun i => (i.zero.map (·.cells.size), i.size, i.bytes)) = some (some k, k, b)) :
 ∃ i z, P.info? T = some i ∧ i.zero = some z ∧ i.size = k ∧ i.bytes = b ∧ z.cells.size = k := by
 cases hi : P.info? T with
 | none => rw [hi] at h; simp at h
 | some i =>
   rw [hi] at h
   simp only [Option.map_some, Option.some.injEq, Prod.mk.injEq] at h
   obtain ⟨h1, h2, h3⟩ := h
   cases hz : i.zero with
   | none => rw [hz] at h1; simp at h1
   | some z =>
     rw [hz] at h1
     simp only [Option.map_some, Option.some.injEq] at h1
     exact ⟨i, z, rfl, hz, h2, h3, h1⟩
theorem St.slice0 {w0 w : World} {l : List Thing} (h : St w0 w l) (T : TypeId) (k : Nat) : St w0 (w.alloc (.cells #[] T)) (sl T k (some ⟨w.heap.size, 0, none⟩) 0 0 [] :: l) :=
 h.cons (F := fun x => own (some (⟨w.heap.size, 0, none⟩ : Addr)) = some x) ((Mod.refl _ w).alloc _) ⟨Sl.new (heap_alloc_new w _) (by simp) (Nat.zero_le _), fun _ => Iff.rfl⟩ (fun x hx => Nat.le_of_eq (by simpa [own] using hx))
set_option maxHeartbeats 2000000 in
theorem cloneAcl_any (a : Option Addr) (n cap : Nat) (cs : List Value) (w : World) (hr : Rd w 2 a n cap cs) (h1 : ∀ u ∈ cs, u.oneCell' = true) (hn : n ≤ 100000000) :
 Calls Tryz.prog 84 #[.slice a n cap] w (NewSl 46 2 cs n w) := by
 obtain ⟨ip, iz, hi1, hi2, hi3, hi4, hi5⟩ := info_rowT infoAclR
 have HI := Lib.hid (And.intro hi1 (And.intro hi2 (And.intro hi3 (And.intro hi4 hi5))))
 have HR := Lib.hid hr
 have HO := Lib.hid h1
 have hq : ∀ (w : World) (a : Option Addr) (n c : Nat), (binOp .eql 30 (.slice a n c) (.slice none 0 0)).run Tryz.prog w = .ok (.bool a.isNone) w := fun w a n c => Lib.run_eql_slice_nil w _ _ a n c 0 0 Tryz.underlying30
 clear hr h1 hi1 hi2 hi3 hi4 hi5
 cases a with
 | none =>
   have h2 : n = 0 ∧ cap = 0 ∧ cs = [] := by
    obtain ⟨hl, hnc, _, ⟨_, hc⟩ | ⟨x, hx, _⟩⟩ := HR.out
    ·subst hc
     have : n = 0 := by omega
     subst this
     exact ⟨rfl, rfl, List.eq_nil_of_length_eq_zero (by simpa using hl)⟩
    ·cases hx
   obtain ⟨rfl, rfl, rfl⟩ := h2
   go_enter Tryz.func84, Tryz.ntmps84
   go_wp2
   go_ret
   exact ⟨none, 0, rfl, Sl.nil _ _ _, fun b hb => by simp [own] at hb, Mod.refl _ _⟩
 | some x =>
   have HS := Lib.hid ((St.start w).slice0 46 2)
   go_enter Tryz.func84, Tryz.ntmps84
   go_wp2_with (at_builtin; refine wpList_append 46 ip iz 2 24 (by kernel_rfl) HI.out.1 HI.out.2.1 HI.out.2.2.1 HI.out.2.2.2.1 HI.out.2.2.2.2 (some ⟨w.heap.size, 0, none⟩) 0 0 [] rfl (HS.out.slice 0 rfl) (some x) n cap cs rfl (HR.out.mod HS.out.1 (fun _ _ h => h)) HO.out (by unfold maxLen; omega) (by omega) ?_; intro a2 cap2 w2 hS2 hM2 hF2 hN2 hR2)
   go_ret
   simp only [Nat.zero_add, List.nil_append] at hS2
   refine ⟨a2, cap2, rfl, hS2, fun b hb => ?_, HS.out.1.then hM2 (fun x hx hx2 => ?_)⟩
   ·rcases hF2 b hb with h | h
    ·simp [own] at h; omega
    ·have := HS.out.1.size; omega
   ·simp [own] at hx2; omega
theorem zeroHd (w : World) : (zeroValue 107).run Tryz.prog w = .ok (.agg #[.int .i64 0, .string .empty]) w := by kernel_rfl
theorem zeroNp (w : World) : (zeroValue 167).run Tryz.prog w = .ok (.pointer none) w := by kernel_rfl
def okInt (n : Int) : Prop := -9223372036854775808 ≤ n ∧ n ≤ 9223372036854775807
theorem sizeHd : (Tryz.prog.info? 107).map (·.size) = some 2 := by kernel_rfl
theorem zxid_any (w : World) (tb : Nat) (T : Tree) (h : TreeAt w tb T) : Calls Tryz.prog 20 #[.pointer (some ⟨tb, 0, none⟩)] w (CpPost (.int .i64 T.zxid) w) := by
 obtain ⟨d, _, ht, _⟩ := h.open
 have c2 : w.cell? ⟨tb, 2, none⟩ = some (.int .i64 T.zxid) := blk_cell ht 2 _ rfl
 have zt := heap_lt ht
 clear ht
 go_enter Tryz.func20, Tryz.ntmps20
 go_wp2
 go_ret
 exact ⟨rfl, Mod.refl _ _⟩
set_option maxHeartbeats 2000000 in
theorem session_any (w : World) (tb : Nat) (T : Tree) (h : TreeAt w tb T) (id : Int) (hi : okInt id) (v : Hd) (b : Bool) (hv : (getK T.sessions id).getD ⟨0, .empty⟩ = v) (hb : (getK T.sessions id).isSome = b) :
 Calls Tryz.prog 56 #[.pointer (some ⟨tb, 0, none⟩), .int .i64 id] w (CpPost (.tuple #[.int .i64 v.timeout, .string v.secret, .bool b]) w) := by
 obtain ⟨d, _, ht, _, hs, _⟩ := h.open
 have c1 : w.cell? ⟨tb, 1, none⟩ = some (.map (some d.sb)) := blk_cell ht 1 _ rfl
 have zt := heap_lt ht
 have hg : (getK (T.sessions.map fun p => (p.1, p.2.val)) id).getD (.agg #[.int .i64 0, .string .empty]) = .agg #[.int .i64 v.timeout, .string v.secret] ∧ (getK (T.sessions.map fun p => (p.1, p.2.val)) id).isSome = b := by
  rw [getK_map]
  cases hx : getK T.sessions id with
  | none => rw [hx] at hv hb; subst hv; subst hb; exact ⟨rfl, rfl⟩
  | some u => rw [hx] at hv hb; subst hv; subst hb; exact ⟨rfl, rfl⟩
 have HG := Lib.hid hg
 have HM := Lib.hid hs
 have HI := Lib.hid hi
 have HS := Lib.hid ((St.start w).box1 #[.int .i64 0, .string ⟨#[]⟩] 107)
 clear ht hv hb hg hs hi
 go_enter Tryz.func56, Tryz.ntmps56
 go_upto_region 2 with (first
  | ((with_reducible refine at_list ?_); refine wpList_lookL_ok mapSess d.sb _ HM.out rfl (zeroHd w) id rfl HI.out _ b HG.out.1 HG.out.2 ?_)
  | ((with_reducible refine at_list ?_); refine wpList_store_whole 2 sizeHd w.heap.size rfl _ _ (HS.out.box 0 rfl) rfl [.int .i64 v.timeout, .string v.secret] rfl rfl rfl ?_; intro w2 hg2 hM2 hz2; have hS := HS.out.rebox 0 rfl hg2 hM2; have HS2 := Lib.hid hS; clear hg2 hM2 hz2 hS))
 have c0 := blk_cell (HS2.out.box 0 rfl) 0 _ rfl
 have c3 := blk_cell (HS2.out.box 0 rfl) 1 _ rfl
 have z2 := heap_lt (HS2.out.box 0 rfl)
 go_quiet (fail)
 go_wp2
 go_ret3
 exact ⟨rfl, HS2.out.1.drewN _⟩
end Go.Proofs.YtonnbkebjeoflaaGreatDoor
namespace Go.Proofs.YtonnbkebjeoflaaGreatDoor
open Go.RowKit Go.Maps
section
variable {α β : Type} [DecidableEq α]
theorem getK_perm {M N : List (α × β)} (hp : M.Perm N) (hn : (M.map (·.1)).Nodup) (x : α) : getK M x = getK N x := by
 have hn2 : (N.map (·.1)).Nodup := (hp.map _).nodup_iff.1 hn
 cases h : getK M x with
 | none =>
   refine (getK_none.2 fun hm => getK_none.1 h ?_).symm
   exact ((hp.map (·.1)).mem_iff).2 hm
 | some v => exact (getK_of_mem hn2 (p := (x, v)) (hp.mem_iff.1 (getK_some_mem h))).symm
theorem perm_delK {M : List (α × β)} (hn : (M.map (·.1)).Nodup) {x : α} {v : β} (h : getK M x = some v) : M.Perm ((x, v) :: delK M x) := by
 induction M with
 | nil => simp [getK_nil] at h
 | cons p M ih =>
   rw [List.map_cons, List.nodup_cons] at hn
   rw [getK_cons] at h
   unfold delK at ih ⊢
   rw [List.filter_cons]
   by_cases hp : p.1 = x
   ·rw [if_pos hp] at h
    have e : p = (x, v) := by
     obtain ⟨a, b⟩ := p
     simp only [Option.some.injEq] at h
     simp only at hp
     rw [hp, h]
    have h0 : getK M x = none := getK_none.2 (by rw [← hp]; exact hn.1)
    have h1 := delK_none h0
    unfold delK at h1
    simp only [hp, ne_eq, not_true, decide_false, Bool.false_eq_true, if_false]
    simp only [ne_eq] at h1
    rw [h1, e]
   ·rw [if_neg hp] at h
    simp only [ne_eq, hp, not_false_iff, decide_true, if_true]
    have := ih hn.2 h
    simp only [ne_eq] at this
    exact (this.cons p).trans (.swap _ _ _)
theorem perm_putK {M : List (α × β)} (x : α) (v : β) : (putK M x v).Perm ((x, v) :: delK M x) := by
 unfold putK
 exact List.perm_append_comm (l₁ := delK M x) (l₂ := [(x, v)])
end
theorem MapL.perm {P : Program} {k : TypeId} {α : Type} [DecidableEq α] {B : KB P k α} {w : World} {b : Nat} {M N : List (α × Value)} (h : MapL B w b M) (hp : M.Perm N) : MapL B w b N := by
 obtain ⟨D, h, hT⟩ := h
 refine ⟨D, by rw [← hp.length_eq]; exact h, ⟨(hp.map _).nodup_iff.1 hT.nodup, fun p hq => hT.ok p (hp.mem_iff.2 hq), by rw [← hp.length_eq]; exact hT.size, fun x hx => hT.no x (by rw [getK_perm hp hT.nodup]; exact hx), fun x v hx => hT.yes x v (by rw [getK_perm hp hT.nodup]; exact hx)⟩⟩
theorem St.permL {P : Program} {k : TypeId} {α : Type} [DecidableEq α] {B : KB P k α} {w0 w : World} {b : Nat} {M N : List (α × Value)} {l : List Thing} (h : St w0 w l) (i : Nat) (hi : l[i]? = some (mpl B b M)) (hp : M.Perm N) : St w0 w (l.set i (mpl B b N)) :=
 h.remapL i hi ((h.mapL i hi).perm hp) (Mod.refl _ _)
theorem St.pure {w0 w : World} {φ : Prop} {l : List Thing} (h : St w0 w (pr φ :: l)) : φ := by
 obtain ⟨_, F, ⟨F1, F2, ⟨h1, _⟩, _⟩, _⟩ := h
 exact h1
theorem St.told {w0 w : World} {φ : Prop} {l : List Thing} (hφ : φ) (h : St w0 w l) : St w0 w (pr φ :: l) :=
 h.cons (F := fun _ => False) (Mod.refl _ _) ⟨hφ, fun _ h => h⟩ (fun _ h => h.elim)
theorem St.openTree {w0 w : World} {tb : Nat} {T : Tree} {l : List Thing} (h : St w0 w (tre tb T :: l)) : ∃ d : TD, T.nodes = (d.recs.map fun p => (p.1, p.2.nd)) ∧
 St w0 w (bx tb #[.map (some d.mb), .map (some d.sb), .int .i64 T.zxid] 105 :: mpl kbP d.mb (d.recs.map fun p => (p.1, p.2.ptr)) :: mpl kbI d.sb (T.sessions.map fun p => (p.1, p.2.val)) :: grp (d.recs.map fun p => p.2.own) :: l) := by
 obtain ⟨d, h⟩ := h.tell
 have h := h.ungrp
 exact ⟨d, h.pure, h.tail⟩
theorem St.shutTree {w0 w : World} {tb : Nat} {T : Tree} {l : List Thing} (d : TD) (hd : T.nodes = (d.recs.map fun p => (p.1, p.2.nd)))
 (h : St w0 w (bx tb #[.map (some d.mb), .map (some d.sb), .int .i64 T.zxid] 105 :: mpl kbP d.mb (d.recs.map fun p => (p.1, p.2.ptr)) :: mpl kbI d.sb (T.sessions.map fun p => (p.1, p.2.val)) :: grp (d.recs.map fun p => p.2.own) :: l)) : St w0 w (tre tb T :: l) :=
 St.untell d (St.regrp (d.things tb T) (h.told hd))
theorem Side.grpPerm {w : World} {ts us : List Thing} (hp : ts.Perm us) {F : Nat → Prop} (h : (grp ts).lies w F) : (grp us).lies w F := Side.perm hp h
theorem St.grpPerm {w0 w : World} {ts us l : List Thing} (hp : ts.Perm us) (h : St w0 w (grp ts :: l)) : St w0 w (grp us :: l) := by
 obtain ⟨h0, F, ⟨F1, F2, h1, h2, hd, hF⟩, hz⟩ := h
 exact ⟨h0, F, ⟨F1, F2, Side.grpPerm hp h1, h2, hd, hF⟩, hz⟩
theorem TD.nodup {w0 w : World} {l : List Thing} {d : TD} {c : Thing} (h : St w0 w (c :: mpl kbP d.mb (d.recs.map fun p => (p.1, p.2.ptr)) :: l)) : (d.recs.map (·.1)).Nodup := by
 have := (h.mapL 1 rfl).nodup
 rw [List.map_map] at this
 exact this
theorem St.nodeOut {w0 w : World} {a b c : Thing} {recs : List (ByteArray × NRec)} {p : ByteArray} {r : NRec} {l : List Thing} (h : St w0 w (a :: b :: c :: grp (recs.map fun p => p.2.own) :: l)) (hn : (recs.map (·.1)).Nodup) (hr : getK recs p = some r) :
 St w0 w (a :: b :: c :: bx r.b r.cells.toArray 169 :: sl 46 2 r.aa r.nd.acl.length r.ac (r.nd.acl.flatMap ARow.cells) :: grp ((delK recs p).map fun p => p.2.own) :: l) := by
 have h1 : St w0 w (grp (recs.map fun p => p.2.own) :: a :: b :: c :: l) := h.perm (List.perm_append_comm_assoc [a, b, c] [_] l)
 have hq : (recs.map fun p => p.2.own).Perm (r.own :: ((delK recs p).map fun p => p.2.own)) := (perm_delK hn hr).map (fun p : ByteArray × NRec => p.2.own)
 have h2 : St w0 w (r.own :: (((delK recs p).map fun p => p.2.own) ++ (a :: b :: c :: l))) := (h1.grpPerm hq).ungrp
 have h3 : St w0 w ([bx r.b r.cells.toArray 169, sl 46 2 r.aa r.nd.acl.length r.ac (r.nd.acl.flatMap ARow.cells)] ++ (((delK recs p).map fun p => p.2.own) ++ (a :: b :: c :: l))) := h2.ungrp
 have h4 := St.regrp ((delK recs p).map fun p => p.2.own) (h3.perm (List.perm_append_comm_assoc _ _ _))
 exact h4.perm ((List.perm_append_comm_assoc [_] [_, _] [a, b, c]).append_right l |>.trans (by
  refine ((List.perm_append_comm (l₁ := [bx r.b r.cells.toArray 169, sl 46 2 r.aa r.nd.acl.length r.ac (r.nd.acl.flatMap ARow.cells), grp ((delK recs p).map fun p => p.2.own)]) (l₂ := [a, b, c])).append_right l)))
theorem St.nodeIn {w0 w : World} {a b c : Thing} {rest : List (ByteArray × NRec)} {r : NRec} {l : List Thing} (h : St w0 w (a :: b :: c :: bx r.b r.cells.toArray 169 :: sl 46 2 r.aa r.nd.acl.length r.ac (r.nd.acl.flatMap ARow.cells) :: grp (rest.map fun p => p.2.own) :: l)) :
 St w0 w (a :: b :: c :: grp (r.own :: rest.map fun p => p.2.own) :: l) := by
 have h1 : St w0 w (grp (rest.map fun p => p.2.own) :: (a :: b :: c :: bx r.b r.cells.toArray 169 :: sl 46 2 r.aa r.nd.acl.length r.ac (r.nd.acl.flatMap ARow.cells) :: l)) := h.perm (List.perm_append_comm_assoc [a, b, c, _, _] [_] l)
 have h2 := h1.ungrp
 have h3 : St w0 w ([bx r.b r.cells.toArray 169, sl 46 2 r.aa r.nd.acl.length r.ac (r.nd.acl.flatMap ARow.cells)] ++ ((rest.map fun p => p.2.own) ++ (a :: b :: c :: l))) := h2.perm (by
  refine (List.perm_append_left_iff _).2 ?_ |>.trans (List.perm_append_comm_assoc _ [_, _] _)
  exact List.perm_append_comm_assoc [a, b, c] [_, _] l)
 have h4 : St w0 w (r.own :: ((rest.map fun p => p.2.own) ++ (a :: b :: c :: l))) := St.regrp _ h3
 have h5 := St.regrp (r.own :: rest.map fun p => p.2.own) h4
 exact h5.perm (List.perm_append_comm_assoc [_] [a, b, c] l)
end Go.Proofs.YtonnbkebjeoflaaGreatDoor
namespace Go.Proofs.YtonnbkebjeoflaaGreatDoor
open Go.RowKit Go.Maps
theorem node_none {recs : List (ByteArray × NRec)} {T : Tree} (hd : T.nodes = recs.map fun p => (p.1, p.2.nd)) {p : ByteArray} (h : getK recs p = none) : T.node p = none := by rw [rec_of hd, h]; rfl
theorem node_some {recs : List (ByteArray × NRec)} {T : Tree} (hd : T.nodes = recs.map fun p => (p.1, p.2.nd)) {p : ByteArray} {r : NRec} (h : getK recs p = some r) : T.node p = some r.nd := by rw [rec_of hd, h]; rfl
theorem ptr_none {recs : List (ByteArray × NRec)} {p : ByteArray} (h : getK recs p = none) : (getK (recs.map fun p => (p.1, p.2.ptr)) p).getD (.pointer none) = .pointer none := by rw [ptr_of, h]; rfl
theorem ptr_some {recs : List (ByteArray × NRec)} {p : ByteArray} {r : NRec} (h : getK recs p = some r) : (getK (recs.map fun p => (p.1, p.2.ptr)) p).getD (.pointer none) = .pointer (some ⟨r.b, 0, none⟩) := by rw [ptr_of, h]; rfl
theorem St.reNode {w0 w : World} {tb : Nat} {T U : Tree} {d : TD} {p : ByteArray} {r r' : NRec} {l : List Thing} (hd : T.nodes = d.recs.map fun p => (p.1, p.2.nd)) (hn : (d.recs.map (·.1)).Nodup) (hr : getK d.recs p = some r) (hb : r'.b = r.b)
 (hU : U.nodes = putK T.nodes p r'.nd) (hs : U.sessions = T.sessions)
 (h : St w0 w (bx tb #[.map (some d.mb), .map (some d.sb), .int .i64 U.zxid] 105 :: mpl kbP d.mb (d.recs.map fun p => (p.1, p.2.ptr)) :: mpl kbI d.sb (T.sessions.map fun p => (p.1, p.2.val)) ::
  bx r'.b r'.cells.toArray 169 :: sl 46 2 r'.aa r'.nd.acl.length r'.ac (r'.nd.acl.flatMap ARow.cells) :: grp ((delK d.recs p).map fun p => p.2.own) :: l)) : St w0 w (tre tb U :: l) := by
 have h1 := h.nodeIn
 have hq : (r'.own :: ((delK d.recs p).map fun p => p.2.own)).Perm ((putK d.recs p r').map fun p => p.2.own) := ((perm_putK (M := d.recs) p r').symm.map (fun p : ByteArray × NRec => p.2.own))
 have hm : (d.recs.map fun p => (p.1, p.2.ptr)).Perm ((putK d.recs p r').map fun p => (p.1, p.2.ptr)) := by
  refine ((perm_delK hn hr).map (fun p : ByteArray × NRec => (p.1, p.2.ptr))).trans ?_
  refine List.Perm.trans ?_ ((perm_putK (M := d.recs) p r').symm.map (fun p : ByteArray × NRec => (p.1, p.2.ptr)))
  have e : r.ptr = r'.ptr := by unfold NRec.ptr; rw [hb]
  simp only [List.map_cons, e]
  exact .refl _
 have h2 := h1.permL 1 rfl hm
 simp only [List.set_cons_succ, List.set_cons_zero] at h2
 have h3 : St w0 w (grp ((putK d.recs p r').map fun p => p.2.own) :: bx tb #[.map (some d.mb), .map (some d.sb), .int .i64 U.zxid] 105 :: mpl kbP d.mb ((putK d.recs p r').map fun p => (p.1, p.2.ptr)) :: mpl kbI d.sb (T.sessions.map fun p => (p.1, p.2.val)) :: l) :=
  (h2.perm (List.perm_append_comm_assoc [_, _, _] [_] l)).grpPerm hq
 have h4 := h3.perm (List.perm_append_comm_assoc [_] [_, _, _] l)
 rw [← hs] at h4
 refine St.shutTree ⟨d.mb, d.sb, putK d.recs p r'⟩ ?_ h4
 rw [hU, hd]
 exact putK_map NRec.nd d.recs p r'
set_option maxHeartbeats 4000000 in
theorem kid_st {w0 w : World} {l : List Thing} (tb : Nat) (T : Tree) (h : St w0 w (tre tb T :: l)) (p : ByteArray) (hp : p.size ≤ maxLen) (number zxid : Int) :
 Calls Tryz.prog 160 #[.pointer (some ⟨tb, 0, none⟩), .string p, .int .i64 number, .int .i64 zxid] w (StPost (.tuple #[]) w0 (tre tb (T.kid p number zxid) :: l)) := by
 obtain ⟨d, hd, hS⟩ := h.openTree
 have hn := TD.nodup hS
 have HD := Lib.hid hd
 have HN := Lib.hid hn
 have HP := Lib.hid hp
 have HS := Lib.hid hS
 have c0 := blk_cell (hS.box 0 rfl) 0 _ rfl
 have zt := heap_lt (hS.box 0 rfl)
 clear h hd hn hp hS
 cases hr : getK d.recs p with
 | none =>
   have HR := Lib.hid hr
   clear hr
   go_enter Tryz.func160, Tryz.ntmps160
   go_wp2_with ((with_reducible refine at_list ?_); refine wpList_lookL (B := kbP) mapNodes d.mb _ (HS.out.mapL 1 rfl) rfl (zeroNp w) p rfl HP.out _ (ptr_none HR.out) ?_)
   go_end0
   refine ⟨rfl, ?_⟩
   have e : T.kid p number zxid = T := by unfold Tree.kid; rw [node_none HD.out HR.out]
   rw [e]
   exact St.shutTree d HD.out HS.out
 | some r =>
   have HR := Lib.hid hr
   have hS2 := HS.out.nodeOut HN.out hr
   have HS2 := Lib.hid hS2
   have k4 := blk_cell (hS2.box 3 rfl) 4 _ rfl
   have k6 := blk_cell (hS2.box 3 rfl) 6 _ rfl
   have f4 := blk_free (hS2.box 3 rfl) 4
   have f6 := blk_free (hS2.box 3 rfl) 6
   have zb := heap_lt (hS2.box 3 rfl)
   clear hr hS2
   go_enter Tryz.func160, Tryz.ntmps160
   go_wp2_with ((with_reducible refine at_list ?_); refine wpList_lookL (B := kbP) mapNodes d.mb _ (HS.out.mapL 1 rfl) rfl (zeroNp w) p rfl HP.out _ (ptr_some HR.out) ?_)
   go_end0
   have hS3 := (HS2.out.set 3 rfl 6 (.int .i64 number)).set 3 rfl 4 (.int .i64 zxid)
   simp only [List.set_cons_succ, List.set_cons_zero] at hS3
   refine ⟨rfl, ?_⟩
   have e : T.kid p number zxid = { T with nodes := putK T.nodes p { r.nd with st := { r.nd.st with cversion := number, pzxid := zxid } } } := by unfold Tree.kid; rw [node_some HD.out HR.out]
   rw [e]
   exact St.reNode (d := d) (r := r) (r' := { r with nd := { r.nd with st := { r.nd.st with cversion := number, pzxid := zxid } } }) HD.out HN.out HR.out rfl rfl rfl hS3
end Go.Proofs.YtonnbkebjeoflaaGreatDoor
namespace Go.Proofs.YtonnbkebjeoflaaGreatDoor
open Go.RowKit Go.Maps Go.Sort
theorem ownsRow_sl {w : World} {base E k : Nat} {v : Value} {n : Nat} {xs : List Value} (h : w.ownsRow base E k v n xs) : ∃ (a : Option Addr) (cap : Nat), v = .slice a n cap ∧ Sl w E k a n cap xs ∧ ∀ b, own a = some b → base ≤ b := by
 obtain ⟨hl, ⟨rfl, rfl⟩ | ⟨g, cap, cur, rfl, hb, hg, h1, h2, h3, h4⟩⟩ := h
 ·refine ⟨none, 0, rfl, ⟨hl, Nat.le_refl _, Nat.zero_le _, .inl ⟨rfl, rfl⟩⟩, fun b hb => by simp [own] at hb⟩
 ·exact ⟨some ⟨g, 0, none⟩, cap, rfl, ⟨hl, h1, h2, .inr ⟨g, 0, cur, rfl, hg, by omega, by rw [List.drop_zero]; exact h4⟩⟩, fun b hb' => by simp [own] at hb'; omega⟩
theorem nodup_lists {l : List ByteArray} (_ : True) (h : l.Nodup) : (l.map fun s : ByteArray => s.data.toList).Nodup := by
 unfold List.Nodup
 rw [List.pairwise_map]
 refine h.imp fun {a b} hne e => hne (ByteArray.ext (Array.toList_inj.1 e))
theorem keys_of {w : World} {b : Nat} {M : List (ByteArray × Value)} {D : DataW Value} (ho : w.ownsMap Tryz.prog 9 raw b M.length D) (hT : KTells kbP D M) : (strKeys D).Perm (M.map fun p => p.1.data.toList) := by
 obtain ⟨es, rfl, hk⟩ := ho.keysOf
 obtain ⟨es', he, hp⟩ := ho.tidy (P := Tryz.prog) (k := 9) kbP.keyed
 have he : es = es' := by injection he
 subst he
 refine (perm_strKeys hp (fun p hp => ?_) ?_ fun x => ?_).symm
 ·obtain ⟨v, hv⟩ := hk p hp
  obtain ⟨x, _, hx, _⟩ := Maps.keyOf_str kStr hv
  exact ⟨x, hx⟩
 ·have := hT.nodup
  rw [show (M.map fun p => p.1.data.toList) = (M.map (·.1)).map (fun s : ByteArray => s.data.toList) by rw [List.map_map]; rfl]
  exact nodup_lists trivial this
 ·constructor
  ·intro hx
   obtain ⟨p, hp', rfl⟩ := List.mem_map.1 hx
   exact (hT.yes p.1 p.2 (getK_of_mem hT.nodup hp')).1
  ·intro hx
   cases hf : getK M (tx x) with
   | none =>
     have h1 := hT.no (tx x) hf
     have e : kbP.lit (tx x) = .string x := by show Lit.string (tx x).data.toList = _; unfold tx; simp
     rw [e] at h1
     rw [h1] at hx
     cases hx
   | some v =>
     refine List.mem_map.2 ⟨(tx x, v), getK_some_mem hf, ?_⟩
     show (tx x).data.toList = x
     unfold tx
     simp
theorem sort_lists (l : List ByteArray) : (l.mergeSort Tree.leB).map (fun s => s.data.toList) = (l.map fun s => s.data.toList).mergeSort (fun x y => decide (x ≤ y)) :=
 List.map_mergeSort fun a _ b _ => rfl
theorem sorted_any (w : World) (b : Nat) (M : List (ByteArray × Value)) (h : MapL kbP w b M) (hn : M.length ≤ 1000000) :
 Calls Tryz.prog 234 #[.func (.func 265) #[] #[.pointer (some ⟨w.heap.size, 0, none⟩)]] (w.alloc (.cells #[.map (some b)] 102))
  (NewSl 9 1 (((M.map (·.1)).mergeSort Tree.leB).map Value.string) M.length w) := by
 obtain ⟨D, ho, hT⟩ := h
 have hsz := hT.size
 refine ((callsIn_wide (n := 5)).1 (Tryz.slices_Sorted_keys_234_235 b M.length D raw w ho (by rw [hsz]; unfold maxLen; omega) (by rw [hsz]; omega))).mono ?_
 rintro e w' ⟨v, ss, rfl, hS, hrow, hnil, hb⟩
 have hp := hS.trans (keys_of ho hT)
 have hl : ss.length = M.length := by rw [hp.length_eq, List.length_map]
 have hs : (ss.mergeSort (fun x y => decide (x ≤ y))).map encStr = (((M.map (·.1)).mergeSort Tree.leB).map Value.string) := by
  have h1 : ss.mergeSort (fun x y => decide (x ≤ y)) = ((M.map (·.1)).mergeSort Tree.leB).map (fun s => s.data.toList) := by
   rw [sort_lists, List.map_map]
   exact mergeSort_of_perm hp
  rw [h1, List.map_map]
  refine List.map_congr_left fun s _ => ?_
  show encStr s.data.toList = .string s
  cases s
  simp [encStr]
 rw [hs, hl] at hrow
 obtain ⟨a, cap, rfl, hsl, hf⟩ := ownsRow_sl hrow
 have hm : Mod (fun _ => False) (w.alloc (.cells #[.map (some b)] 102)) w' := ⟨hb.os, hb.tape, hb.output, hb.size, fun x hx _ => hb.block x hx⟩
 refine ⟨a, cap, rfl, hsl, fun x hx => ?_, ((Mod.refl _ w).alloc _).then hm (fun _ _ h => h)⟩
 have := hf x hx
 simp at this
 omega
set_option maxHeartbeats 2000000 in
theorem paths_any (w : World) (tb : Nat) (T : Tree) (h : TreeAt w tb T) (hn : T.nodes.length ≤ 1000000) :
 Calls Tryz.prog 161 #[.pointer (some ⟨tb, 0, none⟩)] w (NewSl 9 1 (T.paths.map Value.string) T.nodes.length w) := by
 obtain ⟨d, hd, ht, hm, _⟩ := h.open
 have c0 : w.cell? ⟨tb, 0, none⟩ = some (.map (some d.mb)) := blk_cell ht 0 _ rfl
 have zt := heap_lt ht
 have hl : (d.recs.map fun p => (p.1, p.2.ptr)).length = T.nodes.length := by rw [hd, List.length_map, List.length_map]
 have hk : ((d.recs.map fun p => (p.1, p.2.ptr)).map (·.1)) = T.nodes.map (·.1) := by rw [hd, List.map_map, List.map_map]; rfl
 have hs := sorted_any w d.mb _ hm (by rw [hl]; exact hn)
 rw [hl, hk] at hs
 have HSO := Lib.hid hs
 have CK : Hid (Calls Tryz.prog 235 #[.map (some d.mb)] w fun e w' => e = .returned (.func (.func 265) #[] #[.pointer (some ⟨w.heap.size, 0, none⟩)]) ∧ w' = w.alloc (.cells #[.map (some d.mb)] 102)) :=
  Lib.hid ((callsIn_wide (n := 5)).1 (Tryz.maps_Keys_235 (some d.mb) w))
 clear ht hm hd hl hk hs
 go_enter Tryz.func161, Tryz.ntmps161
 go_wp2_with (first
  | (go_at_call 235; refine CK.out.mono ?_; rintro e w' ⟨rfl, rfl⟩)
  | (go_at_call 234; refine HSO.out.mono ?_; rintro e w' ⟨a, cap, rfl, hsl, hf, hM⟩))
 go_ret
 exact ⟨a, cap, rfl, hsl, hf, hM⟩
end Go.Proofs.YtonnbkebjeoflaaGreatDoor
namespace Go.Proofs.YtonnbkebjeoflaaGreatDoor
open Go.RowKit Go.Maps Go.Sort
theorem take_putCellsO (cur : Array Value) (off : Nat) (ts : List (List UInt8)) (h : off + ts.length ≤ cur.size) : ((putCells encStr off ts.toArray cur).toList.drop off).take ts.length = ts.map encStr := by
 apply List.ext_getElem?
 intro j
 by_cases hj : j < ts.length
 ·rw [List.getElem?_take_of_lt hj, List.getElem?_drop, Array.getElem?_toList]
  simp [putCells, hj, show off + j < cur.size by omega]
 ·rw [List.getElem?_take_eq_none (by omega), List.getElem?_eq_none (by simp; omega)]
theorem heap_sortedO {w : World} {g n off : Nat} {os : Array Obj} {cur : Array Value} {e : TypeId} {fr : Nat × Nat} (d : Array (List UInt8)) (hb : w.heap[g]? = some (.cells cur e fr)) :
 (grow (putRow encStr (Sort.ahead w n) g off d) os).heap[g]? = some (.cells (putCells encStr off d cur) e fr) := by
 have hg : g < w.heap.size := (Array.getElem?_eq_some_iff.1 hb).1
 rw [heap_grow_old _ _ (by simpa using hg)]
 simp [putRow, mapBlock, Sort.ahead, Array.getElem?_modify, hb, onCells]
theorem mod_sortedO {w : World} {g n off : Nat} {os : Array Obj} (d : Array (List UInt8)) : Mod (fun x => x = g) w (grow (putRow encStr (Sort.ahead w n) g off d) os) := by
 refine ⟨rfl, rfl, rfl, by simp, fun k hk hne => ?_⟩
 rw [heap_grow_old _ _ (by simpa using hk)]
 have : g ≠ k := fun e => hne e.symm
 simp [putRow, mapBlock, Sort.ahead, Array.getElem?_modify, this]
theorem encStr_list (s : ByteArray) : encStr s.data.toList = .string s := by
 cases s
 simp [encStr]
theorem sortStr_any (w : World) (a : Option Addr) (n cap : Nat) (l : List ByteArray) (hs : Sl w 9 1 a n cap (l.map Value.string)) (hn : n ≤ 1000000) :
 Calls Tryz.prog 239 #[.slice a n cap] w (fun e w' => e = .returned (.tuple #[]) ∧ Sl w' 9 1 a n cap ((l.mergeSort Tree.leB).map Value.string) ∧ Mod (fun b => own a = some b) w w') := by
 have hl : l.length = n := by have := hs.1; rw [List.length_map] at this; omega
 by_cases h0 : n = 0
 ·subst h0
  have hl0 : l = [] := List.eq_nil_of_length_eq_zero hl
  subst hl0
  refine (AnyM.slices_Sort_string_none Tryz.sort239 a cap w).mono ?_
  rintro e w' ⟨rfl, rfl⟩
  exact ⟨rfl, by simpa using hs, Mod.refl _ _⟩
 ·obtain ⟨h1, h2, h3, ⟨rfl, hc⟩ | ⟨b, off, c, rfl, hb, hfit, htake⟩⟩ := id hs
  ·omega
  ·have hz := heap_lt hb
   have hss : (l.map fun s : ByteArray => s.data.toList).length = n := by rw [List.length_map, hl]
   have hH : Holds encStr w b off (l.map fun s : ByteArray => s.data.toList).toArray := fun j hj => by
    have hj' : j < l.length := by simpa using hj
    refine ⟨?_, frozen_of_row w b (off + j) c _ hb⟩
    have h5 : (l.map Value.string)[j]? = some (.string l[j]) := by simp [hj']
    rw [← htake, List.getElem?_take_of_lt (by omega), List.getElem?_drop] at h5
    rw [cell_of_row w b (off + j) c _ (0, 0) hb, ← Array.getElem?_toList, h5]
    simp [hj', encStr_list]
   have hc := AnyM.slices_Sort_string Tryz.sort239 b off cap (l.map fun s : ByteArray => s.data.toList) w hH hz (by rw [hss]; omega)
   rw [hss] at hc
   refine hc.mono ?_
   rintro e w' ⟨rfl, k, os, rfl⟩
   have hts : ((l.map fun s : ByteArray => s.data.toList).mergeSort fun x y => decide (x ≤ y)).length = n := by rw [List.length_mergeSort, hss]
   have hm : (((l.map fun s : ByteArray => s.data.toList).mergeSort fun x y => decide (x ≤ y)).map encStr) = (l.mergeSort Tree.leB).map Value.string := by
    rw [← sort_lists, List.map_map]
    exact List.map_congr_left fun s _ => encStr_list s
   refine ⟨rfl, ⟨by rw [List.length_map, List.length_mergeSort, hl, Nat.mul_one], h2, h3, .inr ⟨b, off, _, rfl, heap_sortedO _ hb, by simp [putCells]; omega, ?_⟩⟩, (mod_sortedO _).mono fun x _ hx => by rw [hx]; rfl⟩
   have := take_putCellsO c off ((l.map fun s : ByteArray => s.data.toList).mergeSort fun x y => decide (x ≤ y)) (by rw [hts]; omega)
   rw [hts, hm] at this
   rw [Nat.mul_one]
   exact this
end Go.Proofs.YtonnbkebjeoflaaGreatDoor
