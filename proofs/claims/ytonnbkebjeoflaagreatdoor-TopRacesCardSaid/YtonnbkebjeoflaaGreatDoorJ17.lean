/-
  Contracts and plain laws of TreeM, TreeN.
  Conditions: each law states its own.
-/
import Derived.Test.YtonnbkebjeoflaaGreatDoorJ16
set_option linter.unusedSectionVars false
set_option linter.unusedSimpArgs false
set_option linter.unusedVariables false
set_option maxRecDepth 100000
namespace Go.Proofs.YtonnbkebjeoflaaGreatDoor
open Go.RowKit Go.Maps
def Tree.cut (T : Tree) (p : ByteArray) (k : Nat) : Tree := { T with nodes := T.nodes.filter fun n => !(Tree.gone p n.1 && (T.paths.take k).any fun q => decide (q = n.1)) }
theorem Tree.cut_zero (T : Tree) (p : ByteArray) : T.cut p 0 = T := by
 unfold Tree.cut
 have : (T.nodes.filter fun n => !(Tree.gone p n.1 && (T.paths.take 0).any fun q => decide (q = n.1))) = T.nodes := by
  refine List.filter_eq_self.2 fun n _ => ?_
  simp
 rw [this]
theorem mem_paths {T : Tree} {n : ByteArray × Nd} (h : n ∈ T.nodes) : n.1 ∈ T.paths := by
 unfold Tree.paths
 rw [List.mem_mergeSort]
 exact List.mem_map_of_mem h
theorem Tree.cut_all (T : Tree) (p : ByteArray) (k : Nat) (h : T.paths.length ≤ k) : T.cut p k = { T with nodes := T.nodes.filter fun n => !Tree.gone p n.1 } := by
 unfold Tree.cut
 have : (T.nodes.filter fun n => !(Tree.gone p n.1 && (T.paths.take k).any fun q => decide (q = n.1))) = T.nodes.filter fun n => !Tree.gone p n.1 := by
  refine List.filter_congr fun n hn => ?_
  rw [List.take_of_length_le h]
  have : (T.paths.any fun q => decide (q = n.1)) = true := List.any_eq_true.2 ⟨n.1, mem_paths hn, by simp⟩
  rw [this, Bool.and_true]
 rw [this]
theorem any_snocT {α : Type} (f : α → Bool) {L : List α} {k : Nat} {t : α} (h : L[k]? = some t) : (L.take (k + 1)).any f = ((L.take k).any f || f t) := by
 obtain ⟨hk, rfl⟩ := List.getElem?_eq_some_iff.1 h
 rw [List.take_succ_eq_append_getElem hk, List.any_append]
 simp
theorem Tree.cut_keep {T : Tree} {p q : ByteArray} {k : Nat} (hq : T.paths[k]? = some q) (hg : Tree.gone p q = false) : T.cut p (k + 1) = T.cut p k := by
 unfold Tree.cut
 have : (T.nodes.filter fun n => !(Tree.gone p n.1 && (T.paths.take (k + 1)).any fun q => decide (q = n.1))) = T.nodes.filter fun n => !(Tree.gone p n.1 && (T.paths.take k).any fun q => decide (q = n.1)) := by
  refine List.filter_congr fun n hn => ?_
  rw [any_snocT _ hq]
  by_cases h : q = n.1
  ·rw [← h, hg]; simp
  ·simp [h]
 rw [this]
theorem Tree.cut_drop {T : Tree} {p q : ByteArray} {k : Nat} (hq : T.paths[k]? = some q) (hg : Tree.gone p q = true) : T.cut p (k + 1) = { T.cut p k with nodes := delK (T.cut p k).nodes q } := by
 unfold Tree.cut delK
 have : (T.nodes.filter fun n => !(Tree.gone p n.1 && (T.paths.take (k + 1)).any fun q => decide (q = n.1))) = (T.nodes.filter fun n => !(Tree.gone p n.1 && (T.paths.take k).any fun q => decide (q = n.1))).filter fun n => decide (n.1 ≠ q) := by
  rw [List.filter_filter]
  refine List.filter_congr fun n hn => ?_
  rw [any_snocT _ hq]
  by_cases h : n.1 = q
  ·rw [h, hg]; simp
  ·simp [h, Ne.symm h]
 rw [this]
theorem St.delNode {w0 w : World} {tb : Nat} {T U : Tree} {d : TD} {p : ByteArray} {l : List Thing} (hd : T.nodes = d.recs.map fun p => (p.1, p.2.nd)) (hn : (d.recs.map (·.1)).Nodup)
 (hU : U.nodes = delK T.nodes p) (hs : U.sessions = T.sessions) (hz : U.zxid = T.zxid)
 (h : St w0 w (bx tb #[.map (some d.mb), .map (some d.sb), .int .i64 T.zxid] 105 :: mpl kbP d.mb (delK (d.recs.map fun p => (p.1, p.2.ptr)) p) :: mpl kbI d.sb (T.sessions.map fun p => (p.1, p.2.val)) ::
  grp (d.recs.map fun p => p.2.own) :: l)) : St w0 w (tre tb U :: l) := by
 have h2 := NRec.ownDrop hn p (h.pick 3 rfl)
 have h3 := h2.perm (List.perm_append_comm_assoc [_] [_, _, _] l)
 have hm : delK (d.recs.map fun p => (p.1, p.2.ptr)) p = (delK d.recs p).map fun p => (p.1, p.2.ptr) := delK_map NRec.ptr d.recs p
 rw [hm, ← hz, ← hs] at h3
 refine St.shutTree ⟨d.mb, d.sb, delK d.recs p⟩ ?_ h3
 rw [hU, hd]
 exact delK_map NRec.nd d.recs p
theorem lookOk_drewN {w : World} {b : Nat} {M : List (ByteArray × Value)} (h : MapL kbP w b M) (p : ByteArray) (hp : p.size ≤ maxLen) (v : Value) (is : Bool) (hv : (getK M p).getD (.pointer none) = v) (hi : (getK M p).isSome = is) (n : Nat) :
 (Instr.lookup 102 (.map (some b)) (.string p) true).run Tryz.prog (w.drewN n) = .ok (.tuple #[v, .bool is]) (w.drewN n) := by
 have h1 : MapL kbP (w.drewN n) b M := h.kept rfl
 have := h1.look mapNodes true (zeroNp (w.drewN n)) (x := p) hp
 rw [show (Value.string p) = kbP.inj p from rfl, this, ← hv, ← hi]
 rfl
theorem underP_any (p q : ByteArray) (hp : p.size ≤ 4000000000) (hq : q.size ≤ 4000000000) (w : World) : Calls Tryz.prog 162 #[.string p, .string q] w (CpPost (.bool (underB p q)) w) := (Under_any p q (by omega) (by omega) w).mono fun e w' h => h
theorem str_beq2 (s t : ByteArray) : (s.toList == t.toList) = decide (s = t) := by
 rw [Bool.eq_iff_iff]
 simp only [beq_iff_eq, decide_eq_true_eq, ByteArray.toList_eq]
 exact ⟨fun h => ByteArray.ext (Array.toList_inj.1 h), fun h => h ▸ rfl⟩
theorem map_flat (l : List ByteArray) : l.map Value.string = l.flatMap (fun s => [Value.string s]) := by
 induction l with
 | nil => rfl
 | cons a l ih => rw [List.map_cons, List.flatMap_cons, ih]; rfl
theorem Rd.strAt {w : World} {a : Option Addr} {n cap : Nat} {l : List ByteArray} (h : Rd w 1 a n cap (l.map Value.string)) {i : Nat} {x : ByteArray} (hx : l[i]? = some x) :
 ∃ b o, a = some ⟨b, o, none⟩ ∧ b < w.heap.size ∧ w.cell? ⟨b, o + i, none⟩ = some (.string x) := by
 rw [map_flat] at h
 obtain ⟨b, o, rfl, hb, hc⟩ := h.elem (k := 1) (fun s => [Value.string s]) (fun _ => rfl) (by omega) hx
 exact ⟨b, o, rfl, hb, by have := hc 0 _ rfl; simpa using this⟩
theorem infoEvtR : (Tryz.prog.info? 113).map (fun i => (i.zero.map (·.cells.size), i.size, i.bytes)) = some (some 3, 3, 32) := by kernel_rfl
set_option maxHeartbeats 8000000 in
theorem erase_st {w0 w : World} {l : List Thing} (tb : Nat) (T : Tree) (h : St w0 w (tre tb T :: l)) (hf : T.fit) (hr : Rdy w0) (r : TxR) (hxf : r.x.fit) (zxid : Int) :
 Calls Tryz.prog 83 #[.pointer (some ⟨tb, 0, none⟩), .agg r.cells.toArray, .int .i64 zxid] w (EvPost (T.erase r.x zxid) w0 tb l) := by
 obtain ⟨⟨kind, path, data, acl, owner, number, err⟩, aa, ac, sa, sn, sc⟩ := r
 simp only [TxR.cells] at *
 have hpath := hxf.path
 simp only at hpath
 obtain ⟨an, han⟩ : ∃ an, acl.length = an := ⟨_, rfl⟩
 simp only [han]
 have hpl := parent_le path
 obtain ⟨up, hup⟩ : ∃ up, parentB path = up := ⟨_, rfl⟩
 rw [hup] at hpl
 have HS := Lib.hid (h.box1 #[.int .i64 kind, .string path, .string data, .slice aa an ac, .int .i64 owner, .int .i64 number, .int .i64 err, .slice sa sn sc] 61)
 have c1 := blk_cell (HS.out.box 0 rfl) 1 (.string path) rfl
 have zb := heap_lt (HS.out.box 0 rfl)
 have CA : Hid (∀ w', Mod (fun _ => False) w0 w' → Calls Tryz.prog 159 #[.string path] w' (CpPost (.bool (Tree.able path)) w')) := Lib.hid fun w' hm => able_any path (by omega) w' (hr.old hm)
 by_cases hab : Tree.able path = false
 ·have he : T.erase ⟨kind, path, data, acl, owner, number, err⟩ zxid = (T, []) := by unfold Tree.erase; rw [if_pos hab]
  rw [he]
  rw [hab] at CA
  clear he hab hup hpl hpath hxf hf h
  go_enter Tryz.func83, Tryz.ntmps83
  go_wp2_with (go_at_call 159; refine (CA.out _ HS.out.1).mono ?_; rintro e w3 ⟨rfl, hM3⟩)
  go_ret
  exact EvPost.nil (HS.out.mod hM3).tail
 ·have hab : Tree.able path = true := by simpa using hab
  rw [hab] at CA
  have CP : Hid (∀ w', Calls Tryz.prog 115 #[.string path] w' (CpPost (.string up) w')) := Lib.hid fun w' => by rw [← hup]; exact parentP_any path (by omega) w'
  obtain ⟨d, hd, hT⟩ := h.openTree
  have HT := Lib.hid (hT.box1 #[.int .i64 kind, .string path, .string data, .slice aa an ac, .int .i64 owner, .int .i64 number, .int .i64 err, .slice sa sn sc] 61)
  have HUP := Lib.hid (And.intro (show up.size ≤ maxLen by unfold maxLen; omega) (show path.size ≤ maxLen by unfold maxLen; omega))
  have HPS := Lib.hid hpath
  obtain ⟨is, his⟩ : ∃ is, (T.node path).isSome = is := ⟨_, rfl⟩
  have HIS : Hid ((getK (d.recs.map fun p => (p.1, p.2.ptr)) path).isSome = is) := Lib.hid (by rw [ptr_of, ← his, rec_of hd]; cases getK d.recs path <;> rfl)
  obtain ⟨tn, htn⟩ : ∃ tn, T.nodes.length = tn := ⟨_, rfl⟩
  have hpn : T.paths.length = tn := by unfold Tree.paths; rw [List.length_mergeSort, List.length_map, htn]
  have HN := Lib.hid (And.intro hpn (show tn ≤ 1000000 by rw [← htn]; exact hf.many))
  have hps : ∀ q ∈ T.paths, q.size ≤ 1000000 := fun q hq => by
   unfold Tree.paths at hq
   rw [List.mem_mergeSort] at hq
   obtain ⟨n, hn, rfl⟩ := List.mem_map.1 hq
   exact hf.path n hn
  have HQ := Lib.hid hps
  have CL : Hid (∀ w', St w0 w' (tre tb T :: l) → Calls Tryz.prog 161 #[.pointer (some ⟨tb, 0, none⟩)] w' (NewSl 9 1 (T.paths.map Value.string) tn w')) := Lib.hid fun w' h => by rw [← htn]; exact paths_any w' tb T (h.treeAt 0 rfl) hf.many
  have HF := Lib.hid hf
  have HE : Hid (T.erase ⟨kind, path, data, acl, owner, number, err⟩ zxid = (({ T with nodes := T.nodes.filter fun n => !Tree.gone path n.1 } : Tree).kid up number zxid, if is = true then ⟨2, path, zxid⟩ :: (if ((({ T with nodes := T.nodes.filter fun n => !Tree.gone path n.1 } : Tree).kid up number zxid).node up).isSome then [⟨4, up, zxid⟩] else []) else [])) := Lib.hid (by
   unfold Tree.erase
   simp only [hup, his]
   rw [if_neg (by rw [hab]; simp)])
  obtain ⟨U, hU⟩ : ∃ U, (({ T with nodes := T.nodes.filter fun n => !Tree.gone path n.1 } : Tree).kid up number zxid) = U := ⟨_, rfl⟩
  rw [hU] at HE
  obtain ⟨evs, hevs⟩ : ∃ evs : List Evt, (if is = true then ⟨2, path, zxid⟩ :: (if (U.node up).isSome then [⟨4, up, zxid⟩] else []) else []) = evs := ⟨_, rfl⟩
  rw [hevs] at HE
  have HEV := Lib.hid hevs
  have HU := Lib.hid hU
  rw [HE.out]
  clear hU hevs hup hpl hpath hxf hf h hT hab han HE his htn hpn hps hd c1 zb
  go_enter Tryz.func83, Tryz.ntmps83
  have c1 := blk_cell (HS.out.box 0 rfl) 1 (.string path) rfl
  have zb := heap_lt (HS.out.box 0 rfl)
  go_upto_region 4 with (first
   | (go_at_call 159; refine (CA.out _ HS.out.1).mono ?_; rintro e w3 ⟨rfl, hM3⟩; have c1 := hM3.cell c1 id; have zb := Nat.lt_of_lt_of_le zb hM3.size)
   | (go_at_call 115; refine (CP.out _).mono ?_; rintro e w4 ⟨rfl, hM4⟩; have c1 := hM4.cell c1 id; have HM4 := Lib.hid (hM3.then hM4 (fun _ _ h => h)); clear hM3 hM4))
  have HT4 := Lib.hid (HT.out.mod HM4.out)
  have HS4 := Lib.hid (HS.out.mod HM4.out)
  clear c1 zb HT HS HM4 CA CP
  generalize w.heap.size = xb at HS4 HT4 ⊢
  have c1 := blk_cell (HT4.out.box 0 rfl) 1 (.string path) rfl
  have t0 := blk_cell (HT4.out.box 1 rfl) 0 (.map (some d.mb)) rfl
  have zt := heap_lt (HT4.out.box 1 rfl)
  have hlk := lookOk_drewN (HT4.out.mapL 2 rfl) path HUP.out.2 _ is rfl HIS.out
  go_quiet (fail)
  clear hlk c1 t0 zt HT4 HIS
  have HS5 := Lib.hid (HS4.out.drewN nq)
  generalize w4.drewN nq = w5 at HS5 ⊢
  clear HS4
  generalize (getK (d.recs.map fun p => (p.1, p.2.ptr)) path).getD (Value.pointer none) = pv
  go_wp2_with (go_at_call 161; refine (CL.out _ HS5.out.tail).mono ?_; rintro e w6 ⟨pa, pc, rfl, hs6, hf6, hM6⟩; have HS6 := Lib.hid (HS5.out.newSlice hM6 hs6 hf6); clear hM6 hs6 hf6)
  clear CL HS5
  have h63 : (tn : Int) ≤ 1000000 := by have := HN.out.2; omega
  go_loopg [33] tn (fun g y wr => ∃ k : Nat, k + g = tn ∧ y = .int .i64 k ∧ St w0 wr (sl 9 1 pa tn pc (T.paths.map Value.string) :: bx xb #[.int .i64 kind, .string path, .string data, .slice aa an ac, .int .i64 owner, .int .i64 number, .int .i64 err, .slice sa sn sc] 61 :: tre tb (T.cut path k) :: l))
  case atStart => exact ⟨0, by omega, rfl, by rw [Tree.cut_zero]; exact HS6.out⟩
  case round =>
   clear HS6
   obtain ⟨k, hkg, rfl, hS⟩ := hrel
   by_cases hlt : k < tn
   ·have hx : T.paths[k]? = some (T.paths[k]'(by rw [HN.out.1]; exact hlt)) := List.getElem?_eq_getElem _
    obtain ⟨q, hxx⟩ : ∃ x, T.paths[k]'(by rw [HN.out.1]; exact hlt) = x := ⟨_, rfl⟩
    rw [hxx] at hx
    obtain ⟨b, o, rfl, hbl, c0⟩ := (hS.slice 0 rfl).rd.strAt hx
    have hqs := HQ.out q (List.mem_of_getElem? hx)
    have HX := Lib.hid hx
    have HS := Lib.hid hS
    have c1 := blk_cell (hS.box 1 rfl) 1 (.string path) rfl
    have zb := heap_lt (hS.box 1 rfl)
    have CU : Hid (∀ w', Calls Tryz.prog 162 #[.string q, .string path] w' (CpPost (.bool (underB q path)) w')) := Lib.hid fun w' => underP_any q path (by omega) (by have := HPS.out; omega) w'
    clear hx hxx hS
    have hbq := str_beq2 q path
    by_cases hg : Tree.gone path q = true
    ·have HCUT : Hid (T.cut path (k + 1) = { T.cut path k with nodes := delK (T.cut path k).nodes q }) := Lib.hid (Tree.cut_drop HX.out hg)
     obtain ⟨d1, hd1, hS1⟩ := (HS.out.pick 2 rfl).openTree
     have HN1 := Lib.hid (TD.nodup hS1)
     have HD1 := Lib.hid hd1
     have HS1 := Lib.hid hS1
     have t0 := blk_cell (hS1.box 0 rfl) 0 (.map (some d1.mb)) rfl
     have zt := heap_lt (hS1.box 0 rfl)
     have HQS := Lib.hid (show q.size ≤ maxLen by unfold maxLen; omega)
     clear hd1 hS1 hqs
     have TX := Lib.hid trivial
     by_cases h1 : q = path
     ·have h2 : (q.toList == path.toList) = true := by rw [hbq]; simpa using h1
      clear hbq h1 hg
      go_wp2_with ((with_reducible refine at_list ?_); refine wpList_delL (B := kbP) mapNodes d1.mb _ (HS1.out.mapL 1 rfl) rfl q rfl HQS.out ?_; intro w7 hm7 hM7; have hS7 := HS1.out.remapL 1 rfl hm7 hM7)
      simp only [List.set_cons_succ, List.set_cons_zero] at hS7
      have h8 := St.delNode (U := T.cut path (k + 1)) HD1.out HN1.out (by rw [HCUT.out]) (by rw [HCUT.out]) (by rw [HCUT.out]) hS7
      go_roundg (tn - (k + 1))
      case measure => omega
      case rel => exact ⟨k + 1, by omega, by simp, ((h8.pick 2 rfl).pick 2 rfl)⟩
     ·have h2 : (q.toList == path.toList) = false := by rw [hbq]; simpa using h1
      have hu : underB q path = true := by unfold Tree.gone at hg; simpa [h1] using hg
      rw [hu] at CU
      clear hbq h1 hg hu
      go_wp2_with (first
       | (go_at_call 162; refine (CU.out _).mono ?_; rintro e w9 ⟨rfl, hM9⟩; have HS9 := Lib.hid (HS1.out.mod hM9); have t0 := hM9.cell t0 id; clear hM9)
       | ((with_reducible refine at_list ?_); refine wpList_delL (B := kbP) mapNodes d1.mb _ (HS9.out.mapL 1 rfl) rfl q rfl HQS.out ?_; intro w7 hm7 hM7; have hS7 := HS9.out.remapL 1 rfl hm7 hM7))
      simp only [List.set_cons_succ, List.set_cons_zero] at hS7
      have h8 := St.delNode (U := T.cut path (k + 1)) HD1.out HN1.out (by rw [HCUT.out]) (by rw [HCUT.out]) (by rw [HCUT.out]) hS7
      go_roundg (tn - (k + 1))
      case measure => omega
      case rel => exact ⟨k + 1, by omega, by simp, ((h8.pick 2 rfl).pick 2 rfl)⟩
    ·have hg : Tree.gone path q = false := by simpa using hg
     have HCUT : Hid (T.cut path (k + 1) = T.cut path k) := Lib.hid (Tree.cut_keep HX.out hg)
     have h1 : q ≠ path := by rintro rfl; unfold Tree.gone at hg; simp at hg
     have h2 : (q.toList == path.toList) = false := by rw [hbq]; simpa using h1
     have hu : underB q path = false := by unfold Tree.gone at hg; simpa [h1] using hg
     rw [hu] at CU
     clear hbq h1 hg hu
     go_wp2_with (go_at_call 162; refine (CU.out _).mono ?_; rintro e w9 ⟨rfl, hM9⟩; have HS9 := Lib.hid (HS.out.mod hM9); clear hM9)
     go_roundg (tn - (k + 1))
     case measure => omega
     case rel => exact ⟨k + 1, by omega, by simp, by rw [HCUT.out]; exact HS9.out⟩
   ·have hk : k = tn := by omega
    subst hk
    clear hkg hlt
    rw [Tree.cut_all _ _ _ (by rw [HN.out.1]; exact Nat.le_refl _)] at hS
    have HS := Lib.hid (hS.pick 2 rfl)
    have c5 := blk_cell (hS.box 1 rfl) 5 (.int .i64 number) rfl
    have zb := heap_lt (hS.box 1 rfl)
    clear hS
    have CK := Lib.hid (kid_st tb _ HS.out up HUP.out.1 number zxid)
    rw [HU.out] at CK
    obtain ⟨ip, iz, hi1, hi2, hi3, hi4, hi5⟩ := info_rowT infoEvtR
    have HI := Lib.hid (And.intro hi1 (And.intro hi2 (And.intro hi3 (And.intro hi4 hi5))))
    clear HS hi1 hi2 hi3 hi4 hi5
    cases is with
    | false =>
      go_wp2_with (go_at_call 160; refine CK.out.mono ?_; rintro e w7 ⟨rfl, hS7⟩)
      go_ret
      rw [← HEV.out]
      exact EvPost.nil ((hS7.pick 1 rfl).tail.pick 1 rfl).tail
    | true =>
      go_upto_region 15 with (go_at_call 160; refine CK.out.mono ?_; rintro e w7 ⟨rfl, hS7⟩; have c1 := blk_cell (hS7.box 2 rfl) 1 (.string path) rfl; have zb := heap_lt (hS7.box 2 rfl); have HS8 := Lib.hid (hS7.slice1' #[.int .i64 2, .string path, .int .i64 zxid] 113 3 1 rfl (by unfold maxLen; omega)); clear hS7 c5 CK)
      obtain ⟨d2, hd2, hT2⟩ := (HS8.out.pick 1 rfl).openTree
      have t0 := blk_cell (hT2.box 0 rfl) 0 (.map (some d2.mb)) rfl
      have zt := heap_lt (hT2.box 0 rfl)
      have HT2 := Lib.hid hT2
      have HD2 := Lib.hid hd2
      clear hT2 hd2 c1 zb
      cases hg2 : getK d2.recs up with
      | none =>
        have hno : (U.node up).isSome = false := by rw [node_none HD2.out hg2]; rfl
        have HNO := Lib.hid hno
        have HG := Lib.hid (ptr_none hg2)
        clear hg2 hno
        go_wp2_with ((with_reducible refine at_list ?_); refine wpList_lookL (B := kbP) mapNodes d2.mb _ (HT2.out.mapL 1 rfl) rfl (zeroNp _) up rfl HUP.out.1 _ HG.out ?_)
        go_ret
        rw [← HEV.out, HNO.out]
        simp only [if_true, Bool.false_eq_true, if_false]
        exact ⟨_, _, rfl, ((HS8.out.pick 2 rfl).tail.pick 2 rfl).tail⟩
      | some r2 =>
        have hno : (U.node up).isSome = true := by rw [node_some HD2.out hg2]; rfl
        have HNO := Lib.hid hno
        have HG := Lib.hid (ptr_some hg2)
        clear hg2 hno
        go_wp2_with (first
         | ((with_reducible refine at_list ?_); refine wpList_lookL (B := kbP) mapNodes d2.mb _ (HT2.out.mapL 1 rfl) rfl (zeroNp _) up rfl HUP.out.1 _ HG.out ?_)
         | (at_builtin; go_loud (refine wpList_append 113 ip iz 3 32 (by kernel_rfl) HI.out.1 HI.out.2.1 HI.out.2.2.1 HI.out.2.2.2.1 HI.out.2.2.2.2 _ 1 1 [.int .i64 2, .string path, .int .i64 zxid] rfl ((HS8.out.mod ((Mod.refl _ _).alloc _)).slice 0 rfl) _ 1 1 [.int .i64 4, .string up, .int .i64 zxid] rfl (by have hq := (Sl.new (E := 113) (k := 3) (n := 1) (heap_alloc_new (w7.alloc (.cells #[.int .i64 2, .string path, .int .i64 zxid] 113)) (.cells #[.int .i64 4, .string up, .int .i64 zxid] 113)) (by simp) (by unfold maxLen; omega)).rd; rw [World.size_alloc] at hq; exact hq) (by intro u hu; simp only [List.mem_cons, List.not_mem_nil, or_false] at hu; rcases hu with rfl | rfl | rfl <;> rfl) (by unfold maxLen; omega) (by omega) ?_); intro a2 cap2 w9 hS9 hM9 hF9 hN9 hR9; have h9 := (HS8.out.mod ((Mod.refl _ _).alloc (.cells #[.int .i64 4, .string up, .int .i64 zxid] 113))).regrow 0 rfl hS9 hM9 hF9))
        go_ret
        rw [← HEV.out, HNO.out]
        simp only [List.set_cons_zero] at h9
        simp only [if_true]
        exact ⟨_, _, rfl, ((h9.pick 2 rfl).tail.pick 2 rfl).tail⟩
end Go.Proofs.YtonnbkebjeoflaaGreatDoor
namespace Go.Proofs.YtonnbkebjeoflaaGreatDoor
open Go.RowKit Go.Maps
theorem sizeTxnT : (Tryz.prog.info? 61).map (·.size) = some 8 := by kernel_rfl
theorem part1 (T : Tree) (x : Tx) (z : Int) (h : x.kind = 1) : T.part x z = T.create x z := by unfold Tree.part; rw [if_pos h]
theorem part2 (T : Tree) (x : Tx) (z : Int) (h : x.kind = 2) : T.part x z = T.erase x z := by unfold Tree.part; rw [if_neg (by omega), if_pos h]
theorem part_no (T : Tree) (x : Tx) (z : Int) (h1 : x.kind ≠ 1) (h2 : x.kind ≠ 2) (hn : T.node x.path = none ∨ (x.kind ≠ 3 ∧ x.kind ≠ 4)) : T.part x z = (T, []) := by
 unfold Tree.part
 rw [if_neg h1, if_neg h2]
 rcases hn with hn | ⟨h3, h4⟩
 ·rw [hn]
 ·cases T.node x.path with
  | none => rfl
  | some n => simp only [h3, h4, if_false]
theorem TxR.ok_of {r : TxR} {w w' : World} (h : r.ok w) (hm : Mod (fun _ => False) w w') : r.ok w' := Rd.mod h hm (fun _ _ h => h)
set_option maxHeartbeats 8000000 in
theorem part_st {w0 w : World} {l : List Thing} (tb : Nat) (T : Tree) (h : St w0 w (tre tb T :: l)) (hf : T.fit) (hr : Rdy w0) (r : TxR) (hx : r.ok w) (hxf : r.x.fit) (zxid : Int) :
 Calls Tryz.prog 41 #[.pointer (some ⟨tb, 0, none⟩), .agg r.cells.toArray, .int .i64 zxid] w (EvPost (T.part r.x zxid) w0 tb l) := by
 have HOK := Lib.hid hx
 have HXF := Lib.hid hxf
 have HFT := Lib.hid hf
 have HRD := Lib.hid hr
 have p1 := part1 T r.x zxid
 have p2 := part2 T r.x zxid
 have pn := part_no T r.x zxid
 obtain ⟨x, aa, ac, sa, sn, sc⟩ := r
 obtain ⟨kind, path, data, acl, owner, number, err⟩ := x
 simp only [TxR.cells] at *
 have hpath := hxf.path
 simp only at hpath
 obtain ⟨d, hd, hT⟩ := h.openTree
 have HX : Hid (∀ w' G, St w0 w' (bx w.heap.size #[.int .i64 kind, .string path, .string data, .slice aa acl.length ac, .int .i64 owner, .int .i64 number, .int .i64 err, .slice sa sn sc] 61 :: G) → ∀ j u, (TxR.cells ⟨⟨kind, path, data, acl, owner, number, err⟩, aa, ac, sa, sn, sc⟩)[j]? = some u → w'.cell? ((⟨w.heap.size, 0, none⟩ : Addr).add j) = some u) := Lib.hid fun w' G h => box_chunk0 (h.box 0 rfl)
 have HS := Lib.hid (h.box1 #[.int .i64 kind, .string path, .string data, .slice aa acl.length ac, .int .i64 owner, .int .i64 number, .int .i64 err, .slice sa sn sc] 61)
 have HT := Lib.hid (hT.box1 #[.int .i64 kind, .string path, .string data, .slice aa acl.length ac, .int .i64 owner, .int .i64 number, .int .i64 err, .slice sa sn sc] 61)
 have HM : Hid (Mod (fun _ => False) w (w.alloc (.cells #[.int .i64 kind, .string path, .string data, .slice aa acl.length ac, .int .i64 owner, .int .i64 number, .int .i64 err, .slice sa sn sc] 61))) := Lib.hid ((Mod.refl _ w).alloc _)
 have HPS := Lib.hid (show path.size ≤ maxLen by unfold maxLen; omega)
 have HN := Lib.hid (TD.nodup hT)
 have HD := Lib.hid hd
 have c1 := blk_cell (HT.out.box 0 rfl) 1 (.string path) rfl
 have c0 := blk_cell (HT.out.box 0 rfl) 0 (.int .i64 kind) rfl
 have t0 := blk_cell (HT.out.box 1 rfl) 0 (.map (some d.mb)) rfl
 have zt := heap_lt (HT.out.box 1 rfl)
 have zx := heap_lt (HT.out.box 0 rfl)
 obtain ⟨np, hnp⟩ : ∃ np, (getK (d.recs.map fun p => (p.1, p.2.ptr)) path).getD (.pointer none) = np := ⟨_, rfl⟩
 have hlk := look_drewN (HT.out.mapL 2 rfl) path HPS.out np hnp
 by_cases h1 : kind = 1
 ·rw [p1 h1]
  subst h1
  clear p1 p2 pn hnp hd hT h hx hxf hf hr hpath
  go_enter Tryz.func41, Tryz.ntmps41
  go_upto_region 1 with (fail)
  go_quiet (fail)
  clear hlk c1 c0 t0 zt zx
  have HS1 := Lib.hid (HS.out.drewN nq)
  have HM1 := Lib.hid (HM.out.drewN nq)
  have c0 := blk_cell (HS1.out.box 0 rfl) 0 (.int .i64 1) rfl
  have zx := heap_lt (HS1.out.box 0 rfl)
  clear HS HT HM
  generalize World.drewN _ nq = w1 at *
  generalize w.heap.size = xb at *
  have CC := Lib.hid (create_st (w := w1) tb T HS1.out.tail HFT.out HRD.out ⟨⟨1, path, data, acl, owner, number, err⟩, aa, ac, sa, sn, sc⟩ (TxR.ok_of HOK.out HM1.out) HXF.out zxid)
  go_wp2_with (first
   | ((with_reducible refine at_list ?_); refine wpList_load_chunk 8 _ Tryz.underlying61 rfl sizeTxnT ⟨xb, 0, none⟩ rfl (TxR.cells ⟨⟨1, path, data, acl, owner, number, err⟩, aa, ac, sa, sn, sc⟩) rfl (HX.out w1 _ HS1.out) ?_)
   | (go_at_call 82; refine CC.out.mono ?_; rintro e w3 ⟨ea, ec, rfl, hS3⟩))
  go_ret
  exact ⟨ea, ec, rfl, hS3⟩
 ·by_cases h2 : kind = 2
  ·rw [p2 h2]
   subst h2
   clear p1 p2 pn hnp hd hT h hx hxf hf hr hpath
   go_enter Tryz.func41, Tryz.ntmps41
   go_upto_region 1 with (fail)
   go_quiet (fail)
   clear hlk c1 c0 t0 zt zx
   have HS1 := Lib.hid (HS.out.drewN nq)
   have HM1 := Lib.hid (HM.out.drewN nq)
   have c0 := blk_cell (HS1.out.box 0 rfl) 0 (.int .i64 2) rfl
   have zx := heap_lt (HS1.out.box 0 rfl)
   clear HS HT HM
   generalize World.drewN _ nq = w1 at *
   generalize w.heap.size = xb at *
   have CC := Lib.hid (erase_st (w := w1) tb T HS1.out.tail HFT.out HRD.out ⟨⟨2, path, data, acl, owner, number, err⟩, aa, ac, sa, sn, sc⟩ HXF.out zxid)
   go_wp2_with (first
    | ((with_reducible refine at_list ?_); refine wpList_load_chunk 8 _ Tryz.underlying61 rfl sizeTxnT ⟨xb, 0, none⟩ rfl (TxR.cells ⟨⟨2, path, data, acl, owner, number, err⟩, aa, ac, sa, sn, sc⟩) rfl (HX.out w1 _ HS1.out) ?_)
    | (go_at_call 83; refine CC.out.mono ?_; rintro e w3 ⟨ea, ec, rfl, hS3⟩))
   go_ret
   exact ⟨ea, ec, rfl, hS3⟩
  ·have g1 : (kind == 1) = false := by simpa using h1
   have g2 : (kind == 2) = false := by simpa using h2
   have HK := Lib.hid (And.intro h1 h2)
   cases hp : getK d.recs path with
   | none =>
     rw [pn h1 h2 (.inl (node_none hd hp))]
     have e : np = .pointer none := by rw [← hnp]; exact ptr_none hp
     subst e
     by_cases h3 : kind = 3
     ·subst h3
      clear p1 p2 pn hnp hd hT h hx hxf hf hr hpath h1 h2 g1 g2 hp
      go_enter Tryz.func41, Tryz.ntmps41
      go_upto_region 1 with (fail)
      go_quiet (fail)
      have HS1 := Lib.hid (HS.out.drewN nq)
      clear hlk
      go_wp2
      go_ret
      exact EvPost.nil HS1.out.tail
     ·have g3 : (kind == 3) = false := by simpa using h3
      by_cases h4 : kind = 4
      ·subst h4
       clear p1 p2 pn hnp hd hT h hx hxf hf hr hpath h1 h2 g1 g2 hp h3 g3
       go_enter Tryz.func41, Tryz.ntmps41
       go_upto_region 1 with (fail)
       go_quiet (fail)
       have HS1 := Lib.hid (HS.out.drewN nq)
       clear hlk
       go_wp2
       go_ret
       exact EvPost.nil HS1.out.tail
      ·have g4 : (kind == 4) = false := by simpa using h4
       clear p1 p2 pn hnp hd hT h hx hxf hf hr hpath h1 h2 hp h3 h4
       go_enter Tryz.func41, Tryz.ntmps41
       go_upto_region 1 with (fail)
       go_quiet (fail)
       have HS1 := Lib.hid (HS.out.drewN nq)
       clear hlk
       go_wp2
       go_ret
       exact EvPost.nil HS1.out.tail
   | some rn =>
     have e : np = .pointer (some ⟨rn.b, 0, none⟩) := by rw [← hnp]; exact ptr_some hp
     subst e
     have hN2 := (hT.nodeOut HN.out hp).box1 #[.int .i64 kind, .string path, .string data, .slice aa acl.length ac, .int .i64 owner, .int .i64 number, .int .i64 err, .slice sa sn sc] 61
     have HT2 := Lib.hid hN2
     have HP := Lib.hid hp
     by_cases h3 : kind = 3
     ·subst h3
      have he : T.part ⟨3, path, data, acl, owner, number, err⟩ zxid = ({ T with nodes := putK T.nodes path { rn.nd with data := data, st := { rn.nd.st with version := number, mzxid := zxid } } }, [⟨3, path, zxid⟩]) := by
       unfold Tree.part
       rw [if_neg h1, if_neg h2, node_some hd hp]
       rfl
      rw [he]
      clear p1 p2 pn hnp hd hT h hx hxf hf hr hpath h1 h2 g1 g2 hp hN2 he
      go_enter Tryz.func41, Tryz.ntmps41
      go_upto_region 1 with (fail)
      go_quiet (fail)
      have HT1 := Lib.hid (HT2.out.drewN nq)
      have HM1 := Lib.hid (HM.out.drewN nq)
      clear hlk c1 c0 t0 zt zx HS HT HT2 HX HM
      generalize World.drewN _ nq = w1 at *
      generalize w.heap.size = xb at *
      have c0 := blk_cell (HT1.out.box 0 rfl) 0 (.int .i64 3) rfl
      have zx := heap_lt (HT1.out.box 0 rfl)
      go_upto_region 7 with (fail)
      clear c0
      have KP : Hid (∀ (w' : World) (G : List Thing), St w0 w' (bx xb #[.int .i64 3, .string path, .string data, .slice aa acl.length ac, .int .i64 owner, .int .i64 number, .int .i64 err, .slice sa sn sc] 61 :: G) → w'.cell? ⟨xb, 2, none⟩ = some (.string data) ∧ w'.cell? ⟨xb, 5, none⟩ = some (.int .i64 number)) := Lib.hid fun w' G h => ⟨blk_cell (h.box 0 rfl) 2 _ rfl, blk_cell (h.box 0 rfl) 5 _ rfl⟩
      have k0 := blk_cell (HT1.out.box 4 rfl) 0 _ rfl
      have k3 := blk_cell (HT1.out.box 4 rfl) 3 _ rfl
      have k5 := blk_cell (HT1.out.box 4 rfl) 5 _ rfl
      have f0 := blk_free (HT1.out.box 4 rfl) 0
      have f3 := blk_free (HT1.out.box 4 rfl) 3
      have f5 := blk_free (HT1.out.box 4 rfl) 5
      have zb := heap_lt (HT1.out.box 4 rfl)
      have HA := Lib.hid (HT1.out.drew.set 4 rfl 0 (.string data))
      have HB := Lib.hid (HA.out.set 4 rfl 5 (.int .i64 number))
      have HC := Lib.hid (HB.out.set 4 rfl 3 (.int .i64 zxid))
      go_region_held3 (fun w' => w'.cell? ⟨xb, 2, none⟩ = some (.string data) ∧ w'.cell? ⟨xb, 5, none⟩ = some (.int .i64 number))
       (first | exact KP.out _ _ HT1.out.drew | exact KP.out _ _ HA.out | exact KP.out _ _ HB.out | exact KP.out _ _ HC.out)
       (fail)
      have h9 := HC.out.pick 0 rfl
      simp only [List.set_cons_succ, List.set_cons_zero] at h9
      have H8 : Hid (St w0 (((w1.setCell ⟨rn.b, 0, none⟩ (.string data)).setCell ⟨rn.b, 5, none⟩ (.int .i64 number)).setCell ⟨rn.b, 3, none⟩ (.int .i64 zxid)).drew _) := Lib.hid (h9.pick 0 rfl)
      clear h9 HA HB HC KP k0 k3 k5 f0 f3 f5 zb
      generalize World.drew _ = w8 at H8 ⊢
      have c1 := blk_cell (H8.out.box 0 rfl) 1 (.string path) rfl
      have zx := heap_lt (H8.out.box 0 rfl)
      go_wp2
      go_ret
      have h8 := St.reNode (d := d) (r := rn) (r' := { rn with nd := { rn.nd with data := data, st := { rn.nd.st with version := number, mzxid := zxid } } }) (U := { T with nodes := putK T.nodes path { rn.nd with data := data, st := { rn.nd.st with version := number, mzxid := zxid } } }) HD.out HN.out HP.out rfl rfl rfl H8.out.tail
      exact ⟨_, _, rfl, h8.slice1' #[.int .i64 3, .string path, .int .i64 zxid] 113 3 1 rfl (by unfold maxLen; omega)⟩
     ·have g3 : (kind == 3) = false := by simpa using h3
      by_cases h4 : kind = 4
      ·subst h4
       have he : T.part ⟨4, path, data, acl, owner, number, err⟩ zxid = ({ T with nodes := putK T.nodes path { rn.nd with acl := acl, st := { rn.nd.st with aversion := number } } }, []) := by
        unfold Tree.part
        rw [if_neg h1, if_neg h2, node_some hd hp]
        rfl
       rw [he]
       have CC : Hid (∀ w', Mod (fun _ => False) w w' → Calls Tryz.prog 84 #[.slice aa acl.length ac] w' (NewSl 46 2 (acl.flatMap ARow.cells) acl.length w')) := Lib.hid fun w' hm => cloneAcl_any aa acl.length ac (acl.flatMap ARow.cells) w' (Rd.mod hx hm (fun _ _ h => h)) arow_one (by have h7 : acl.length ≤ 1000000 := hxf.acl; omega)
       clear p1 p2 pn hnp hd hT h hx hxf hf hr hpath h1 h2 g1 g2 hp hN2 he h3 g3
       go_enter Tryz.func41, Tryz.ntmps41
       go_upto_region 1 with (fail)
       go_quiet (fail)
       have HT1 := Lib.hid (HT2.out.drewN nq)
       have HM1 := Lib.hid (HM.out.drewN nq)
       clear hlk c1 c0 t0 zt zx HS HT HT2 HX HM
       generalize World.drewN _ nq = w1 at *
       generalize w.heap.size = xb at *
       have c0 := blk_cell (HT1.out.box 0 rfl) 0 (.int .i64 4) rfl
       have zx := heap_lt (HT1.out.box 0 rfl)
       go_upto_region 10 with (fail)
       clear c0
       have KP : Hid (∀ (w' : World) (y : Thing) (G : List Thing), St w0 w' (y :: bx xb #[.int .i64 4, .string path, .string data, .slice aa acl.length ac, .int .i64 owner, .int .i64 number, .int .i64 err, .slice sa sn sc] 61 :: G) → w'.cell? ⟨xb, 3, none⟩ = some (.slice aa acl.length ac) ∧ w'.cell? ⟨xb, 5, none⟩ = some (.int .i64 number)) := Lib.hid fun w' y G h => ⟨blk_cell (h.box 1 rfl) 3 _ rfl, blk_cell (h.box 1 rfl) 5 _ rfl⟩
       have zb := heap_lt (HT1.out.box 4 rfl)
       go_region_held3 (fun w' => w'.cell? ⟨xb, 3, none⟩ = some (.slice aa acl.length ac) ∧ w'.cell? ⟨xb, 5, none⟩ = some (.int .i64 number))
        (first | exact KP.out _ _ _ (HT1.out.nilSlice 0 0) | exact KP.out _ _ _ (HT1.out.drew.nilSlice 0 0) | exact KP.out _ _ _ HN5.out | exact KP.out _ _ _ HA.out | exact KP.out _ _ _ HB.out)
        (first
         | (go_at_call 84; refine (CC.out _ (by first | exact HM1.out | exact HM1.out.drew)).mono ?_; rintro e w5 ⟨a2, cap2, rfl, hs2, hf2, hM5⟩; have HN5 := Lib.hid (HT1.out.drew.newSlice hM5 hs2 hf2); have HA := Lib.hid (HN5.out.set 5 rfl 1 (.slice a2 acl.length cap2)); have HB := Lib.hid (HA.out.set 5 rfl 7 (.int .i64 number)); have k1 := blk_cell (HN5.out.box 5 rfl) 1 _ rfl; have k7 := blk_cell (HN5.out.box 5 rfl) 7 _ rfl; have f1 := blk_free (HN5.out.box 5 rfl) 1; have f7 := blk_free (HN5.out.box 5 rfl) 7; have zb5 := heap_lt (HN5.out.box 5 rfl); clear hM5 hs2 hf2))
       have h9 := HB.out
       simp only [List.set_cons_succ, List.set_cons_zero] at h9
       have h8 := ((((((((h9.pick 6 rfl).tail.pick 1 rfl).tail.pick 5 rfl).pick 1 rfl).pick 5 rfl).pick 5 rfl).pick 5 rfl).pick 5 rfl)
       have h7 := St.reNode (d := d) (r := rn) (r' := { rn with nd := { rn.nd with acl := acl, st := { rn.nd.st with aversion := number } }, aa := a2, ac := cap2 }) (U := { T with nodes := putK T.nodes path { rn.nd with acl := acl, st := { rn.nd.st with aversion := number } } }) HD.out HN.out HP.out rfl rfl rfl h8
       have H7 := Lib.hid h7
       clear h7 h8 h9 HA HB KP k1 k7 f1 f7 zb zb5 HN5 CC
       go_wp2
       go_ret
       exact EvPost.nil H7.out
      ·have g4 : (kind == 4) = false := by simpa using h4
       rw [pn h1 h2 (.inr ⟨h3, h4⟩)]
       clear p1 p2 pn hnp hd hT h hx hxf hf hr hpath h1 h2 hp h3 h4 hN2
       go_enter Tryz.func41, Tryz.ntmps41
       go_upto_region 1 with (fail)
       go_quiet (fail)
       have HS1 := Lib.hid (HS.out.drewN nq)
       clear hlk
       go_wp2
       go_ret
       exact EvPost.nil HS1.out.tail
end Go.Proofs.YtonnbkebjeoflaaGreatDoor
