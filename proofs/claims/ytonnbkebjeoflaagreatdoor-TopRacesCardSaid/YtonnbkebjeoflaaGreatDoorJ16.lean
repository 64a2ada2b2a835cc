/-
  Contracts and plain laws of TreeL, LedA, DiskA.
  Conditions: each law states its own.
-/
import Derived.Test.YtonnbkebjeoflaaGreatDoorJ7
import Derived.Test.YtonnbkebjeoflaaGreatDoorJ8
import Derived.Test.YtonnbkebjeoflaaGreatDoorJ10
import Derived.Test.YtonnbkebjeoflaaGreatDoorJ15
set_option linter.unusedSectionVars false
set_option linter.unusedSimpArgs false
set_option linter.unusedVariables false
set_option maxRecDepth 100000
namespace Go.Proofs.YtonnbkebjeoflaaGreatDoor
open Go.RowKit Go.Maps
def Evt.cells (e : Evt) : List Value := [.int .i64 e.kind, .string e.path, .int .i64 e.zxid]
structure TxR where
 x : Tx
 aa : Option Addr
 ac : Nat
 sa : Option Addr
 sn : Nat
 sc : Nat
def TxR.cells (r : TxR) : List Value := [.int .i64 r.x.kind, .string r.x.path, .string r.x.data, .slice r.aa r.x.acl.length r.ac, .int .i64 r.x.owner, .int .i64 r.x.number, .int .i64 r.x.err, .slice r.sa r.sn r.sc]
def TxR.ok (r : TxR) (w : World) : Prop := Rd w 2 r.aa r.x.acl.length r.ac (r.x.acl.flatMap ARow.cells)
structure Tx.fit (x : Tx) : Prop where
 path : x.path.size ≤ 1000000
 data : x.data.size ≤ maxLen
 acl : x.acl.length ≤ 1000000
def EvPost (R : Tree × List Evt) (w0 : World) (tb : Nat) (l : List Thing) (e : Ending) (w' : World) : Prop :=
 ∃ (a : Option Addr) (cap : Nat), e = .returned (.slice a R.2.length cap) ∧ St w0 w' (sl 113 3 a R.2.length cap (R.2.flatMap Evt.cells) :: tre tb R.1 :: l)
theorem EvPost.nil {T : Tree} {w0 w' : World} {tb : Nat} {l : List Thing} (h : St w0 w' (tre tb T :: l)) : EvPost (T, []) w0 tb l (.returned (.slice none 0 0)) w' := ⟨none, 0, rfl, h.nilSlice _ _⟩
theorem parentP_any (p : ByteArray) (hp : p.size ≤ 4000000000) (w : World) : Calls Tryz.prog 115 #[.string p] w (CpPost (.string (parentB p)) w) := (Parent_any p (by omega) w).mono fun e w' h => h
theorem parent_le (p : ByteArray) : (parentB p).size ≤ p.size + 1 := by
 have hl : p.data.toList.length = p.size := by rw [Array.length_toList]; rfl
 have hs : (parentB p).size = (parentL p.data.toList).length := by unfold parentB tx; show (Array.size _) = _; simp
 rw [hs]
 unfold parentL
 split
 ·simp
 ·rename_i x y hc
  have := (lastCut_some hc).1
  have hxl : x.length ≤ p.data.toList.length := by rw [this]; simp
  split
  ·simp
  ·split
   ·simp
   ·omega
set_option maxHeartbeats 8000000 in
theorem create_st {w0 w : World} {l : List Thing} (tb : Nat) (T : Tree) (h : St w0 w (tre tb T :: l)) (hf : T.fit) (hr : Rdy w0) (r : TxR) (hx : r.ok w) (hxf : r.x.fit) (zxid : Int) :
 Calls Tryz.prog 82 #[.pointer (some ⟨tb, 0, none⟩), .agg r.cells.toArray, .int .i64 zxid] w (EvPost (T.create r.x zxid) w0 tb l) := by
 obtain ⟨⟨kind, path, data, acl, owner, number, err⟩, aa, ac, sa, sn, sc⟩ := r
 simp only [TxR.cells, TxR.ok] at *
 have hpath := hxf.path
 have hacl := hxf.acl
 simp only at hpath hacl
 obtain ⟨an, han⟩ : ∃ an, acl.length = an := ⟨_, rfl⟩
 rw [han] at hx hacl
 simp only [han]
 have hpl := parent_le path
 obtain ⟨up, hup⟩ : ∃ up, parentB path = up := ⟨_, rfl⟩
 rw [hup] at hpl
 have HS := Lib.hid (h.box1 #[.int .i64 kind, .string path, .string data, .slice aa an ac, .int .i64 owner, .int .i64 number, .int .i64 err, .slice sa sn sc] 61)
 have c1 := blk_cell (HS.out.box 0 rfl) 1 _ rfl
 have c2 := blk_cell (HS.out.box 0 rfl) 2 _ rfl
 have c3 := blk_cell (HS.out.box 0 rfl) 3 _ rfl
 have c4 := blk_cell (HS.out.box 0 rfl) 4 _ rfl
 have c5 := blk_cell (HS.out.box 0 rfl) 5 _ rfl
 have zb := heap_lt (HS.out.box 0 rfl)
 have CP : Hid (∀ w', Calls Tryz.prog 115 #[.string path] w' (CpPost (.string up) w')) := Lib.hid fun w' => by rw [← hup]; exact parentP_any path (by omega) w'
 have CA : Hid (∀ w', Mod (fun _ => False) w0 w' → Calls Tryz.prog 159 #[.string path] w' (CpPost (.bool (Tree.able path)) w')) := Lib.hid fun w' hm => able_any path (by omega) w' (hr.old hm)
 by_cases hab : Tree.able path = false
 ·have he : T.create ⟨kind, path, data, acl, owner, number, err⟩ zxid = (T, []) := by unfold Tree.create; rw [if_pos (.inl hab)]
  rw [he]
  rw [hab] at CA
  clear he hab hup hpl hpath hacl hxf hx hf h
  go_enter Tryz.func82, Tryz.ntmps82
  go_wp2_with (first
   | (go_at_call 115; refine (CP.out _).mono ?_; rintro e w2 ⟨rfl, hM2⟩; have c1 := hM2.cell c1 id)
   | (go_at_call 159; refine (CA.out _ (HS.out.1.then hM2 (fun _ _ h => h))).mono ?_; rintro e w3 ⟨rfl, hM3⟩))
  go_ret
  exact EvPost.nil ((HS.out.mod hM2).mod hM3).tail
 ·have hab : Tree.able path = true := by simpa using hab
  rw [hab] at CA
  obtain ⟨d, hd, hT⟩ := h.openTree
  have HT := Lib.hid (hT.box1 #[.int .i64 kind, .string path, .string data, .slice aa an ac, .int .i64 owner, .int .i64 number, .int .i64 err, .slice sa sn sc] 61)
  have t0 := blk_cell (HT.out.box 1 rfl) 0 _ rfl
  have zt := heap_lt (HT.out.box 1 rfl)
  have hups : up.size ≤ maxLen := by unfold maxLen; omega
  have hpaths : path.size ≤ maxLen := by unfold maxLen; omega
  have HUP := Lib.hid (And.intro hups hpaths)
  cases hu : getK d.recs up with
  | none =>
    have he : T.create ⟨kind, path, data, acl, owner, number, err⟩ zxid = (T, []) := by unfold Tree.create; rw [if_pos (.inr (by show T.node (parentB path) = none; rw [hup, node_none hd hu]))]
    rw [he]
    have HG := Lib.hid (ptr_none hu)
    clear he hab hup hpl hpath hacl hxf hx hf h hd hT hu
    go_enter Tryz.func82, Tryz.ntmps82
    go_wp2_with (first
     | (go_at_call 115; refine (CP.out _).mono ?_; rintro e w2 ⟨rfl, hM2⟩; have c1 := hM2.cell c1 id; have t0 := hM2.cell t0 id)
     | (go_at_call 159; refine (CA.out _ (HS.out.1.then hM2 (fun _ _ h => h))).mono ?_; rintro e w3 ⟨rfl, hM3⟩; have t0 := hM3.cell t0 id; have HT3 := Lib.hid ((HT.out.mod hM2).mod hM3))
     | ((with_reducible refine at_list ?_); refine wpList_lookLG (B := kbP) mapNodes d.mb _ (HT3.out.mapL 2 rfl) rfl (zeroNp _) up rfl HUP.out.1 _ HG.out (by rfl) ?_))
    go_ret
    exact EvPost.nil ((HS.out.mod hM2).mod hM3).tail
  | some ru =>
    have hne : T.node up ≠ none := by rw [node_some hd hu]; simp
    have HN := Lib.hid (TD.nodup hT)
    have HD := Lib.hid hd
    have HG := Lib.hid (ptr_some hu)
    have hlen : (d.recs.map fun p => (p.1, p.2.ptr)).length < maxLen := by
     have := hf.many; rw [hd, List.length_map] at this; rw [List.length_map]; unfold maxLen; omega
    have HLEN := Lib.hid hlen
    have CC : Hid (∀ w', Mod (fun _ => False) w w' → Calls Tryz.prog 84 #[.slice aa an ac] w' (NewSl 46 2 (acl.flatMap ARow.cells) an w')) := Lib.hid fun w' hm => cloneAcl_any aa an ac (acl.flatMap ARow.cells) w' (hx.mod hm (fun _ _ h => h)) arow_one (by omega)
    have HW := Lib.hid (((Mod.refl (fun _ => False) w).alloc (.cells #[.int .i64 kind, .string path, .string data, .slice aa an ac, .int .i64 owner, .int .i64 number, .int .i64 err, .slice sa sn sc] 61)))
    have HE : Hid (T.create ⟨kind, path, data, acl, owner, number, err⟩ zxid = (({ T with nodes := putK T.nodes path ⟨data, acl, ⟨zxid, zxid, zxid, 0, 0, 0, owner⟩⟩ } : Tree).kid up number zxid, [⟨if (T.node path).isSome then 3 else 1, path, zxid⟩, ⟨4, up, zxid⟩])) := Lib.hid (by
     unfold Tree.create
     simp only [hup]
     rw [if_neg (by rintro (h | h); · rw [hab] at h; cases h
                    ·exact hne h)])
    obtain ⟨kv, hkv⟩ : ∃ kv : Int, (if (T.node path).isSome = true then (3 : Int) else 1) = kv := ⟨_, rfl⟩
    rw [hkv] at HE
    rw [HE.out]
    have HAN := Lib.hid han
    clear hup hpl hpath hacl hxf hx hf h hT hu hne hab hlen han HE hups hpaths
    cases hpp : getK d.recs path with
    | none =>
      have HK : Hid (kv = 1) := Lib.hid (by rw [← hkv, node_none hd hpp]; rfl)
      have HGP := Lib.hid (ptr_none hpp)
      clear hkv hd hpp
      go_enter Tryz.func82, Tryz.ntmps82
      go_upto_region 5 with (first
       | (go_at_call 115; refine (CP.out _).mono ?_; rintro e w2 ⟨rfl, hM2⟩; have c1 := hM2.cell c1 id; have t0 := hM2.cell t0 id)
       | (go_at_call 159; refine (CA.out _ (HS.out.1.then hM2 (fun _ _ h => h))).mono ?_; rintro e w3 ⟨rfl, hM3⟩; have t0 := hM3.cell t0 id; have HT3 := Lib.hid ((HT.out.mod hM2).mod hM3); have HW3 := Lib.hid ((HW.out.then hM2 (fun _ _ h => h)).then hM3 (fun _ _ h => h)))
       | ((with_reducible refine at_list ?_); refine wpList_lookLG (B := kbP) mapNodes d.mb _ (HT3.out.mapL 2 rfl) rfl (zeroNp _) up rfl HUP.out.1 _ HG.out (by rfl) ?_))
      clear c1 c2 c3 c4 c5 zb t0 zt HT HS CP CA HW
      have c1 := blk_cell (HT3.out.box 0 rfl) 1 _ rfl
      have t0 := blk_cell (HT3.out.box 1 rfl) 0 _ rfl
      have hlk := look_drewN (HT3.out.mapL 2 rfl) path HUP.out.2 _ HGP.out
      go_quiet (fail)
      clear hlk c1 t0
      go_upto_region 7 with (fail)
      have hT4 := HT3.out.drewN nq
      have hW4 := HW3.out.drewN nq
      generalize w3.drewN nq = w4 at hT4 hW4 ⊢
      clear HT3 HW3
      have HT4 := Lib.hid hT4
      have HW4 := Lib.hid hW4
      generalize w.heap.size = xb at HT4 ⊢
      have KP : Hid (∀ (w' : World) (G : List Thing), St w0 w' (bx xb #[.int .i64 kind, .string path, .string data, .slice aa an ac, .int .i64 owner, .int .i64 number, .int .i64 err, .slice sa sn sc] 61 :: bx tb #[.map (some d.mb), .map (some d.sb), .int .i64 T.zxid] 105 :: G) → w'.cell? ⟨tb, 0, none⟩ = some (.map (some d.mb)) ∧ w'.cell? ⟨xb, 1, none⟩ = some (.string path) ∧ w'.cell? ⟨xb, 2, none⟩ = some (.string data) ∧ w'.cell? ⟨xb, 3, none⟩ = some (.slice aa an ac) ∧ w'.cell? ⟨xb, 4, none⟩ = some (.int .i64 owner)) := Lib.hid fun w' G h => ⟨blk_cell (h.box 1 rfl) 0 _ rfl, blk_cell (h.box 0 rfl) 1 _ rfl, blk_cell (h.box 0 rfl) 2 _ rfl, blk_cell (h.box 0 rfl) 3 _ rfl, blk_cell (h.box 0 rfl) 4 _ rfl⟩
      have zt := heap_lt (HT4.out.box 1 rfl)
      have zb := heap_lt (HT4.out.box 0 rfl)
      clear hT4 hW4
      go_region_held3 (fun w' => w'.cell? ⟨tb, 0, none⟩ = some (.map (some d.mb)) ∧ w'.cell? ⟨xb, 1, none⟩ = some (.string path) ∧ w'.cell? ⟨xb, 2, none⟩ = some (.string data) ∧ w'.cell? ⟨xb, 3, none⟩ = some (.slice aa an ac) ∧ w'.cell? ⟨xb, 4, none⟩ = some (.int .i64 owner))
       (first | exact KP.out _ _ HT4.out | exact KP.out _ _ HT4.out.drew | exact KP.out _ _ HT5.out | exact KP.out _ _ (HT5.out.mod ((Mod.refl _ _).alloc _)) | exact KP.out _ _ HT6.out)
       (first
        | (go_at_call 84; refine (CC.out _ (by first | exact HW4.out | exact HW4.out.drew)).mono ?_; rintro e w5 ⟨a2, cap2, rfl, hs2, hf2, hM5⟩; have hT5 := HT4.out.drew.mod hM5; have HT5 := Lib.hid hT5; obtain ⟨w6, hPR, hm6, hM6⟩ := ((hT5.mapL 2 rfl).kept (w' := w5.alloc (.cells #[.string data, .slice a2 an cap2, .int .i64 zxid, .int .i64 zxid, .int .i64 zxid, .int .i64 0, .int .i64 0, .int .i64 0, .int .i64 owner, .int .i64 0, .int .i64 0] 169)) (Below.heap_alloc w5 _ _ (hT5.mapL 2 rfl).lt)).store mapNodes HLEN.out (x := path) HUP.out.2 (.pointer (some ⟨w5.heap.size, 0, none⟩)); rw [show kbP.inj path = Value.string path from rfl] at hPR; have hU := (((HT4.out.drew).newSlice hM5 hs2 hf2).box1 #[.string data, .slice a2 an cap2, .int .i64 zxid, .int .i64 zxid, .int .i64 zxid, .int .i64 0, .int .i64 0, .int .i64 0, .int .i64 owner, .int .i64 0, .int .i64 0] 169).remapL 4 rfl hm6 hM6; simp only [List.set_cons_succ, List.set_cons_zero] at hU; have HU := Lib.hid hU; have HT6 := Lib.hid hU.tail.tail; clear hT5 hm6 hM6 hU hM5 hs2 hf2))
      have h7 := ((((((HU.out.pick 6 rfl).pick 6 rfl).pick 6 rfl).pick 6 rfl).pick 5 rfl).pick 5 rfl)
      have h8 := St.putNode (T := T) (U := ({ T with nodes := putK T.nodes path ⟨data, acl, ⟨zxid, zxid, zxid, 0, 0, 0, owner⟩⟩ } : Tree)) (d := d) (p := path) (r := ⟨⟨data, acl, ⟨zxid, zxid, zxid, 0, 0, 0, owner⟩⟩, w5.heap.size, a2, cap2⟩) HD.out HN.out rfl rfl (by rw [← HAN.out] at h7; exact h7)
      have H8 := Lib.hid h8
      clear h7 h8 HU HT6 HT5 hPR KP CC HG HGP
      have c5 := blk_cell (H8.out.box 1 rfl) 5 (.int .i64 number) rfl
      have zb := heap_lt (H8.out.box 1 rfl)
      go_wp2_with (go_at_call 160; refine (kid_st tb _ H8.out up HUP.out.1 number zxid).mono ?_; rintro e w7 ⟨rfl, hS7⟩; have H7 := Lib.hid hS7; have c1 := blk_cell (hS7.box 1 rfl) 1 (.string path) rfl; have zb := heap_lt (hS7.box 1 rfl); clear hS7 c5)
      go_ret
      rw [HK.out]
      have h9 := (H7.out.slice1' #[.int .i64 1, .string path, .int .i64 zxid, .int .i64 4, .string up, .int .i64 zxid] 113 3 2 rfl (by unfold maxLen; omega))
      exact ⟨_, _, rfl, (h9.pick 2 rfl).tail⟩
    | some rp =>
      have HK : Hid (kv = 3) := Lib.hid (by rw [← hkv, node_some hd hpp]; rfl)
      have HGP := Lib.hid (ptr_some hpp)
      clear hkv hd hpp
      go_enter Tryz.func82, Tryz.ntmps82
      go_upto_region 5 with (first
       | (go_at_call 115; refine (CP.out _).mono ?_; rintro e w2 ⟨rfl, hM2⟩; have c1 := hM2.cell c1 id; have t0 := hM2.cell t0 id)
       | (go_at_call 159; refine (CA.out _ (HS.out.1.then hM2 (fun _ _ h => h))).mono ?_; rintro e w3 ⟨rfl, hM3⟩; have t0 := hM3.cell t0 id; have HT3 := Lib.hid ((HT.out.mod hM2).mod hM3); have HW3 := Lib.hid ((HW.out.then hM2 (fun _ _ h => h)).then hM3 (fun _ _ h => h)))
       | ((with_reducible refine at_list ?_); refine wpList_lookLG (B := kbP) mapNodes d.mb _ (HT3.out.mapL 2 rfl) rfl (zeroNp _) up rfl HUP.out.1 _ HG.out (by rfl) ?_))
      clear c1 c2 c3 c4 c5 zb t0 zt HT HS CP CA HW
      have c1 := blk_cell (HT3.out.box 0 rfl) 1 _ rfl
      have t0 := blk_cell (HT3.out.box 1 rfl) 0 _ rfl
      have hlk := look_drewN (HT3.out.mapL 2 rfl) path HUP.out.2 _ HGP.out
      go_quiet (fail)
      clear hlk c1 t0
      go_upto_region 7 with (fail)
      have hT4 := HT3.out.drewN nq
      have hW4 := HW3.out.drewN nq
      generalize w3.drewN nq = w4 at hT4 hW4 ⊢
      clear HT3 HW3
      have HT4 := Lib.hid hT4
      have HW4 := Lib.hid hW4
      generalize w.heap.size = xb at HT4 ⊢
      have KP : Hid (∀ (w' : World) (G : List Thing), St w0 w' (bx xb #[.int .i64 kind, .string path, .string data, .slice aa an ac, .int .i64 owner, .int .i64 number, .int .i64 err, .slice sa sn sc] 61 :: bx tb #[.map (some d.mb), .map (some d.sb), .int .i64 T.zxid] 105 :: G) → w'.cell? ⟨tb, 0, none⟩ = some (.map (some d.mb)) ∧ w'.cell? ⟨xb, 1, none⟩ = some (.string path) ∧ w'.cell? ⟨xb, 2, none⟩ = some (.string data) ∧ w'.cell? ⟨xb, 3, none⟩ = some (.slice aa an ac) ∧ w'.cell? ⟨xb, 4, none⟩ = some (.int .i64 owner)) := Lib.hid fun w' G h => ⟨blk_cell (h.box 1 rfl) 0 _ rfl, blk_cell (h.box 0 rfl) 1 _ rfl, blk_cell (h.box 0 rfl) 2 _ rfl, blk_cell (h.box 0 rfl) 3 _ rfl, blk_cell (h.box 0 rfl) 4 _ rfl⟩
      have zt := heap_lt (HT4.out.box 1 rfl)
      have zb := heap_lt (HT4.out.box 0 rfl)
      clear hT4 hW4
      go_region_held3 (fun w' => w'.cell? ⟨tb, 0, none⟩ = some (.map (some d.mb)) ∧ w'.cell? ⟨xb, 1, none⟩ = some (.string path) ∧ w'.cell? ⟨xb, 2, none⟩ = some (.string data) ∧ w'.cell? ⟨xb, 3, none⟩ = some (.slice aa an ac) ∧ w'.cell? ⟨xb, 4, none⟩ = some (.int .i64 owner))
       (first | exact KP.out _ _ HT4.out | exact KP.out _ _ HT4.out.drew | exact KP.out _ _ HT5.out | exact KP.out _ _ (HT5.out.mod ((Mod.refl _ _).alloc _)) | exact KP.out _ _ HT6.out)
       (first
        | (go_at_call 84; refine (CC.out _ (by first | exact HW4.out | exact HW4.out.drew)).mono ?_; rintro e w5 ⟨a2, cap2, rfl, hs2, hf2, hM5⟩; have hT5 := HT4.out.drew.mod hM5; have HT5 := Lib.hid hT5; obtain ⟨w6, hPR, hm6, hM6⟩ := ((hT5.mapL 2 rfl).kept (w' := w5.alloc (.cells #[.string data, .slice a2 an cap2, .int .i64 zxid, .int .i64 zxid, .int .i64 zxid, .int .i64 0, .int .i64 0, .int .i64 0, .int .i64 owner, .int .i64 0, .int .i64 0] 169)) (Below.heap_alloc w5 _ _ (hT5.mapL 2 rfl).lt)).store mapNodes HLEN.out (x := path) HUP.out.2 (.pointer (some ⟨w5.heap.size, 0, none⟩)); rw [show kbP.inj path = Value.string path from rfl] at hPR; have hU := (((HT4.out.drew).newSlice hM5 hs2 hf2).box1 #[.string data, .slice a2 an cap2, .int .i64 zxid, .int .i64 zxid, .int .i64 zxid, .int .i64 0, .int .i64 0, .int .i64 0, .int .i64 owner, .int .i64 0, .int .i64 0] 169).remapL 4 rfl hm6 hM6; simp only [List.set_cons_succ, List.set_cons_zero] at hU; have HU := Lib.hid hU; have HT6 := Lib.hid hU.tail.tail; clear hT5 hm6 hM6 hU hM5 hs2 hf2))
      have h7 := ((((((HU.out.pick 6 rfl).pick 6 rfl).pick 6 rfl).pick 6 rfl).pick 5 rfl).pick 5 rfl)
      have h8 := St.putNode (T := T) (U := ({ T with nodes := putK T.nodes path ⟨data, acl, ⟨zxid, zxid, zxid, 0, 0, 0, owner⟩⟩ } : Tree)) (d := d) (p := path) (r := ⟨⟨data, acl, ⟨zxid, zxid, zxid, 0, 0, 0, owner⟩⟩, w5.heap.size, a2, cap2⟩) HD.out HN.out rfl rfl (by rw [← HAN.out] at h7; exact h7)
      have H8 := Lib.hid h8
      clear h7 h8 HU HT6 HT5 hPR KP CC HG HGP
      have c5 := blk_cell (H8.out.box 1 rfl) 5 (.int .i64 number) rfl
      have zb := heap_lt (H8.out.box 1 rfl)
      go_wp2_with (go_at_call 160; refine (kid_st tb _ H8.out up HUP.out.1 number zxid).mono ?_; rintro e w7 ⟨rfl, hS7⟩; have H7 := Lib.hid hS7; have c1 := blk_cell (hS7.box 1 rfl) 1 (.string path) rfl; have zb := heap_lt (hS7.box 1 rfl); clear hS7 c5)
      go_ret
      rw [HK.out]
      have h9 := (H7.out.slice1' #[.int .i64 3, .string path, .int .i64 zxid, .int .i64 4, .string up, .int .i64 zxid] 113 3 2 rfl (by unfold maxLen; omega))
      exact ⟨_, _, rfl, (h9.pick 2 rfl).tail⟩
end Go.Proofs.YtonnbkebjeoflaaGreatDoor
namespace Go.Proofs.YtonnbkebjeoflaaGreatDoor
open Go.RowKit Go.Maps
def headB : ByteArray := ⟨(W.sevens (W.zig 0) ++ W.sevens 0).toArray⟩
theorem headB_size : headB.size = 2 := by
 show (W.sevens (W.zig 0) ++ W.sevens 0).toArray.size = 2
 rw [List.size_toArray, List.length_append]
 have h : (W.sevens 0).length = 1 := by rw [W.sevens_small (by omega)]; rfl
 have hz : W.zig 0 = 0 := by decide
 rw [hz, h]
set_option maxHeartbeats 4000000 in
theorem ahead_any {w0 w : World} {l : List Thing} (h : St w0 w l) :
 Calls Tryz.prog 49 #[.int .i64 0, .string ⟨#[]⟩] w (fun e w' => ∃ b, e = .returned (.slice (some ⟨b, 0, none⟩) 1 1) ∧ St w0 w' (bx b #[.string headB] 9 :: l)) := by
 have HN := Lib.hid (W.wnew_st h)
 have HF : Hid (W.bfits ((([] : List UInt8) ++ W.sevens (W.zig 0)).length + 10)) := Lib.hid (by
  have hz : W.zig 0 = 0 := by decide
  rw [List.nil_append, hz, W.sevens_small (by omega)]
  unfold W.bfits
  simp)
 clear h
 go_enter Tryz.func49, Tryz.ntmps49
 go_wp2_with (first
  | (go_at_call 98; refine HN.out.mono ?_; rintro e w1 ⟨pb, rfl, hS1⟩; have H1 := Lib.hid hS1; clear hS1 HN)
  | (go_at_call 99; refine (W.wnum_st H1.out 0 rfl 0 (by omega) (by unfold W.bfits; simp)).mono ?_; rintro e w2 ⟨rfl, hS2⟩; have H2 := Lib.hid hS2; clear hS2 H1)
  | (go_at_call 100; refine (W.wcount_st H2.out 0 rfl 0 (by omega) HF.out).mono ?_; rintro e w3 ⟨rfl, hS3⟩; have H3 := Lib.hid hS3; clear hS3 H2)
  | (go_at_call 101; refine (W.wbytes_st H3.out 0 rfl).mono ?_; rintro e w4 ⟨rfl, rfl⟩))
 have H4 := Lib.hid (H3.out.box1 #[.string headB] 9)
 go_loopg [1, 6] 0 (fun g y1 y6 wr => y1 = .string ⟨#[]⟩ ∧ y6 = .slice (some ⟨w3.heap.size, 0, none⟩) 1 1 ∧ St w0 wr (bx w3.heap.size #[.string headB] 9 :: l))
 case atStart => exact ⟨rfl, rfl, H4.out.sub ((List.sublist_cons_self _ _).cons_cons _)⟩
 case round =>
  clear H4 H3
  obtain ⟨rfl, rfl, hS⟩ := hrel
  have HS := Lib.hid hS
  clear hS
  go_wp2
  go_ret
  exact ⟨_, rfl, HS.out⟩
def e5 : W.Ent := ⟨5, 0, 0, ⟨0, ⟨#[]⟩, ⟨#[]⟩, [], none, 0, 0, 0, 0, none, 0, 0⟩, []⟩
def e5S : ByteArray := ⟨(W.Ent.bytes e5).toArray⟩
theorem e5_len : e5.bytes.length ≤ 500 := of_decide_eq_true (by kernel_rfl)
theorem e5_size : e5S.size ≤ 500 := by
 show (W.Ent.bytes e5).toArray.size ≤ 500
 rw [List.size_toArray]
 exact e5_len
theorem e5_ok (w : World) : e5.ok w := ⟨by unfold W.i64 e5; simp, by unfold W.i64 e5; simp, by unfold W.i64 e5; simp, ⟨by unfold W.i64 e5; simp, by unfold W.i64 e5; simp, by unfold W.i64 e5; simp, by unfold W.i64 e5; simp, Rd.nil w 2, fun a ha => (by cases ha)⟩, rfl, Rd.nil w 8, fun a ha => (by cases ha)⟩
theorem e5_laid : e5.laid := W.Ent.laid_of (e5_ok (default : World)) (by have := e5_len; omega)
theorem e5_good : e5.goodW := ⟨⟨trivial, ⟨⟨⟨trivial, by decide⟩, by decide⟩, ⟨by decide, fun a ha => (by cases ha)⟩⟩, trivial⟩, ⟨by decide, fun a ha => (by cases ha)⟩⟩
theorem e5_reads : (W.rend e5S.data.toList (W.qEnt e5S.data.toList ⟨0, 0⟩)).wr = 0 := by
 have h : e5S.data.toList = W.Ent.bytes e5 := by unfold e5S; simp
 rw [h]
 exact W.ent_reads e5_laid e5_good
set_option maxHeartbeats 2000000 in
theorem idxTxn0 (w : World) : Calls Tryz.prog 178 #[.slice none 0 0, .func (.func 106) #[] #[]] w (fun e w' => e = .returned (.int .i64 (-1)) ∧ w' = w) := by
 go_enter Tryz.func178, Tryz.ntmps178
 go_wp2
 go_loopg [8] 0 (fun g y wr => y = .int .i64 0 ∧ wr = w)
 case atStart => exact ⟨rfl, rfl⟩
 case round =>
  obtain ⟨rfl, rfl⟩ := hrel
  go_wp2
  go_ret
  exact ⟨rfl, rfl⟩
theorem containsTxn0 (w : World) : Calls Tryz.prog 105 #[.slice none 0 0, .func (.func 106) #[] #[]] w (fun e w' => e = .returned (.bool false) ∧ w' = w) := by
 have CI := Lib.hid (fun w => idxTxn0 w)
 go_enter Tryz.func105, Tryz.ntmps105
 go_wp2_with (go_at_call 178; refine (CI.out _).mono ?_; rintro e w1 ⟨rfl, rfl⟩)
 go_ret
 exact ⟨rfl, rfl⟩
set_option maxHeartbeats 4000000 in
theorem laid5_st {w0 w : World} {l : List Thing} (h : St w0 w l) :
 Calls Tryz.prog 52 #[.agg #[.int .i64 5, .int .i64 0, .int .i64 0, .int .i64 0, .string ⟨#[]⟩, .string ⟨#[]⟩, .slice none 0 0, .int .i64 0, .int .i64 0, .int .i64 0, .slice none 0 0]] w (StPost (.tuple #[.string e5S, .bool true]) w0 l) := by
 have HS := Lib.hid (h.box1 #[.int .i64 5, .int .i64 0, .int .i64 0, .int .i64 0, .string ⟨#[]⟩, .string ⟨#[]⟩, .slice none 0 0, .int .i64 0, .int .i64 0, .int .i64 0, .slice none 0 0] 63)
 have CC := Lib.hid (fun w => containsTxn0 w)
 have CP : Hid (∀ w', Calls Tryz.prog 38 #[.agg #[.int .i64 5, .int .i64 0, .int .i64 0, .int .i64 0, .string ⟨#[]⟩, .string ⟨#[]⟩, .slice none 0 0, .int .i64 0, .int .i64 0, .int .i64 0, .slice none 0 0]] w' (fun e w2 => e = .returned (.string e5S) ∧ Mod (fun _ => False) w' w2)) := Lib.hid (fun w' => W.PutEntry_any e5 w' (e5_ok w') (by have := e5_len; unfold W.bfits; omega))
 have CG : Hid (∀ w' G, St w0 w' G → Calls Tryz.prog 37 #[.string e5S] w' (W.GetG W.Ent.cells W.Ent.fine W.Ent.things (W.qEnt e5S.data.toList) W.Ent.bytes W.Ent.zero e5S w0 G)) := Lib.hid (fun w' G h' => W.GetEntry_st e5S (by have := e5_size; unfold W.bfits; omega) h')
 have c10 := blk_cell (HS.out.box 0 rfl) 10 (.slice none 0 0) rfl
 have zb := heap_lt (HS.out.box 0 rfl)
 have HC : Hid (∀ j u, ([.int .i64 5, .int .i64 0, .int .i64 0, .int .i64 0, .string ⟨#[]⟩, .string ⟨#[]⟩, .slice none 0 0, .int .i64 0, .int .i64 0, .int .i64 0, .slice none 0 0] : List Value)[j]? = some u → (w.alloc (.cells #[.int .i64 5, .int .i64 0, .int .i64 0, .int .i64 0, .string ⟨#[]⟩, .string ⟨#[]⟩, .slice none 0 0, .int .i64 0, .int .i64 0, .int .i64 0, .slice none 0 0] 63)).cell? ((⟨w.heap.size, 0, none⟩ : Addr).add j) = some u) := Lib.hid (fun j u hj => by rw [add_none, Nat.zero_add]; exact blk_cell (HS.out.box 0 rfl) j u (by rw [← hj]; exact List.getElem?_toArray))
 clear h
 go_enter Tryz.func52, Tryz.ntmps52
 go_wp2_with (first
  | (go_at_call 105; refine (CC.out _).mono ?_; rintro e w1 ⟨rfl, rfl⟩)
  | ((with_reducible refine at_list ?_); refine wpList_load_chunk 11 _ Tryz.underlying63 rfl W.sizeEnt ⟨w.heap.size, 0, none⟩ rfl ([.int .i64 5, .int .i64 0, .int .i64 0, .int .i64 0, .string ⟨#[]⟩, .string ⟨#[]⟩, .slice none 0 0, .int .i64 0, .int .i64 0, .int .i64 0, .slice none 0 0] : List Value) rfl HC.out ?_)
  | (go_at_call 38; refine (CP.out _).mono ?_; rintro e w2 ⟨rfl, hM2⟩; have H2 := Lib.hid (HS.out.mod hM2); clear hM2)
  | (go_at_call 37; refine (CG.out _ _ H2.out).mono ?_; rintro e w3 ⟨v, E, rfl, hv, hS3⟩; have hE : E = 0 := (by rcases hv.out.2 with ⟨h, _⟩ | ⟨_, h, _⟩; exact h; exact absurd e5_reads h); subst hE; have H3 := Lib.hid (hS3.box1 #[.int .i64 0, .int .i64 0, .int .i64 0, .int .i64 0, .string ⟨#[]⟩, .string ⟨#[]⟩, .slice none 0 0, .int .i64 0, .int .i64 0, .int .i64 0, .slice none 0 0] 63); clear hv hS3)
  | ((with_reducible refine at_list ?_); refine wpList_store_whole 11 W.sizeEnt w3.heap.size rfl _ _ (H3.out.box 0 rfl) rfl (W.Ent.cells v) rfl rfl rfl ?_; intro w4 hg4 hM4 hz4; have H4 := Lib.hid (H3.out.rebox 0 rfl hg4 hM4); clear hg4 hM4 hz4))
 refine bodyPost_ret (results_tmp2 rfl _ _ _) rfl ?_
 exact ⟨rfl, H4.out.tail.tail.tail⟩
end Go.Proofs.YtonnbkebjeoflaaGreatDoor
namespace Go.Proofs.YtonnbkebjeoflaaGreatDoor
open Go.RowKit Go.Maps
structure DkD where
 b : Nat
 cs : List Value
 ob : Nat
 M : List (Int × Value)
 acts : Int
structure DkD.ok (d : DkD) (n m : Nat) : Prop where
 few : d.M.length ≤ m
 vals : ∀ q ∈ d.M, ∃ cs : List Value, q.2 = .agg cs.toArray ∧ cs.length = 64 ∧ cs.all (·.oneCell') = true
 len : d.cs.length = n * 64
 one : ∀ u ∈ d.cs, u.oneCell' = true
noncomputable def DkD.things (d : DkD) (db n : Nat) : List Thing := [bx db #[.slice (some ⟨d.b, 0, none⟩) n n, .map (some d.ob), .int .i64 d.acts, .int .i64 0, .bool false] 119, bx d.b d.cs.toArray 269, mpl kbI d.ob d.M]
noncomputable def dsk (db n m : Nat) : Thing := some1 fun d : DkD => grp (pr (d.ok n m) :: d.things db n)
theorem St.openD {w0 w : World} {db n m : Nat} {l : List Thing} (h : St w0 w (dsk db n m :: l)) : ∃ d : DkD, d.ok n m ∧ St w0 w (d.things db n ++ l) := by
 obtain ⟨d, h⟩ := h.tell
 have h := h.ungrp
 exact ⟨d, h.pure, h.tail⟩
theorem St.shutD {w0 w : World} {db n m : Nat} {l : List Thing} (d : DkD) (hd : d.ok n m) (h : St w0 w (d.things db n ++ l)) : St w0 w (dsk db n m :: l) :=
 St.untell d (St.regrp (_ :: d.things db n) (h.told hd))
theorem grown_none {w w' : World} (hb : w.grownBy w' none) : Mod (fun _ => False) w w' := ⟨hb.os, hb.tape, hb.output, hb.size, fun x hx _ => hb.block x hx (by simp)⟩
theorem zeroSec : ∃ i z, Tryz.prog.info? 269 = some i ∧ i.zero = some z ∧ i.size = 64 ∧ i.bytes = 64 ∧ z.cells.size = 64 ∧ z.cells.toList.all (·.oneCell') = true := by
 have h : (Tryz.prog.info? 269).map (fun i => (i.zero.map (fun z => (z.cells.size, z.cells.toList.all (·.oneCell'))), i.size, i.bytes)) = some (some (64, true), 64, 64) := by kernel_rfl
 cases hi : Tryz.prog.info? 269 with
 | none => rw [hi] at h; simp at h
 | some i =>
   rw [hi] at h
   simp only [Option.map_some, Option.some.injEq, Prod.mk.injEq] at h
   obtain ⟨hz, hs, hb⟩ := h
   cases hzz : i.zero with
   | none => rw [hzz] at hz; simp at hz
   | some z =>
     rw [hzz] at hz
     simp only [Option.map_some, Option.some.injEq, Prod.mk.injEq] at hz
     exact ⟨i, z, rfl, hzz, hs, hb, hz.1, hz.2⟩
theorem mem_madeCells {z : Array Value} {n : Nat} {u : Value} (h : u ∈ (madeCells z n).toList) (h0 : 0 < z.size) : u ∈ z.toList := by
 simp only [madeCells, Array.toList_map, List.mem_map] at h
 obtain ⟨i, _, rfl⟩ := h
 have hi : i % z.size < z.size := Nat.mod_lt _ h0
 rw [getElem!_pos z (i % z.size) hi]
 exact Array.getElem_mem_toList hi
theorem ownsRow_full {w : World} {base E k g n : Nat} {xs : List Value} (h : w.ownsRow base E k (.slice (some ⟨g, 0, none⟩) n n) n xs) : w.heap[g]? = some (.cells xs.toArray E (0, 0)) ∧ base ≤ g ∧ xs.length = n * k := by
 obtain ⟨hl, ⟨h0, _⟩ | ⟨g', cap, cur, he, hb, hg, h3, h4, h5, h6⟩⟩ := h
 ·cases h0
 ·simp only [Value.slice.injEq, Option.some.injEq, Addr.mk.injEq] at he
  obtain ⟨⟨rfl, _⟩, _, rfl⟩ := he
  rw [List.take_of_length_le (by rw [Array.length_toList, h5]; exact Nat.le_refl _)] at h6
  rw [← h6]
  exact ⟨hg, hb, by rw [Array.length_toList, h5]⟩
theorem St.newD {w0 w : World} {l : List Thing} {db b ob n : Nat} {cs : List Value} (hl : cs.length = n * 64) (h1 : ∀ u ∈ cs, u.oneCell' = true)
 (h : St w0 w (bx db #[.slice (some ⟨b, 0, none⟩) n n, .map (some ob), .int .i64 0, .int .i64 0, .bool false] 119 :: bx b cs.toArray 269 :: mpl kbI ob [] :: l)) : St w0 w (dsk db n 0 :: l) :=
 St.shutD ⟨b, cs, ob, [], 0⟩ ⟨Nat.le_refl _, fun q hq => (by cases hq), hl, h1⟩ h
set_option maxHeartbeats 4000000 in
theorem dnew_any (w : World) : Calls Tryz.prog 24 #[.int .i64 64] w (fun e w' => ∃ db, e = .returned (.tuple #[.pointer (some ⟨db, 0, none⟩), .int .i64 0]) ∧ St w w' [dsk db 64 0]) := by
 obtain ⟨ip, iz, hi1, hi2, hi3, hi4, hi5, hi6⟩ := zeroSec
 have HI := Lib.hid (And.intro hi1 (And.intro hi2 (And.intro hi3 (And.intro hi4 (And.intro hi5 hi6)))))
 clear hi1 hi2 hi3 hi4 hi5 hi6
 have hmm := @run_makeMap Tryz.prog
 go_enter Tryz.func24, Tryz.ntmps24
 go_wp2_with ((at_make; refine wpList_make_full _ rfl _ _ 116 rfl w.heap.size 269 ip iz 64 Tryz.underlying116 HI.out.1 HI.out.2.1 HI.out.2.2.1 .i64 .i64 64 64 64 rfl rfl rfl rfl (by rw [HI.out.2.2.2.1]; omega) (by unfold maxLen; omega) (Nat.le_refl _) ?_); intro w1 hrow1 hgr1; have HR1 := Lib.hid (And.intro hrow1 hgr1); clear hrow1 hgr1)
 refine bodyPost_ret (results_tmp2 rfl _ _ _) rfl ?_
 obtain ⟨hg, hb, hl⟩ := ownsRow_full HR1.out.1
 have hone : ∀ u ∈ (madeCells iz.cells (64 * 64)).toList, u.oneCell' = true := fun u hu => List.all_eq_true.1 HI.out.2.2.2.2.2 u (mem_madeCells hu (by rw [HI.out.2.2.2.2.1]; omega))
 have hM := grown_none HR1.out.2
 clear HR1
 generalize (madeCells iz.cells (64 * 64)).toList = cs at hg hl hone
 have h7 : St w w1 [bx w.heap.size cs.toArray 269] := (St.start w).cons (F := fun x => x = w.heap.size) hM ⟨hg, fun _ => Iff.rfl⟩ (fun x hx => by rw [hx]; exact Nat.le_refl _)
 have h1 := (h7.mapNew kbI).box1 #[.slice (some ⟨w.heap.size, 0, none⟩) 64 64, .map (some w1.heap.size), .int .i64 0, .int .i64 0, .bool false] 119
 have h2 := h1.perm (List.Perm.cons _ (List.Perm.swap _ _ _))
 simp only [World.size_alloc] at h2
 exact ⟨_, rfl, St.newD hl hone h2⟩
end Go.Proofs.YtonnbkebjeoflaaGreatDoor
