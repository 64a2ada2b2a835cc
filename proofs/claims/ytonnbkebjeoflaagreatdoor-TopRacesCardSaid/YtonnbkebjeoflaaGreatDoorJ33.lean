/-
  Contracts and plain laws of TreeQ.
  Conditions: each law states its own.
-/
import Derived.Test.YtonnbkebjeoflaaGreatDoorJ18
set_option linter.unusedSectionVars false
set_option linter.unusedSimpArgs false
set_option linter.unusedVariables false
set_option maxRecDepth 100000
namespace Go.Proofs.YtonnbkebjeoflaaGreatDoor
open Go.RowKit Go.Maps
structure EnR where
 zxid : Int
 session : Int
 xid : Int
 r : TxR
 subs : List TxR
def EnR.cells (e : EnR) : List Value := [.int .i64 e.zxid, .int .i64 e.session, .int .i64 e.xid] ++ e.r.cells
structure EnR.ok (e : EnR) (w : World) : Prop where
 r : e.r.ok w
 rd : Rd w 8 e.r.sa e.r.sn e.r.sc (e.subs.flatMap TxR.cells)
 all : ∀ s ∈ e.subs, s.ok w
structure EnR.fit (e : EnR) : Prop where
 n : e.subs.length = e.r.sn
 few : e.subs.length ≤ 1000
 r : e.r.x.fit
 all : ∀ s ∈ e.subs, s.x.fit
 owner : okInt e.r.x.owner
def EnR.subsX (e : EnR) : List Tx := e.subs.map TxR.x
def ApPost (R : Tree × List Evt × Int) (w0 : World) (tb : Nat) (l : List Thing) (e : Ending) (w' : World) : Prop :=
 ∃ (a : Option Addr) (cap : Nat), e = .returned (.tuple #[.slice a R.2.1.length cap, .int .i64 R.2.2]) ∧ St w0 w' (sl 113 3 a R.2.1.length cap (R.2.1.flatMap Evt.cells) :: tre tb R.1 :: l)
theorem ApPost.nil {T : Tree} {er : Int} {w0 w' : World} {tb : Nat} {l : List Thing} (h : St w0 w' (tre tb T :: l)) : ApPost (T, [], er) w0 tb l (.returned (.tuple #[.slice none 0 0, .int .i64 er])) w' := ⟨none, 0, rfl, h.nilSlice _ _⟩
theorem box_from {w : World} {pb : Nat} {T : TypeId} (pre cs : List Value) (h : w.heap[pb]? = some (.cells (pre ++ cs).toArray T (0, 0))) : ∀ j u, cs[j]? = some u → w.cell? ((⟨pb, pre.length, none⟩ : Addr).add j) = some u := by
 intro j u hj
 rw [add_none]
 refine blk_cell h _ u ?_
 rw [List.getElem?_toArray, List.getElem?_append_right (by omega), Nat.add_sub_cancel_left]
 exact hj
theorem evt_one {l : List Evt} : ∀ u ∈ l.flatMap Evt.cells, u.oneCell' = true := by
 intro u hu
 obtain ⟨x, _, hx⟩ := List.mem_flatMap.1 hu
 simp only [Evt.cells, List.mem_cons, List.not_mem_nil, or_false] at hx
 rcases hx with rfl | rfl | rfl <;> rfl
theorem St.zxid {w0 w : World} {tb : Nat} {T : Tree} {l : List Thing} (d : TD) (hd : T.nodes = d.recs.map fun p => (p.1, p.2.nd)) (z : Int) {y x : Thing}
 (h : St w0 w (y :: x :: bx tb #[.map (some d.mb), .map (some d.sb), .int .i64 z] 105 :: mpl kbP d.mb (d.recs.map fun p => (p.1, p.2.ptr)) :: mpl kbI d.sb (T.sessions.map fun p => (p.1, p.2.val)) :: grp (d.recs.map fun p => p.2.own) :: l)) : St w0 w (tre tb { T with zxid := z } :: y :: x :: l) := by
 have h1 := ((((h.pick 5 rfl).pick 5 rfl).pick 5 rfl).pick 5 rfl)
 exact St.shutTree d hd h1
theorem St.shutSess {w0 w : World} {tb : Nat} {T : Tree} {l : List Thing} (d : TD) (hd : T.nodes = d.recs.map fun p => (p.1, p.2.nd)) (ss : List (Int × Hd))
 (h : St w0 w (bx tb #[.map (some d.mb), .map (some d.sb), .int .i64 T.zxid] 105 :: mpl kbP d.mb (d.recs.map fun p => (p.1, p.2.ptr)) :: mpl kbI d.sb (ss.map fun p => (p.1, p.2.val)) :: grp (d.recs.map fun p => p.2.own) :: l)) : St w0 w (tre tb { T with sessions := ss } :: l) :=
 St.shutTree d (T := { T with sessions := ss }) hd h
def uptoT (sel : TxR → Bool) (subs : List TxR) (k : Nat) : List Tx := ((subs.take k).filter sel).map TxR.x
theorem uptoT_zero (sel : TxR → Bool) (subs : List TxR) : uptoT sel subs 0 = [] := by simp [uptoT]
theorem uptoT_step (sel : TxR → Bool) {subs : List TxR} {k : Nat} {t : TxR} (h : subs[k]? = some t) : uptoT sel subs (k + 1) = if sel t then uptoT sel subs k ++ [t.x] else uptoT sel subs k := by
 unfold uptoT
 rw [take_snoc' h, List.filter_append]
 by_cases hs : sel t = true
 ·rw [if_pos hs]; simp [hs]
 ·rw [if_neg hs]; simp [hs]
theorem uptoT_len (sel : TxR → Bool) (subs : List TxR) (k : Nat) : (uptoT sel subs k).length ≤ subs.length := by
 unfold uptoT
 rw [List.length_map]
 exact Nat.le_trans (List.length_filter_le _ _) (by rw [List.length_take]; omega)
theorem uptoT_mem {sel : TxR → Bool} {subs : List TxR} {k : Nat} {x : Tx} (h : x ∈ uptoT sel subs k) : ∃ t ∈ subs, t.x = x := by
 unfold uptoT at h
 obtain ⟨t, ht, rfl⟩ := List.mem_map.1 h
 exact ⟨t, List.mem_of_mem_take (List.mem_filter.1 ht).1, rfl⟩
theorem uptoT_all (sel : TxR → Bool) (subs : List TxR) (k : Nat) (h : subs.length ≤ k) : uptoT sel subs k = (subs.filter sel).map TxR.x := by unfold uptoT; rw [List.take_of_length_le h]
theorem uptoT_room {T : Tree} {subs : List TxR} (sel : TxR → Bool) (k : Nat) {z : Int} (h : T.room (2 * subs.length + 2)) (hx : ∀ s ∈ subs, s.x.fit) : (T.parts (uptoT sel subs k) z).1.room 2 ∧ (T.parts (uptoT sel subs k) z).2.length ≤ 2 * subs.length := by
 have hl := uptoT_len sel subs k
 have := parts_room (k := 2) (z := z) (l := uptoT sel subs k) (h.le (by omega)) (fun x hm => by obtain ⟨t, ht, rfl⟩ := uptoT_mem hm; exact hx t ht)
 exact ⟨this.1, by omega⟩
set_option maxHeartbeats 16000000 in
theorem apply_st {w0 w : World} {l : List Thing} (tb : Nat) (T : Tree) (h : St w0 w (tre tb T :: l)) (E : EnR) (hf : T.room (2 * E.subs.length + 2)) (hss : T.sessions.length < 1000000) (hr : Rdy w0) (hin : ∀ w', St w0 w' l → E.ok w') (hxf : E.fit) :
 Calls Tryz.prog 16 #[.pointer (some ⟨tb, 0, none⟩), .agg E.cells.toArray] w (ApPost (T.apply E.zxid E.r.x E.subsX) w0 tb l) := by
 have HIN := Lib.hid hin
 have HXF := Lib.hid hxf
 have HRM := Lib.hid hf
 have HRD := Lib.hid hr
 have HSS := Lib.hid hss
 have hR : T.apply E.zxid E.r.x E.subsX = ({ T with zxid := E.zxid } : Tree).apply E.zxid E.r.x E.subsX := rfl
 rw [hR]
 have hrm : ({ T with zxid := E.zxid } : Tree).room (2 * E.subs.length + 2) := ⟨hf.many, hf.path, hf.acl, hf.data⟩
 have HRM := Lib.hid hrm
 obtain ⟨zxid, session, xid, r, subs⟩ := E
 obtain ⟨x, aa, ac, sa, sn, sc⟩ := r
 obtain ⟨kind, path, data, acl, owner, number, err⟩ := x
 simp only [EnR.cells, TxR.cells, List.cons_append, List.nil_append] at *
 obtain ⟨d, hd, hT⟩ := h.openTree
 have HD := Lib.hid hd
 have hB := hT.box1 #[.int .i64 zxid, .int .i64 session, .int .i64 xid, .int .i64 kind, .string path, .string data, .slice aa acl.length ac, .int .i64 owner, .int .i64 number, .int .i64 err, .slice sa sn sc] 63
 have HB := Lib.hid hB
 have HC3 : Hid (∀ j u, (TxR.cells ⟨⟨kind, path, data, acl, owner, number, err⟩, aa, ac, sa, sn, sc⟩)[j]? = some u → (w.alloc (.cells #[.int .i64 zxid, .int .i64 session, .int .i64 xid, .int .i64 kind, .string path, .string data, .slice aa acl.length ac, .int .i64 owner, .int .i64 number, .int .i64 err, .slice sa sn sc] 63)).cell? ((⟨w.heap.size, 3, none⟩ : Addr).add j) = some u) := Lib.hid (box_from [.int .i64 zxid, .int .i64 session, .int .i64 xid] _ (hB.box 0 rfl))
 have c0 := blk_cell (hB.box 0 rfl) 0 (.int .i64 zxid) rfl
 have z0 := heap_lt (hB.box 0 rfl)
 have t2 := blk_cell (hB.box 1 rfl) 2 _ rfl
 have ft := blk_free (hB.box 1 rfl) 2
 have zt := heap_lt (hB.box 1 rfl)
 clear h hT hd hB hin hxf hf hr hss hR hrm
 have HX := Lib.hid (And.intro HXF.out HSS.out)
 obtain ⟨T0, hT0⟩ : ∃ T0 : Tree, ({ T with zxid := zxid } : Tree) = T0 := ⟨_, rfl⟩
 rw [hT0] at HRM ⊢
 have hss0 : T0.sessions.length < 1000000 := by rw [← hT0]; exact HSS.out
 have HSS := Lib.hid hss0
 have HT0 := Lib.hid hT0
 clear hss0 hT0
 have HTT : Hid (({ T0 with zxid := zxid } : Tree) = T0) := Lib.hid (by rw [← HT0.out])
 by_cases h5 : kind = 5
 ·subst h5
  have ho := HXF.out.owner
  simp only at ho
  by_cases hp : 0 < owner
  ·have he : T0.apply zxid ⟨5, path, data, acl, owner, number, err⟩ (EnR.subsX ⟨zxid, session, xid, ⟨⟨5, path, data, acl, owner, number, err⟩, aa, ac, sa, sn, sc⟩, subs⟩) = ({ T0 with sessions := putK T0.sessions owner ⟨number, data⟩ }, [], 0) := by
    unfold Tree.apply
    rw [if_pos rfl, if_pos hp, HTT.out]
   rw [he]
   have HO := Lib.hid ho
   clear he ho
   go_enter Tryz.func16, Tryz.ntmps16
   go_upto_region 4 with (first
    | ((with_reducible refine at_list ?_); refine wpList_load_chunk 8 _ Tryz.underlying61 rfl sizeTxnT ⟨w.heap.size, 3, none⟩ rfl (TxR.cells ⟨⟨5, path, data, acl, owner, number, err⟩, aa, ac, sa, sn, sc⟩) rfl HC3.out ?_; have HB1 := Lib.hid (HB.out.box1 #[.int .i64 0, .string ⟨#[]⟩, .string ⟨#[]⟩, .slice none 0 0, .int .i64 0, .int .i64 0, .int .i64 0, .slice none 0 0] 61))
    | ((with_reducible refine at_list ?_); refine wpList_store_whole 8 sizeTxnT (w.heap.size + 1) rfl _ _ (by have := HB1.out.box 0 rfl; rw [World.size_alloc] at this; exact this) rfl (TxR.cells ⟨⟨5, path, data, acl, owner, number, err⟩, aa, ac, sa, sn, sc⟩) rfl rfl rfl ?_; intro w2 hg2 hM2 hz2; have hS := HB1.out.rebox 0 rfl (by rw [World.size_alloc]; exact hg2) (by rw [World.size_alloc]; exact hM2); rw [World.size_alloc] at hS; have HS2 := Lib.hid hS; have c0 := blk_cell (hS.box 1 rfl) 0 (.int .i64 zxid) rfl; have z0 := heap_lt (hS.box 1 rfl); have t2 := blk_cell (hS.box 2 rfl) 2 (.int .i64 T.zxid) rfl; have ft := blk_free (hS.box 2 rfl) 2; have zt := heap_lt (hS.box 2 rfl); clear hg2 hM2 hz2 hS HB1))
   have hS3 := HS2.out.set 2 rfl 2 (.int .i64 zxid)
   simp only [List.set_cons_succ, List.set_cons_zero] at hS3
   have hT3 := St.zxid d HD.out zxid hS3
   rw [HT0.out] at hT3
   have HT3 : Hid (St w0 (w2.setCell ⟨tb, 2, none⟩ (.int .i64 zxid)) (tre tb T0 :: bx (w.heap.size + 1) (TxR.cells ⟨⟨5, path, data, acl, owner, number, err⟩, aa, ac, sa, sn, sc⟩).toArray 61 :: bx w.heap.size #[.int .i64 zxid, .int .i64 session, .int .i64 xid, .int .i64 5, .string path, .string data, .slice aa acl.length ac, .int .i64 owner, .int .i64 number, .int .i64 err, .slice sa sn sc] 63 :: l)) := Lib.hid hT3
   clear hS3 hT3 HS2 c0 z0 t2 ft zt HB HC3
   generalize w2.setCell ⟨tb, 2, none⟩ (.int .i64 zxid) = w3 at HT3 ⊢
   generalize w.heap.size + 1 = yb at HT3 ⊢
   generalize w.heap.size = xb at HT3 ⊢
   have y0 := blk_cell (HT3.out.box 1 rfl) 0 (.int .i64 5) rfl
   have zy := heap_lt (HT3.out.box 1 rfl)
   have y4 := blk_cell (HT3.out.box 1 rfl) 4 (.int .i64 owner) rfl
   go_upto_region 8 with (fail)
   obtain ⟨d2, hd2, hT4⟩ := HT3.out.openTree
   have HD2 := Lib.hid hd2
   have HT4 := Lib.hid hT4
   have KP : Hid (∀ (w' : World) (A B C : Thing) (G : List Thing), St w0 w' (bx tb #[.map (some d2.mb), .map (some d2.sb), .int .i64 T0.zxid] 105 :: A :: B :: C :: bx yb (TxR.cells ⟨⟨5, path, data, acl, owner, number, err⟩, aa, ac, sa, sn, sc⟩).toArray 61 :: G) → w'.cell? ⟨tb, 1, none⟩ = some (.map (some d2.sb)) ∧ w'.cell? ⟨yb, 2, none⟩ = some (.string data) ∧ w'.cell? ⟨yb, 4, none⟩ = some (.int .i64 owner) ∧ w'.cell? ⟨yb, 5, none⟩ = some (.int .i64 number)) := Lib.hid fun w' A B C G h => ⟨blk_cell (h.box 0 rfl) 1 _ rfl, blk_cell (h.box 4 rfl) 2 _ rfl, blk_cell (h.box 4 rfl) 4 _ rfl, blk_cell (h.box 4 rfl) 5 _ rfl⟩
   have zt := heap_lt (hT4.box 0 rfl)
   obtain ⟨w6, hPR, hm6, hM6⟩ := (hT4.drew.mapL 2 rfl).store mapSess (by rw [List.length_map]; have := HSS.out; unfold maxLen; omega) (x := owner) HO.out (.agg #[.int .i64 number, .string data])
   rw [show kbI.inj owner = Value.int .i64 owner from rfl] at hPR
   have hT6 := HT4.out.drew.remapL 2 rfl hm6 hM6
   simp only [List.set_cons_succ, List.set_cons_zero] at hT6
   have HT6 := Lib.hid hT6
   clear hd2 hT4 hm6 hM6 hT6 y4 y0
   go_region_held3 (fun w' => w'.cell? ⟨tb, 1, none⟩ = some (.map (some d2.sb)) ∧ w'.cell? ⟨yb, 2, none⟩ = some (.string data) ∧ w'.cell? ⟨yb, 4, none⟩ = some (.int .i64 owner) ∧ w'.cell? ⟨yb, 5, none⟩ = some (.int .i64 number))
    (first | exact KP.out _ _ _ _ _ HT4.out.drew | exact KP.out _ _ _ _ _ HT6.out)
    (fail)
   have h8 := HT6.out
   rw [show (Value.agg #[.int .i64 number, .string data]) = Hd.val ⟨number, data⟩ from rfl, putK_map Hd.val T0.sessions owner ⟨number, data⟩] at h8
   have H9 := Lib.hid (St.shutSess d2 HD2.out _ h8)
   clear h8 HT6 HT4 KP hPR
   go_wp2
   go_ret2
   exact ApPost.nil ((H9.out.pick 1 rfl).tail.pick 1 rfl).tail
  ·have he : T0.apply zxid ⟨5, path, data, acl, owner, number, err⟩ (EnR.subsX ⟨zxid, session, xid, ⟨⟨5, path, data, acl, owner, number, err⟩, aa, ac, sa, sn, sc⟩, subs⟩) = (T0, [], 0) := by
    unfold Tree.apply
    rw [if_pos rfl, if_neg hp, HTT.out]
   rw [he]
   clear he ho
   go_enter Tryz.func16, Tryz.ntmps16
   go_upto_region 4 with (first
    | ((with_reducible refine at_list ?_); refine wpList_load_chunk 8 _ Tryz.underlying61 rfl sizeTxnT ⟨w.heap.size, 3, none⟩ rfl (TxR.cells ⟨⟨5, path, data, acl, owner, number, err⟩, aa, ac, sa, sn, sc⟩) rfl HC3.out ?_; have HB1 := Lib.hid (HB.out.box1 #[.int .i64 0, .string ⟨#[]⟩, .string ⟨#[]⟩, .slice none 0 0, .int .i64 0, .int .i64 0, .int .i64 0, .slice none 0 0] 61))
    | ((with_reducible refine at_list ?_); refine wpList_store_whole 8 sizeTxnT (w.heap.size + 1) rfl _ _ (by have := HB1.out.box 0 rfl; rw [World.size_alloc] at this; exact this) rfl (TxR.cells ⟨⟨5, path, data, acl, owner, number, err⟩, aa, ac, sa, sn, sc⟩) rfl rfl rfl ?_; intro w2 hg2 hM2 hz2; have hS := HB1.out.rebox 0 rfl (by rw [World.size_alloc]; exact hg2) (by rw [World.size_alloc]; exact hM2); rw [World.size_alloc] at hS; have HS2 := Lib.hid hS; have c0 := blk_cell (hS.box 1 rfl) 0 (.int .i64 zxid) rfl; have z0 := heap_lt (hS.box 1 rfl); have t2 := blk_cell (hS.box 2 rfl) 2 (.int .i64 T.zxid) rfl; have ft := blk_free (hS.box 2 rfl) 2; have zt := heap_lt (hS.box 2 rfl); clear hg2 hM2 hz2 hS HB1))
   have hS3 := HS2.out.set 2 rfl 2 (.int .i64 zxid)
   simp only [List.set_cons_succ, List.set_cons_zero] at hS3
   have hT3 := St.zxid d HD.out zxid hS3
   rw [HT0.out] at hT3
   have HT3 : Hid (St w0 (w2.setCell ⟨tb, 2, none⟩ (.int .i64 zxid)) (tre tb T0 :: bx (w.heap.size + 1) (TxR.cells ⟨⟨5, path, data, acl, owner, number, err⟩, aa, ac, sa, sn, sc⟩).toArray 61 :: bx w.heap.size #[.int .i64 zxid, .int .i64 session, .int .i64 xid, .int .i64 5, .string path, .string data, .slice aa acl.length ac, .int .i64 owner, .int .i64 number, .int .i64 err, .slice sa sn sc] 63 :: l)) := Lib.hid hT3
   clear hS3 hT3 HS2 c0 z0 t2 ft zt HB HC3
   generalize w2.setCell ⟨tb, 2, none⟩ (.int .i64 zxid) = w3 at HT3 ⊢
   generalize w.heap.size + 1 = yb at HT3 ⊢
   generalize w.heap.size = xb at HT3 ⊢
   have y0 := blk_cell (HT3.out.box 1 rfl) 0 (.int .i64 5) rfl
   have zy := heap_lt (HT3.out.box 1 rfl)
   have y4 := blk_cell (HT3.out.box 1 rfl) 4 (.int .i64 owner) rfl
   go_wp2
   go_ret2
   exact ApPost.nil ((HT3.out.pick 1 rfl).tail.pick 1 rfl).tail
 ·by_cases h6 : kind = 6
  ·subst h6
   have he : T0.apply zxid ⟨6, path, data, acl, owner, number, err⟩ (EnR.subsX ⟨zxid, session, xid, ⟨⟨6, path, data, acl, owner, number, err⟩, aa, ac, sa, sn, sc⟩, subs⟩) = ({ (T0.parts (uptoT (fun s => decide (s.x.kind = 2)) subs sn) zxid).1 with sessions := delK (T0.parts (uptoT (fun s => decide (s.x.kind = 2)) subs sn) zxid).1.sessions owner }, (T0.parts (uptoT (fun s => decide (s.x.kind = 2)) subs sn) zxid).2, 0) := by
    unfold Tree.apply
    simp only [HTT.out]
    have hn := HXF.out.n
    simp only at hn
    rw [uptoT_all _ _ _ (by omega)]
    have e : (subs.filter (fun s => decide (s.x.kind = 2))).map TxR.x = (EnR.subsX ⟨zxid, session, xid, ⟨⟨6, path, data, acl, owner, number, err⟩, aa, ac, sa, sn, sc⟩, subs⟩).filter fun y => decide (y.kind = 2) := by unfold EnR.subsX; rw [List.filter_map]; rfl
    rw [e]
    rfl
   rw [he]
   clear he h5
   go_enter Tryz.func16, Tryz.ntmps16
   go_upto_region 4 with (first
    | ((with_reducible refine at_list ?_); refine wpList_load_chunk 8 _ Tryz.underlying61 rfl sizeTxnT ⟨w.heap.size, 3, none⟩ rfl (TxR.cells ⟨⟨6, path, data, acl, owner, number, err⟩, aa, ac, sa, sn, sc⟩) rfl HC3.out ?_; have HB1 := Lib.hid (HB.out.box1 #[.int .i64 0, .string ⟨#[]⟩, .string ⟨#[]⟩, .slice none 0 0, .int .i64 0, .int .i64 0, .int .i64 0, .slice none 0 0] 61))
    | ((with_reducible refine at_list ?_); refine wpList_store_whole 8 sizeTxnT (w.heap.size + 1) rfl _ _ (by have := HB1.out.box 0 rfl; rw [World.size_alloc] at this; exact this) rfl (TxR.cells ⟨⟨6, path, data, acl, owner, number, err⟩, aa, ac, sa, sn, sc⟩) rfl rfl rfl ?_; intro w2 hg2 hM2 hz2; have hS := HB1.out.rebox 0 rfl (by rw [World.size_alloc]; exact hg2) (by rw [World.size_alloc]; exact hM2); rw [World.size_alloc] at hS; have HS2 := Lib.hid hS; have c0 := blk_cell (hS.box 1 rfl) 0 (.int .i64 zxid) rfl; have z0 := heap_lt (hS.box 1 rfl); have t2 := blk_cell (hS.box 2 rfl) 2 (.int .i64 T.zxid) rfl; have ft := blk_free (hS.box 2 rfl) 2; have zt := heap_lt (hS.box 2 rfl); clear hg2 hM2 hz2 hS HB1))
   have hS3 := HS2.out.set 2 rfl 2 (.int .i64 zxid)
   simp only [List.set_cons_succ, List.set_cons_zero] at hS3
   have hT3 := St.zxid d HD.out zxid hS3
   rw [HT0.out] at hT3
   have HT3 : Hid (St w0 (w2.setCell ⟨tb, 2, none⟩ (.int .i64 zxid)) (tre tb T0 :: bx (w.heap.size + 1) (TxR.cells ⟨⟨6, path, data, acl, owner, number, err⟩, aa, ac, sa, sn, sc⟩).toArray 61 :: bx w.heap.size #[.int .i64 zxid, .int .i64 session, .int .i64 xid, .int .i64 6, .string path, .string data, .slice aa acl.length ac, .int .i64 owner, .int .i64 number, .int .i64 err, .slice sa sn sc] 63 :: l)) := Lib.hid hT3
   clear hS3 hT3 HS2 c0 z0 t2 ft zt HB HC3
   generalize w2.setCell ⟨tb, 2, none⟩ (.int .i64 zxid) = w3 at HT3 ⊢
   generalize w.heap.size + 1 = yb at HT3 ⊢
   generalize w.heap.size = xb at HT3 ⊢
   have y0 := blk_cell (HT3.out.box 1 rfl) 0 (.int .i64 6) rfl
   have zy := heap_lt (HT3.out.box 1 rfl)
   have y7 := blk_cell (HT3.out.box 1 rfl) 7 (.slice sa sn sc) rfl
   have h63 : (sn : Int) ≤ 1000 := by have h1 := HXF.out.few; have h2 := HXF.out.n; simp only at h1 h2; omega
   go_wp2
   go_loopg [6, 47] sn (fun g y6 yi wr => ∃ (k : Nat) (ea : Option Addr) (ec : Nat), k + g = sn ∧ yi = .int .i64 k ∧ y6 = .slice ea (T0.parts (uptoT (fun s => decide (s.x.kind = 2)) subs k) zxid).2.length ec ∧ St w0 wr (sl 113 3 ea (T0.parts (uptoT (fun s => decide (s.x.kind = 2)) subs k) zxid).2.length ec ((T0.parts (uptoT (fun s => decide (s.x.kind = 2)) subs k) zxid).2.flatMap Evt.cells) :: tre tb (T0.parts (uptoT (fun s => decide (s.x.kind = 2)) subs k) zxid).1 :: bx yb (TxR.cells ⟨⟨6, path, data, acl, owner, number, err⟩, aa, ac, sa, sn, sc⟩).toArray 61 :: bx xb #[.int .i64 zxid, .int .i64 session, .int .i64 xid, .int .i64 6, .string path, .string data, .slice aa acl.length ac, .int .i64 owner, .int .i64 number, .int .i64 err, .slice sa sn sc] 63 :: l))
   case atStart =>
    refine ⟨0, none, 0, by omega, rfl, ?_, ?_⟩
    ·rw [uptoT_zero, parts_nil]; rfl
    ·rw [uptoT_zero, parts_nil]; exact HT3.out.nilSlice _ _
   case round =>
    clear HT3
    obtain ⟨k, ea, ec, hkg, rfl, rfl, hS⟩ := hrel
    by_cases hlt : k < sn
    ·have hx : subs[k]? = some (subs[k]'(by have := HXF.out.n; simp only at this; omega)) := List.getElem?_eq_getElem _
     obtain ⟨t, hxx⟩ : ∃ x, subs[k]'(by have := HXF.out.n; simp only at this; omega) = x := ⟨_, rfl⟩
     rw [hxx] at hx
     have hok := HIN.out wr ((((hS.tail).tail).tail).tail)
     obtain ⟨b, o, hsa, hbl, hc⟩ := hok.rd.elem (k := 8) TxR.cells (fun _ => rfl) (by omega) hx
     simp only at hsa
     subst hsa
     have HC : Hid (∀ j u, (TxR.cells t)[j]? = some u → wr.cell? ((⟨b, o + k * 8, none⟩ : Addr).add j) = some u) := Lib.hid (fun j u hj => by rw [add_none]; exact hc j u hj)
     have HX := Lib.hid hx
     have HTM := Lib.hid (List.mem_of_getElem? hx)
     have HRK := Lib.hid (uptoT_room (fun s => decide (s.x.kind = 2)) k (z := zxid) HRM.out HXF.out.all)
     obtain ⟨n, hn⟩ : ∃ n, (T0.parts (uptoT (fun s => decide (s.x.kind = 2)) subs k) zxid).2.length = n := ⟨_, rfl⟩
     obtain ⟨cs, hcs⟩ : ∃ cs, (T0.parts (uptoT (fun s => decide (s.x.kind = 2)) subs k) zxid).2.flatMap Evt.cells = cs := ⟨_, rfl⟩
     have HNL := Lib.hid (show n ≤ 2000 by rw [← hn]; have h1 := HRK.out.2; have h2 := HXF.out.few; simp only at h1 h2; omega)
     rw [hn, hcs] at hS
     rw [hn]
     have HNN := Lib.hid hn
     have HCS := Lib.hid hcs
     have HN := Lib.hid (hS.box1 #[.int .i64 0, .string ⟨#[]⟩, .string ⟨#[]⟩, .slice none 0 0, .int .i64 0, .int .i64 0, .int .i64 0, .slice none 0 0] 61)
     obtain ⟨ip, iz, hi1, hi2, hi3, hi4, hi5⟩ := info_rowT infoEvtR
     have HI := Lib.hid (And.intro hi1 (And.intro hi2 (And.intro hi3 (And.intro hi4 hi5))))
     clear hx hxx hok hc hn hcs hS hi1 hi2 hi3 hi4 hi5
     by_cases hk2 : t.x.kind = 2
     ·have hu : uptoT (fun s => decide (s.x.kind = 2)) subs (k + 1) = uptoT (fun s => decide (s.x.kind = 2)) subs k ++ [t.x] := by rw [uptoT_step (fun s => decide (s.x.kind = 2)) HX.out]; rw [if_pos (by show decide (t.x.kind = 2) = true; simpa using hk2)]
      have HU := Lib.hid hu
      have g2 : (t.x.kind == 2) = true := by simpa using hk2
      clear hu hk2
      go_wp2_with (first
       | ((with_reducible refine at_list ?_); refine wpList_load_chunk 8 _ Tryz.underlying61 rfl sizeTxnT ⟨b, o + k * 8, none⟩ rfl t.cells rfl HC.out ?_)
       | ((with_reducible refine at_list ?_); refine wpList_store_whole 8 sizeTxnT wr.heap.size rfl _ _ (HN.out.box 0 rfl) rfl t.cells rfl rfl rfl ?_; intro w5 hg5 hM5 hz5; have hS5 := HN.out.rebox 0 rfl hg5 hM5; simp only [List.set_cons_zero] at hS5; have c0 := blk_cell (hS5.box 4 rfl) 0 (.int .i64 zxid) rfl; have zc := heap_lt (hS5.box 4 rfl); have n0 := blk_cell (hS5.box 0 rfl) 0 (.int .i64 t.x.kind) rfl; have zn := heap_lt (hS5.box 0 rfl); have HS5 := Lib.hid hS5; clear hg5 hM5 hz5 hS5)
       | ((with_reducible refine at_list ?_); refine wpList_load_chunk 8 _ Tryz.underlying61 rfl sizeTxnT ⟨wr.heap.size, 0, none⟩ rfl t.cells rfl (box_chunk0 (HS5.out.box 0 rfl)) ?_)
       | (go_at_call 41; refine (part_st (w := w5) tb _ (HS5.out.pick 2 rfl) HRK.out.1.fit HRD.out t ((HIN.out w5 (((((HS5.out.tail).tail).tail).tail).tail)).all t HTM.out) (HXF.out.all t HTM.out) zxid).mono ?_; rintro e w8 ⟨ea2, ec2, rfl, hS8⟩; have hev := part_evs (T0.parts (uptoT (fun s => decide (s.x.kind = 2)) subs k) zxid).1 t.x zxid; obtain ⟨R, hR⟩ : ∃ R, (T0.parts (uptoT (fun s => decide (s.x.kind = 2)) subs k) zxid).1.part t.x zxid = R := ⟨_, rfl⟩; rw [hR] at hS8 hev ⊢; have HR := Lib.hid hR; have HEV := Lib.hid hev; obtain ⟨m, hm⟩ : ∃ m, R.2.length = m := ⟨_, rfl⟩; rw [hm] at hS8 HEV ⊢; have HM := Lib.hid hm; have HS8 := Lib.hid hS8; clear hS8 hev hR hm)
       | (at_builtin; refine wpList_append 113 ip iz 3 32 (by kernel_rfl) HI.out.1 HI.out.2.1 HI.out.2.2.1 HI.out.2.2.2.1 HI.out.2.2.2.2 ea n ec cs rfl (HS8.out.slice 3 rfl) ea2 m ec2 _ rfl (HS8.out.slice 0 rfl).rd evt_one (by have := HNL.out; have := HEV.out; unfold maxLen; omega) (by have := HNL.out; have := HEV.out; omega) ?_; intro a9 cap9 w9 hS9 hM9 hF9 hN9 hR9; have h9 := HS8.out.regrow 3 rfl hS9 hM9 hF9))
      simp only [List.set_cons_succ, List.set_cons_zero] at h9
      go_roundg (sn - (k + 1))
      case measure => omega
      case rel =>
       refine ⟨k + 1, a9, cap9, by omega, by simp, ?_, ?_⟩
       ·rw [HU.out, parts_snoc, HR.out]; simp only [List.length_append]; rw [HNN.out, HM.out]
       ·rw [HU.out, parts_snoc, HR.out]
        simp only [List.length_append, List.flatMap_append]
        rw [HNN.out, HM.out, HCS.out]
        exact ((h9.tail.pick 1 rfl).tail.pick 1 rfl)
     ·have hu : uptoT (fun s => decide (s.x.kind = 2)) subs (k + 1) = uptoT (fun s => decide (s.x.kind = 2)) subs k := by rw [uptoT_step (fun s => decide (s.x.kind = 2)) HX.out]; rw [if_neg (by show ¬ decide (t.x.kind = 2) = true; simpa using hk2)]
      have HU := Lib.hid hu
      have g2 : (t.x.kind == 2) = false := by simpa using hk2
      clear hu hk2
      go_wp2_with (first
       | ((with_reducible refine at_list ?_); refine wpList_load_chunk 8 _ Tryz.underlying61 rfl sizeTxnT ⟨b, o + k * 8, none⟩ rfl t.cells rfl HC.out ?_)
       | ((with_reducible refine at_list ?_); refine wpList_store_whole 8 sizeTxnT wr.heap.size rfl _ _ (HN.out.box 0 rfl) rfl t.cells rfl rfl rfl ?_; intro w5 hg5 hM5 hz5; have hS5 := HN.out.rebox 0 rfl hg5 hM5; simp only [List.set_cons_zero] at hS5; have c0 := blk_cell (hS5.box 4 rfl) 0 (.int .i64 zxid) rfl; have zc := heap_lt (hS5.box 4 rfl); have n0 := blk_cell (hS5.box 0 rfl) 0 (.int .i64 t.x.kind) rfl; have zn := heap_lt (hS5.box 0 rfl); have HS5 := Lib.hid hS5; clear hg5 hM5 hz5 hS5)
       | ((with_reducible refine at_list ?_); refine wpList_load_chunk 8 _ Tryz.underlying61 rfl sizeTxnT ⟨wr.heap.size, 0, none⟩ rfl t.cells rfl (box_chunk0 (HS5.out.box 0 rfl)) ?_)
       | (go_at_call 41; refine (part_st (w := w5) tb _ (HS5.out.pick 2 rfl) HRK.out.1.fit HRD.out t ((HIN.out w5 (((((HS5.out.tail).tail).tail).tail).tail)).all t HTM.out) (HXF.out.all t HTM.out) zxid).mono ?_; rintro e w8 ⟨ea2, ec2, rfl, hS8⟩; have hev := part_evs (T0.parts (uptoT (fun s => decide (s.x.kind = 2)) subs k) zxid).1 t.x zxid; obtain ⟨R, hR⟩ : ∃ R, (T0.parts (uptoT (fun s => decide (s.x.kind = 2)) subs k) zxid).1.part t.x zxid = R := ⟨_, rfl⟩; rw [hR] at hS8 hev ⊢; have HR := Lib.hid hR; have HEV := Lib.hid hev; obtain ⟨m, hm⟩ : ∃ m, R.2.length = m := ⟨_, rfl⟩; rw [hm] at hS8 HEV ⊢; have HM := Lib.hid hm; have HS8 := Lib.hid hS8; clear hS8 hev hR hm)
       | (at_builtin; refine wpList_append 113 ip iz 3 32 (by kernel_rfl) HI.out.1 HI.out.2.1 HI.out.2.2.1 HI.out.2.2.2.1 HI.out.2.2.2.2 ea n ec cs rfl (HS8.out.slice 3 rfl) ea2 m ec2 _ rfl (HS8.out.slice 0 rfl).rd evt_one (by have := HNL.out; have := HEV.out; unfold maxLen; omega) (by have := HNL.out; have := HEV.out; omega) ?_; intro a9 cap9 w9 hS9 hM9 hF9 hN9 hR9; have h9 := HS8.out.regrow 3 rfl hS9 hM9 hF9))
      go_roundg (sn - (k + 1))
      case measure => omega
      case rel =>
       refine ⟨k + 1, ea, ec, by omega, by simp, ?_, ?_⟩
       ·rw [HU.out, HNN.out]
       ·rw [HU.out, HNN.out, HCS.out]; exact HS5.out.tail
    ·have hk : k = sn := by omega
     subst hk
     clear hkg hlt
     have HS := Lib.hid hS
     have y4 := blk_cell (hS.box 2 rfl) 4 (.int .i64 owner) rfl
     have ho := HXF.out.owner
     simp only at ho
     have HO := Lib.hid ho
     clear hS ho
     go_upto_region 16 with (fail)
     obtain ⟨Tn, hTn⟩ : ∃ Tn, T0.parts (uptoT (fun s => decide (s.x.kind = 2)) subs k) zxid = Tn := ⟨_, rfl⟩
     have hS4 := HS.out
     rw [hTn] at hS4 ⊢
     obtain ⟨d2, hd2, hT4⟩ := (hS4.pick 1 rfl).openTree
     have HD2 := Lib.hid hd2
     have HT4 := Lib.hid hT4
     have HTN := Lib.hid hTn
     have KP : Hid (∀ (w' : World) (A B C D : Thing) (G : List Thing), St w0 w' (bx tb #[.map (some d2.mb), .map (some d2.sb), .int .i64 Tn.1.zxid] 105 :: A :: B :: C :: D :: bx yb (TxR.cells ⟨⟨6, path, data, acl, owner, number, err⟩, aa, ac, sa, k, sc⟩).toArray 61 :: G) → w'.cell? ⟨tb, 1, none⟩ = some (.map (some d2.sb)) ∧ w'.cell? ⟨yb, 4, none⟩ = some (.int .i64 owner)) := Lib.hid fun w' A B C D G h => ⟨blk_cell (h.box 0 rfl) 1 _ rfl, blk_cell (h.box 5 rfl) 4 _ rfl⟩
     have zt := heap_lt (hT4.box 0 rfl)
     obtain ⟨w6, hPR, hm6, hM6⟩ := (hT4.drew.mapL 2 rfl).del mapSess (x := owner) HO.out 0
     rw [show kbI.inj owner = Value.int .i64 owner from rfl] at hPR
     have hT6 := HT4.out.drew.remapL 2 rfl hm6 hM6
     simp only [List.set_cons_succ, List.set_cons_zero] at hT6
     have HT6 := Lib.hid hT6
     clear hd2 hT4 hm6 hM6 hT6 y4 hS4 HS hTn
     go_region_held3 (fun w' => w'.cell? ⟨tb, 1, none⟩ = some (.map (some d2.sb)) ∧ w'.cell? ⟨yb, 4, none⟩ = some (.int .i64 owner))
      (first | exact KP.out _ _ _ _ _ _ HT4.out.drew | exact KP.out _ _ _ _ _ _ HT6.out)
      (fail)
     have h8 := HT6.out
     rw [delK_map Hd.val Tn.1.sessions owner] at h8
     have H9 := Lib.hid (St.shutSess d2 HD2.out _ h8)
     clear h8 HT6 HT4 KP hPR
     go_wp2
     go_ret2
     rw [HTN.out]
     exact ⟨ea, ec, rfl, (((H9.out.pick 2 rfl).tail.pick 2 rfl).tail.pick 1 rfl)⟩
  ·by_cases h7 : kind = 7
   ·subst h7
    have he : T0.apply zxid ⟨7, path, data, acl, owner, number, err⟩ (EnR.subsX ⟨zxid, session, xid, ⟨⟨7, path, data, acl, owner, number, err⟩, aa, ac, sa, sn, sc⟩, subs⟩) = ((T0.parts (uptoT (fun _ => true) subs sn) zxid).1, (T0.parts (uptoT (fun _ => true) subs sn) zxid).2, 0) := by
     unfold Tree.apply
     simp only [HTT.out]
     have hn := HXF.out.n
     simp only at hn
     rw [uptoT_all _ _ _ (by omega)]
     have e : (subs.filter fun _ => true).map TxR.x = EnR.subsX ⟨zxid, session, xid, ⟨⟨7, path, data, acl, owner, number, err⟩, aa, ac, sa, sn, sc⟩, subs⟩ := by unfold EnR.subsX; rw [List.filter_eq_self.2 (fun _ _ => rfl)]
     rw [e]
     rfl
    rw [he]
    clear he h5 h6
    go_enter Tryz.func16, Tryz.ntmps16
    go_upto_region 4 with (first
     | ((with_reducible refine at_list ?_); refine wpList_load_chunk 8 _ Tryz.underlying61 rfl sizeTxnT ⟨w.heap.size, 3, none⟩ rfl (TxR.cells ⟨⟨7, path, data, acl, owner, number, err⟩, aa, ac, sa, sn, sc⟩) rfl HC3.out ?_; have HB1 := Lib.hid (HB.out.box1 #[.int .i64 0, .string ⟨#[]⟩, .string ⟨#[]⟩, .slice none 0 0, .int .i64 0, .int .i64 0, .int .i64 0, .slice none 0 0] 61))
     | ((with_reducible refine at_list ?_); refine wpList_store_whole 8 sizeTxnT (w.heap.size + 1) rfl _ _ (by have := HB1.out.box 0 rfl; rw [World.size_alloc] at this; exact this) rfl (TxR.cells ⟨⟨7, path, data, acl, owner, number, err⟩, aa, ac, sa, sn, sc⟩) rfl rfl rfl ?_; intro w2 hg2 hM2 hz2; have hS := HB1.out.rebox 0 rfl (by rw [World.size_alloc]; exact hg2) (by rw [World.size_alloc]; exact hM2); rw [World.size_alloc] at hS; have HS2 := Lib.hid hS; have c0 := blk_cell (hS.box 1 rfl) 0 (.int .i64 zxid) rfl; have z0 := heap_lt (hS.box 1 rfl); have t2 := blk_cell (hS.box 2 rfl) 2 (.int .i64 T.zxid) rfl; have ft := blk_free (hS.box 2 rfl) 2; have zt := heap_lt (hS.box 2 rfl); clear hg2 hM2 hz2 hS HB1))
    have hS3 := HS2.out.set 2 rfl 2 (.int .i64 zxid)
    simp only [List.set_cons_succ, List.set_cons_zero] at hS3
    have hT3 := St.zxid d HD.out zxid hS3
    rw [HT0.out] at hT3
    have HT3 : Hid (St w0 (w2.setCell ⟨tb, 2, none⟩ (.int .i64 zxid)) (tre tb T0 :: bx (w.heap.size + 1) (TxR.cells ⟨⟨7, path, data, acl, owner, number, err⟩, aa, ac, sa, sn, sc⟩).toArray 61 :: bx w.heap.size #[.int .i64 zxid, .int .i64 session, .int .i64 xid, .int .i64 7, .string path, .string data, .slice aa acl.length ac, .int .i64 owner, .int .i64 number, .int .i64 err, .slice sa sn sc] 63 :: l)) := Lib.hid hT3
    clear hS3 hT3 HS2 c0 z0 t2 ft zt HB HC3
    generalize w2.setCell ⟨tb, 2, none⟩ (.int .i64 zxid) = w3 at HT3 ⊢
    generalize w.heap.size + 1 = yb at HT3 ⊢
    generalize w.heap.size = xb at HT3 ⊢
    have y0 := blk_cell (HT3.out.box 1 rfl) 0 (.int .i64 7) rfl
    have zy := heap_lt (HT3.out.box 1 rfl)
    have y7 := blk_cell (HT3.out.box 1 rfl) 7 (.slice sa sn sc) rfl
    have h63 : (sn : Int) ≤ 1000 := by have h1 := HXF.out.few; have h2 := HXF.out.n; simp only at h1 h2; omega
    go_wp2
    go_loopg [6, 73] sn (fun g y6 yi wr => ∃ (k : Nat) (ea : Option Addr) (ec : Nat), k + g = sn ∧ yi = .int .i64 k ∧ y6 = .slice ea (T0.parts (uptoT (fun _ => true) subs k) zxid).2.length ec ∧ St w0 wr (sl 113 3 ea (T0.parts (uptoT (fun _ => true) subs k) zxid).2.length ec ((T0.parts (uptoT (fun _ => true) subs k) zxid).2.flatMap Evt.cells) :: tre tb (T0.parts (uptoT (fun _ => true) subs k) zxid).1 :: bx yb (TxR.cells ⟨⟨7, path, data, acl, owner, number, err⟩, aa, ac, sa, sn, sc⟩).toArray 61 :: bx xb #[.int .i64 zxid, .int .i64 session, .int .i64 xid, .int .i64 7, .string path, .string data, .slice aa acl.length ac, .int .i64 owner, .int .i64 number, .int .i64 err, .slice sa sn sc] 63 :: l))
    case atStart =>
     refine ⟨0, none, 0, by omega, rfl, ?_, ?_⟩
     ·rw [uptoT_zero, parts_nil]; rfl
     ·rw [uptoT_zero, parts_nil]; exact HT3.out.nilSlice _ _
    case round =>
     clear HT3
     obtain ⟨k, ea, ec, hkg, rfl, rfl, hS⟩ := hrel
     by_cases hlt : k < sn
     ·have hx : subs[k]? = some (subs[k]'(by have := HXF.out.n; simp only at this; omega)) := List.getElem?_eq_getElem _
      obtain ⟨t, hxx⟩ : ∃ x, subs[k]'(by have := HXF.out.n; simp only at this; omega) = x := ⟨_, rfl⟩
      rw [hxx] at hx
      have hok := HIN.out wr ((((hS.tail).tail).tail).tail)
      obtain ⟨b, o, hsa, hbl, hc⟩ := hok.rd.elem (k := 8) TxR.cells (fun _ => rfl) (by omega) hx
      simp only at hsa
      subst hsa
      have HC : Hid (∀ j u, (TxR.cells t)[j]? = some u → wr.cell? ((⟨b, o + k * 8, none⟩ : Addr).add j) = some u) := Lib.hid (fun j u hj => by rw [add_none]; exact hc j u hj)
      have HX := Lib.hid hx
      have HTM := Lib.hid (List.mem_of_getElem? hx)
      have HRK := Lib.hid (uptoT_room (fun _ => true) k (z := zxid) HRM.out HXF.out.all)
      obtain ⟨n, hn⟩ : ∃ n, (T0.parts (uptoT (fun _ => true) subs k) zxid).2.length = n := ⟨_, rfl⟩
      obtain ⟨cs, hcs⟩ : ∃ cs, (T0.parts (uptoT (fun _ => true) subs k) zxid).2.flatMap Evt.cells = cs := ⟨_, rfl⟩
      have HNL := Lib.hid (show n ≤ 2000 by rw [← hn]; have h1 := HRK.out.2; have h2 := HXF.out.few; simp only at h1 h2; omega)
      rw [hn, hcs] at hS
      rw [hn]
      have HNN := Lib.hid hn
      have HCS := Lib.hid hcs
      have HN := Lib.hid (hS.box1 #[.int .i64 0, .string ⟨#[]⟩, .string ⟨#[]⟩, .slice none 0 0, .int .i64 0, .int .i64 0, .int .i64 0, .slice none 0 0] 61)
      obtain ⟨ip, iz, hi1, hi2, hi3, hi4, hi5⟩ := info_rowT infoEvtR
      have HI := Lib.hid (And.intro hi1 (And.intro hi2 (And.intro hi3 (And.intro hi4 hi5))))
      clear hx hxx hok hc hn hcs hS hi1 hi2 hi3 hi4 hi5
      have hu : uptoT (fun _ => true) subs (k + 1) = uptoT (fun _ => true) subs k ++ [t.x] := by rw [uptoT_step (fun _ => true) HX.out]; rfl
      have HU := Lib.hid hu
      clear hu
      go_wp2_with (first
       | ((with_reducible refine at_list ?_); refine wpList_load_chunk 8 _ Tryz.underlying61 rfl sizeTxnT ⟨b, o + k * 8, none⟩ rfl t.cells rfl HC.out ?_)
       | ((with_reducible refine at_list ?_); refine wpList_store_whole 8 sizeTxnT wr.heap.size rfl _ _ (HN.out.box 0 rfl) rfl t.cells rfl rfl rfl ?_; intro w5 hg5 hM5 hz5; have hS5 := HN.out.rebox 0 rfl hg5 hM5; simp only [List.set_cons_zero] at hS5; have c0 := blk_cell (hS5.box 4 rfl) 0 (.int .i64 zxid) rfl; have zc := heap_lt (hS5.box 4 rfl); have n0 := blk_cell (hS5.box 0 rfl) 0 (.int .i64 t.x.kind) rfl; have zn := heap_lt (hS5.box 0 rfl); have HS5 := Lib.hid hS5; clear hg5 hM5 hz5 hS5)
       | ((with_reducible refine at_list ?_); refine wpList_load_chunk 8 _ Tryz.underlying61 rfl sizeTxnT ⟨wr.heap.size, 0, none⟩ rfl t.cells rfl (box_chunk0 (HS5.out.box 0 rfl)) ?_)
       | (go_at_call 41; refine (part_st (w := w5) tb _ (HS5.out.pick 2 rfl) HRK.out.1.fit HRD.out t ((HIN.out w5 (((((HS5.out.tail).tail).tail).tail).tail)).all t HTM.out) (HXF.out.all t HTM.out) zxid).mono ?_; rintro e w8 ⟨ea2, ec2, rfl, hS8⟩; have hev := part_evs (T0.parts (uptoT (fun _ => true) subs k) zxid).1 t.x zxid; obtain ⟨R, hR⟩ : ∃ R, (T0.parts (uptoT (fun _ => true) subs k) zxid).1.part t.x zxid = R := ⟨_, rfl⟩; rw [hR] at hS8 hev ⊢; have HR := Lib.hid hR; have HEV := Lib.hid hev; obtain ⟨m, hm⟩ : ∃ m, R.2.length = m := ⟨_, rfl⟩; rw [hm] at hS8 HEV ⊢; have HM := Lib.hid hm; have HS8 := Lib.hid hS8; clear hS8 hev hR hm)
       | (at_builtin; refine wpList_append 113 ip iz 3 32 (by kernel_rfl) HI.out.1 HI.out.2.1 HI.out.2.2.1 HI.out.2.2.2.1 HI.out.2.2.2.2 ea n ec cs rfl (HS8.out.slice 3 rfl) ea2 m ec2 _ rfl (HS8.out.slice 0 rfl).rd evt_one (by have := HNL.out; have := HEV.out; unfold maxLen; omega) (by have := HNL.out; have := HEV.out; omega) ?_; intro a9 cap9 w9 hS9 hM9 hF9 hN9 hR9; have h9 := HS8.out.regrow 3 rfl hS9 hM9 hF9))
      simp only [List.set_cons_succ, List.set_cons_zero] at h9
      go_roundg (sn - (k + 1))
      case measure => omega
      case rel =>
       refine ⟨k + 1, a9, cap9, by omega, by simp, ?_, ?_⟩
       ·rw [HU.out, parts_snoc, HR.out]; simp only [List.length_append]; rw [HNN.out, HM.out]
       ·rw [HU.out, parts_snoc, HR.out]
        simp only [List.length_append, List.flatMap_append]
        rw [HNN.out, HM.out, HCS.out]
        exact ((h9.tail.pick 1 rfl).tail.pick 1 rfl)
     ·have hk : k = sn := by omega
      subst hk
      clear hkg hlt
      go_wp2
      go_ret2
      exact ⟨ea, ec, rfl, ((hS.pick 2 rfl).tail.pick 2 rfl).tail⟩
   ·by_cases h8 : kind = 8
    ·subst h8
     have he : T0.apply zxid ⟨8, path, data, acl, owner, number, err⟩ (EnR.subsX ⟨zxid, session, xid, ⟨⟨8, path, data, acl, owner, number, err⟩, aa, ac, sa, sn, sc⟩, subs⟩) = (({ T0 with zxid := zxid } : Tree), [], err) := rfl
     rw [he, HTT.out]
     clear he h5 h6 h7
     go_enter Tryz.func16, Tryz.ntmps16
     go_upto_region 4 with (first
      | ((with_reducible refine at_list ?_); refine wpList_load_chunk 8 _ Tryz.underlying61 rfl sizeTxnT ⟨w.heap.size, 3, none⟩ rfl (TxR.cells ⟨⟨8, path, data, acl, owner, number, err⟩, aa, ac, sa, sn, sc⟩) rfl HC3.out ?_; have HB1 := Lib.hid (HB.out.box1 #[.int .i64 0, .string ⟨#[]⟩, .string ⟨#[]⟩, .slice none 0 0, .int .i64 0, .int .i64 0, .int .i64 0, .slice none 0 0] 61))
      | ((with_reducible refine at_list ?_); refine wpList_store_whole 8 sizeTxnT (w.heap.size + 1) rfl _ _ (by have := HB1.out.box 0 rfl; rw [World.size_alloc] at this; exact this) rfl (TxR.cells ⟨⟨8, path, data, acl, owner, number, err⟩, aa, ac, sa, sn, sc⟩) rfl rfl rfl ?_; intro w2 hg2 hM2 hz2; have hS := HB1.out.rebox 0 rfl (by rw [World.size_alloc]; exact hg2) (by rw [World.size_alloc]; exact hM2); rw [World.size_alloc] at hS; have HS2 := Lib.hid hS; have c0 := blk_cell (hS.box 1 rfl) 0 (.int .i64 zxid) rfl; have z0 := heap_lt (hS.box 1 rfl); have t2 := blk_cell (hS.box 2 rfl) 2 (.int .i64 T.zxid) rfl; have ft := blk_free (hS.box 2 rfl) 2; have zt := heap_lt (hS.box 2 rfl); clear hg2 hM2 hz2 hS HB1))
     have hS3 := HS2.out.set 2 rfl 2 (.int .i64 zxid)
     simp only [List.set_cons_succ, List.set_cons_zero] at hS3
     have hT3 := St.zxid d HD.out zxid hS3
     rw [HT0.out] at hT3
     have HT3 : Hid (St w0 (w2.setCell ⟨tb, 2, none⟩ (.int .i64 zxid)) (tre tb T0 :: bx (w.heap.size + 1) (TxR.cells ⟨⟨8, path, data, acl, owner, number, err⟩, aa, ac, sa, sn, sc⟩).toArray 61 :: bx w.heap.size #[.int .i64 zxid, .int .i64 session, .int .i64 xid, .int .i64 8, .string path, .string data, .slice aa acl.length ac, .int .i64 owner, .int .i64 number, .int .i64 err, .slice sa sn sc] 63 :: l)) := Lib.hid hT3
     clear hS3 hT3 HS2 c0 z0 t2 ft zt HB HC3
     generalize w2.setCell ⟨tb, 2, none⟩ (.int .i64 zxid) = w3 at HT3 ⊢
     generalize w.heap.size + 1 = yb at HT3 ⊢
     generalize w.heap.size = xb at HT3 ⊢
     have y0 := blk_cell (HT3.out.box 1 rfl) 0 (.int .i64 8) rfl
     have zy := heap_lt (HT3.out.box 1 rfl)
     have y6 := blk_cell (HT3.out.box 1 rfl) 6 (.int .i64 err) rfl
     go_upto_region 24 with (fail)
     go_quiet (fail)
     go_wp2
     go_ret2
     exact ApPost.nil (((HT3.out.drewN nq).pick 1 rfl).tail.pick 1 rfl).tail
    ·have he : T0.apply zxid ⟨kind, path, data, acl, owner, number, err⟩ (EnR.subsX ⟨zxid, session, xid, ⟨⟨kind, path, data, acl, owner, number, err⟩, aa, ac, sa, sn, sc⟩, subs⟩) = ((T0.part ⟨kind, path, data, acl, owner, number, err⟩ zxid).1, (T0.part ⟨kind, path, data, acl, owner, number, err⟩ zxid).2, 0) := by
      unfold Tree.apply
      simp only [if_neg h5, if_neg h6, if_neg h7, if_neg h8, HTT.out]
     rw [he]
     have g5 : (kind == 5) = false := by simpa using h5
     have g6 : (kind == 6) = false := by simpa using h6
     have g7 : (kind == 7) = false := by simpa using h7
     have g8 : (kind == 8) = false := by simpa using h8
     clear he h5 h6 h7 h8
     go_enter Tryz.func16, Tryz.ntmps16
     go_upto_region 4 with (first
      | ((with_reducible refine at_list ?_); refine wpList_load_chunk 8 _ Tryz.underlying61 rfl sizeTxnT ⟨w.heap.size, 3, none⟩ rfl (TxR.cells ⟨⟨kind, path, data, acl, owner, number, err⟩, aa, ac, sa, sn, sc⟩) rfl HC3.out ?_; have HB1 := Lib.hid (HB.out.box1 #[.int .i64 0, .string ⟨#[]⟩, .string ⟨#[]⟩, .slice none 0 0, .int .i64 0, .int .i64 0, .int .i64 0, .slice none 0 0] 61))
      | ((with_reducible refine at_list ?_); refine wpList_store_whole 8 sizeTxnT (w.heap.size + 1) rfl _ _ (by have := HB1.out.box 0 rfl; rw [World.size_alloc] at this; exact this) rfl (TxR.cells ⟨⟨kind, path, data, acl, owner, number, err⟩, aa, ac, sa, sn, sc⟩) rfl rfl rfl ?_; intro w2 hg2 hM2 hz2; have hS := HB1.out.rebox 0 rfl (by rw [World.size_alloc]; exact hg2) (by rw [World.size_alloc]; exact hM2); rw [World.size_alloc] at hS; have HS2 := Lib.hid hS; have c0 := blk_cell (hS.box 1 rfl) 0 (.int .i64 zxid) rfl; have z0 := heap_lt (hS.box 1 rfl); have t2 := blk_cell (hS.box 2 rfl) 2 (.int .i64 T.zxid) rfl; have ft := blk_free (hS.box 2 rfl) 2; have zt := heap_lt (hS.box 2 rfl); clear hg2 hM2 hz2 hS HB1))
     have hS3 := HS2.out.set 2 rfl 2 (.int .i64 zxid)
     simp only [List.set_cons_succ, List.set_cons_zero] at hS3
     have hT3 := St.zxid d HD.out zxid hS3
     rw [HT0.out] at hT3
     have HT3 : Hid (St w0 (w2.setCell ⟨tb, 2, none⟩ (.int .i64 zxid)) (tre tb T0 :: bx (w.heap.size + 1) (TxR.cells ⟨⟨kind, path, data, acl, owner, number, err⟩, aa, ac, sa, sn, sc⟩).toArray 61 :: bx w.heap.size #[.int .i64 zxid, .int .i64 session, .int .i64 xid, .int .i64 kind, .string path, .string data, .slice aa acl.length ac, .int .i64 owner, .int .i64 number, .int .i64 err, .slice sa sn sc] 63 :: l)) := Lib.hid hT3
     clear hS3 hT3 HS2 c0 z0 t2 ft zt HB HC3
     generalize w2.setCell ⟨tb, 2, none⟩ (.int .i64 zxid) = w3 at HT3 ⊢
     generalize w.heap.size + 1 = yb at HT3 ⊢
     generalize w.heap.size = xb at HT3 ⊢
     have y0 := blk_cell (HT3.out.box 1 rfl) 0 (.int .i64 kind) rfl
     have zy := heap_lt (HT3.out.box 1 rfl)
     have c0 := blk_cell (HT3.out.box 2 rfl) 0 (.int .i64 zxid) rfl
     have zc := heap_lt (HT3.out.box 2 rfl)
     have CP := Lib.hid (part_st (w := w3) tb T0 HT3.out HRM.out.fit HRD.out ⟨⟨kind, path, data, acl, owner, number, err⟩, aa, ac, sa, sn, sc⟩ (HIN.out w3 (((HT3.out.tail).tail).tail)).r HXF.out.r zxid)
     go_wp2_with (first
      | ((with_reducible refine at_list ?_); refine wpList_load_chunk 8 _ Tryz.underlying61 rfl sizeTxnT ⟨yb, 0, none⟩ rfl (TxR.cells ⟨⟨kind, path, data, acl, owner, number, err⟩, aa, ac, sa, sn, sc⟩) rfl (box_chunk0 (HT3.out.box 1 rfl)) ?_)
      | (go_at_call 41; refine CP.out.mono ?_; rintro e w4 ⟨ea, ec, rfl, hS4⟩))
     go_ret2
     exact ⟨ea, ec, rfl, ((hS4.pick 2 rfl).tail.pick 2 rfl).tail⟩
end Go.Proofs.YtonnbkebjeoflaaGreatDoor
