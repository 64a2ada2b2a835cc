/-
  Laws of PrepK.
  Conditions: each law states its own.
-/
import Derived.Test.YtonnbkebjeoflaaGreatDoorJ11
import Derived.Test.YtonnbkebjeoflaaGreatDoorJ29
import Derived.Test.YtonnbkebjeoflaaGreatDoorJ30
import Derived.Test.YtonnbkebjeoflaaGreatDoorJ33
import Derived.Test.YtonnbkebjeoflaaGreatDoorJ42
set_option maxHeartbeats 16000000
set_option linter.unusedSectionVars false
set_option linter.unusedSimpArgs false
set_option linter.unusedVariables false
set_option maxRecDepth 100000
namespace Go.Proofs.YtonnbkebjeoflaaGreatDoor
open Go.RowKit Go.Maps
def RpPost (R : Tree.Rp) (w : World) (e : Ending) (w' : World) : Prop :=
 ∃ (sa : Option Addr) (sc : Nat), e = .returned (.agg (RpC R.p none 0 none 0 sa R.subs.length sc).toArray) ∧ St w w' [sl 33 17 sa R.subs.length sc (R.subs.flatMap rpS)]
theorem told_lists (T : Tree) (x : Tx) : (T.told x).acl = [] ∧ (T.told x).kids = [] := by
 unfold Tree.told Tree.Rp1.put
 split
 ·cases T.node x.path <;> exact ⟨rfl, rfl⟩
 ·split
  ·cases T.node x.path <;> exact ⟨rfl, rfl⟩
  ·exact ⟨rfl, rfl⟩
theorem take_all' {α : Type} (l : List α) (n : Nat) (h : l.length = n) : l.take n = l := List.take_of_length_le (by omega)
theorem reply_one (w : World) (tb : Nat) (T : Tree) (h : TreeAt w tb T) (hf : T.fit) (zxid session xid kind : Int) (path data : ByteArray) (acl : List ARow) (owner number err : Int) (aa : Option Addr) (ac : Nat) (sa : Option Addr) (sn sc : Nat) (hp : path.size ≤ maxLen) (h7 : kind ≠ 7) (h8 : kind ≠ 8) :
 Calls Tryz.prog 19 #[.pointer (some ⟨tb, 0, none⟩), .agg #[.int .i64 zxid, .int .i64 session, .int .i64 xid, .int .i64 kind, .string path, .string data, .slice aa acl.length ac, .int .i64 owner, .int .i64 number, .int .i64 err, .slice sa sn sc]] w (RpPost ⟨{ T.told ⟨kind, path, data, acl, owner, number, err⟩ with xid := xid, zxid := zxid }, []⟩ w) := by
 have CT : Hid (∀ W, Mod (fun _ => False) w W → Calls Tryz.prog 43 #[.pointer (some ⟨tb, 0, none⟩), .agg #[.int .i64 kind, .string path, .string data, .slice aa acl.length ac, .int .i64 owner, .int .i64 number, .int .i64 err, .slice sa sn sc]] W (CpPost (.agg (RpC (T.told ⟨kind, path, data, acl, owner, number, err⟩) none 0 none 0 none 0 0).toArray) W)) := Lib.hid fun W k => told_any W tb T (h.old k) hf ⟨⟨kind, path, data, acl, owner, number, err⟩, aa, ac, sa, sn, sc⟩ hp
 obtain ⟨p, hpp⟩ : ∃ p, T.told ⟨kind, path, data, acl, owner, number, err⟩ = p := ⟨_, rfl⟩
 rw [hpp] at CT ⊢
 have g7 : (kind == 7) = false := by simpa using h7
 have g8 : (kind == 8) = false := by simpa using h8
 clear h hf hp h7 h8
 have HB := Lib.hid (((St.start w).box1 (#[.int .i64 zxid, .int .i64 session, .int .i64 xid, .int .i64 kind, .string path, .string data, .slice aa acl.length ac, .int .i64 owner, .int .i64 number, .int .i64 err, .slice sa sn sc]) 63).box1 #[.int .i64 0, .int .i64 0, .int .i64 0, .string ⟨#[]⟩, .string ⟨#[]⟩, .int .i64 0, .int .i64 0, .int .i64 0, .int .i64 0, .int .i64 0, .int .i64 0, .int .i64 0, .int .i64 0, .int .i64 0, .slice none 0 0, .slice none 0 0, .slice none 0 0] 33)
 rw [World.size_alloc] at HB
 go_enter Tryz.func19, Tryz.ntmps19
 go_upto_region 1 with (fail)
 generalize hW : (w.alloc _).alloc _ = W at HB ⊢
 generalize w.heap.size = eb at HB ⊢
 clear hW
 go_upto_region 3 with (fail)
 have ze := heap_lt (HB.out.box 1 rfl)
 go_upto_region 4 with (first
  | ((with_reducible refine at_list ?_); refine wpList_load_chunk 8 _ Tryz.underlying61 rfl sizeTxnT ⟨eb, 3, none⟩ rfl ([.int .i64 kind, .string path, .string data, .slice aa acl.length ac, .int .i64 owner, .int .i64 number, .int .i64 err, .slice sa sn sc] : List Value) rfl (box_from [.int .i64 zxid, .int .i64 session, .int .i64 xid] _ (HB.out.box 1 rfl)) ?_; have HB1 := Lib.hid (HB.out.box1 #[.int .i64 0, .string ⟨#[]⟩, .string ⟨#[]⟩, .slice none 0 0, .int .i64 0, .int .i64 0, .int .i64 0, .slice none 0 0] 61))
  | ((with_reducible refine at_list ?_); refine wpList_store_whole 8 sizeTxnT W.heap.size rfl _ _ (HB1.out.box 0 rfl) rfl ([.int .i64 kind, .string path, .string data, .slice aa acl.length ac, .int .i64 owner, .int .i64 number, .int .i64 err, .slice sa sn sc] : List Value) rfl rfl rfl ?_; intro w2 hg2 hM2 hz2; have H2 : Hid (St w w2 (bx W.heap.size (#[.int .i64 kind, .string path, .string data, .slice aa acl.length ac, .int .i64 owner, .int .i64 number, .int .i64 err, .slice sa sn sc]) 61 :: bx (eb + 1) #[.int .i64 0, .int .i64 0, .int .i64 0, .string ⟨#[]⟩, .string ⟨#[]⟩, .int .i64 0, .int .i64 0, .int .i64 0, .int .i64 0, .int .i64 0, .int .i64 0, .int .i64 0, .int .i64 0, .int .i64 0, .slice none 0 0, .slice none 0 0, .slice none 0 0] 33 :: bx eb (#[.int .i64 zxid, .int .i64 session, .int .i64 xid, .int .i64 kind, .string path, .string data, .slice aa acl.length ac, .int .i64 owner, .int .i64 number, .int .i64 err, .slice sa sn sc]) 63 :: [])) := Lib.hid (HB1.out.rebox 0 rfl hg2 hM2); clear hg2 hM2 hz2 HB1))
 clear ze HB
 generalize W.heap.size = xb at H2 ⊢
 have zx := heap_lt (H2.out.box 0 rfl)
 go_upto_region 5 with (first
  | ((with_reducible refine at_list ?_); refine wpList_load_chunk 8 _ Tryz.underlying61 rfl sizeTxnT ⟨xb, 0, none⟩ rfl ([.int .i64 kind, .string path, .string data, .slice aa acl.length ac, .int .i64 owner, .int .i64 number, .int .i64 err, .slice sa sn sc] : List Value) rfl (box_chunk0 (H2.out.box 0 rfl)) ?_)
  | (go_at_call 43; refine (CT.out _ H2.out.1).mono ?_; rintro e w3 ⟨rfl, hM3⟩; have H3 := Lib.hid ((H2.out.mod hM3).box1 #[.int .i64 0, .int .i64 0, .int .i64 0, .string ⟨#[]⟩, .string ⟨#[]⟩, .int .i64 0, .int .i64 0, .int .i64 0, .int .i64 0, .int .i64 0, .int .i64 0, .int .i64 0, .int .i64 0, .int .i64 0, .slice none 0 0, .slice none 0 0, .slice none 0 0] 33); clear hM3)
  | ((with_reducible refine at_list ?_); refine wpList_store_whole 17 sizeRp w3.heap.size rfl _ _ (H3.out.box 0 rfl) rfl (RpC p none 0 none 0 none 0 0) rfl rfl rfl ?_; intro w4 hg4 hM4 hz4; have H4 : Hid (St w w4 (bx w3.heap.size (RpC p none 0 none 0 none 0 0).toArray 33 :: bx xb (#[.int .i64 kind, .string path, .string data, .slice aa acl.length ac, .int .i64 owner, .int .i64 number, .int .i64 err, .slice sa sn sc]) 61 :: bx (eb + 1) #[.int .i64 0, .int .i64 0, .int .i64 0, .string ⟨#[]⟩, .string ⟨#[]⟩, .int .i64 0, .int .i64 0, .int .i64 0, .int .i64 0, .int .i64 0, .int .i64 0, .int .i64 0, .int .i64 0, .int .i64 0, .slice none 0 0, .slice none 0 0, .slice none 0 0] 33 :: bx eb (#[.int .i64 zxid, .int .i64 session, .int .i64 xid, .int .i64 kind, .string path, .string data, .slice aa acl.length ac, .int .i64 owner, .int .i64 number, .int .i64 err, .slice sa sn sc]) 63 :: [])) := Lib.hid (H3.out.rebox 0 rfl hg4 hM4); clear hg4 hM4 hz4 H3))
 clear zx H2 CT
 generalize w3.heap.size = ob at H4 ⊢
 have KP : Hid (∀ (w' : World) (A B : Thing), St w w' (A :: B :: bx (eb + 1) #[.int .i64 0, .int .i64 0, .int .i64 0, .string ⟨#[]⟩, .string ⟨#[]⟩, .int .i64 0, .int .i64 0, .int .i64 0, .int .i64 0, .int .i64 0, .int .i64 0, .int .i64 0, .int .i64 0, .int .i64 0, .slice none 0 0, .slice none 0 0, .slice none 0 0] 33 :: bx eb (#[.int .i64 zxid, .int .i64 session, .int .i64 xid, .int .i64 kind, .string path, .string data, .slice aa acl.length ac, .int .i64 owner, .int .i64 number, .int .i64 err, .slice sa sn sc]) 63 :: []) → w'.cell? ⟨eb, 2, none⟩ = some (.int .i64 xid) ∧ w'.cell? ⟨eb, 0, none⟩ = some (.int .i64 zxid)) := Lib.hid fun w' A B h => ⟨blk_cell (h.box 3 rfl) 2 _ rfl, blk_cell (h.box 3 rfl) 0 _ rfl⟩
 have o0 := blk_cell (H4.out.box 0 rfl) 0 (.int .i64 p.xid) rfl
 have o1 := blk_cell (H4.out.box 0 rfl) 1 (.int .i64 p.zxid) rfl
 have f0 := blk_free (H4.out.box 0 rfl) 0
 have f1 := blk_free (H4.out.box 0 rfl) 1
 have zo := heap_lt (H4.out.box 0 rfl)
 have ze := heap_lt (H4.out.box 3 rfl)
 have HA : Hid (St w (w4.drew.setCell ⟨ob, 0, none⟩ (.int .i64 xid)) (bx ob (RpC { p with xid := xid } none 0 none 0 none 0 0).toArray 33 :: bx xb (#[.int .i64 kind, .string path, .string data, .slice aa acl.length ac, .int .i64 owner, .int .i64 number, .int .i64 err, .slice sa sn sc]) 61 :: bx (eb + 1) #[.int .i64 0, .int .i64 0, .int .i64 0, .string ⟨#[]⟩, .string ⟨#[]⟩, .int .i64 0, .int .i64 0, .int .i64 0, .int .i64 0, .int .i64 0, .int .i64 0, .int .i64 0, .int .i64 0, .int .i64 0, .slice none 0 0, .slice none 0 0, .slice none 0 0] 33 :: bx eb (#[.int .i64 zxid, .int .i64 session, .int .i64 xid, .int .i64 kind, .string path, .string data, .slice aa acl.length ac, .int .i64 owner, .int .i64 number, .int .i64 err, .slice sa sn sc]) 63 :: [])) := Lib.hid (H4.out.drew.set 0 rfl 0 (.int .i64 xid))
 have HC : Hid (St w ((w4.drew.setCell ⟨ob, 0, none⟩ (.int .i64 xid)).setCell ⟨ob, 1, none⟩ (.int .i64 zxid)) (bx ob (RpC { p with xid := xid, zxid := zxid } none 0 none 0 none 0 0).toArray 33 :: bx xb (#[.int .i64 kind, .string path, .string data, .slice aa acl.length ac, .int .i64 owner, .int .i64 number, .int .i64 err, .slice sa sn sc]) 61 :: bx (eb + 1) #[.int .i64 0, .int .i64 0, .int .i64 0, .string ⟨#[]⟩, .string ⟨#[]⟩, .int .i64 0, .int .i64 0, .int .i64 0, .int .i64 0, .int .i64 0, .int .i64 0, .int .i64 0, .int .i64 0, .int .i64 0, .slice none 0 0, .slice none 0 0, .slice none 0 0] 33 :: bx eb (#[.int .i64 zxid, .int .i64 session, .int .i64 xid, .int .i64 kind, .string path, .string data, .slice aa acl.length ac, .int .i64 owner, .int .i64 number, .int .i64 err, .slice sa sn sc]) 63 :: [])) := Lib.hid (HA.out.set 0 rfl 1 (.int .i64 zxid))
 go_region_held3 (fun w' => w'.cell? ⟨eb, 2, none⟩ = some (.int .i64 xid) ∧ w'.cell? ⟨eb, 0, none⟩ = some (.int .i64 zxid))
  (first | exact KP.out _ _ _ H4.out.drew | exact KP.out _ _ _ HA.out | exact KP.out _ _ _ HC.out)
  (fail)
 have HC2 : Hid (St w ((w4.setCell ⟨ob, 0, none⟩ (.int .i64 xid)).setCell ⟨ob, 1, none⟩ (.int .i64 zxid)).drew (bx ob (RpC { p with xid := xid, zxid := zxid } none 0 none 0 none 0 0).toArray 33 :: bx xb (#[.int .i64 kind, .string path, .string data, .slice aa acl.length ac, .int .i64 owner, .int .i64 number, .int .i64 err, .slice sa sn sc]) 61 :: bx (eb + 1) #[.int .i64 0, .int .i64 0, .int .i64 0, .string ⟨#[]⟩, .string ⟨#[]⟩, .int .i64 0, .int .i64 0, .int .i64 0, .int .i64 0, .int .i64 0, .int .i64 0, .int .i64 0, .int .i64 0, .int .i64 0, .slice none 0 0, .slice none 0 0, .slice none 0 0] 33 :: bx eb (#[.int .i64 zxid, .int .i64 session, .int .i64 xid, .int .i64 kind, .string path, .string data, .slice aa acl.length ac, .int .i64 owner, .int .i64 number, .int .i64 err, .slice sa sn sc]) 63 :: [])) := HC
 clear o0 o1 f0 f1 zo ze H4 HA KP HC
 generalize World.drew _ = w5 at HC2 ⊢
 have HC := HC2
 clear HC2
 obtain ⟨q, hq⟩ : ∃ q : Tree.Rp1, { p with xid := xid, zxid := zxid } = q := ⟨_, rfl⟩
 rw [hq] at HC
 have x0 := blk_cell (HC.out.box 1 rfl) 0 (.int .i64 kind) rfl
 have zx := heap_lt (HC.out.box 1 rfl)
 have zo := heap_lt (HC.out.box 0 rfl)
 go_wp2_with (first
  | ((with_reducible refine at_list ?_); refine wpList_load_chunk 17 _ Tryz.underlying33 rfl sizeRp ⟨ob, 0, none⟩ rfl (RpC q none 0 none 0 none 0 0) rfl (box_chunk0 (HC.out.box 0 rfl)) ?_)
  | ((with_reducible refine at_list ?_); refine wpList_store_whole 17 sizeRp (eb + 1) rfl _ _ (HC.out.box 2 rfl) rfl (RpC q none 0 none 0 none 0 0) rfl rfl rfl ?_; intro w9 hg9 hM9 hz9; have HZ := Lib.hid (HC.out.rebox 2 rfl hg9 hM9); clear hg9 hM9 hz9))
 refine bodyPost_ret (results_c1 rfl _ w9 (eb + 1) _ _ _ _ rfl (HZ.out.box 2 rfl) Tryz.underlying33 rfl sizeRp) rfl ?_
 exact ⟨none, 0, by rw [hq]; rfl, (HZ.out.sub (List.nil_sublist _)).nilSlice _ _⟩
theorem reply_err1 (w : World) (tb : Nat) (T : Tree) (h : TreeAt w tb T) (hf : T.fit) (zxid session xid : Int) (path data : ByteArray) (acl : List ARow) (owner number err : Int) (aa : Option Addr) (ac : Nat) (sa : Option Addr) (sn sc : Nat) (hp : path.size ≤ maxLen) (hn : ¬ (0 ≤ number ∧ number < 8)) :
 Calls Tryz.prog 19 #[.pointer (some ⟨tb, 0, none⟩), .agg #[.int .i64 zxid, .int .i64 session, .int .i64 xid, .int .i64 8, .string path, .string data, .slice aa acl.length ac, .int .i64 owner, .int .i64 number, .int .i64 err, .slice sa sn sc]] w (RpPost ⟨{ T.told ⟨8, path, data, acl, owner, number, err⟩ with xid := xid, zxid := zxid, err := err }, []⟩ w) := by
 have CT : Hid (∀ W, Mod (fun _ => False) w W → Calls Tryz.prog 43 #[.pointer (some ⟨tb, 0, none⟩), .agg #[.int .i64 8, .string path, .string data, .slice aa acl.length ac, .int .i64 owner, .int .i64 number, .int .i64 err, .slice sa sn sc]] W (CpPost (.agg (RpC (T.told ⟨8, path, data, acl, owner, number, err⟩) none 0 none 0 none 0 0).toArray) W)) := Lib.hid fun W k => told_any W tb T (h.old k) hf ⟨⟨8, path, data, acl, owner, number, err⟩, aa, ac, sa, sn, sc⟩ hp
 obtain ⟨p, hpp⟩ : ∃ p, T.told ⟨8, path, data, acl, owner, number, err⟩ = p := ⟨_, rfl⟩
 rw [hpp] at CT ⊢
 clear h hf hp
 have HB := Lib.hid (((St.start w).box1 (#[.int .i64 zxid, .int .i64 session, .int .i64 xid, .int .i64 8, .string path, .string data, .slice aa acl.length ac, .int .i64 owner, .int .i64 number, .int .i64 err, .slice sa sn sc]) 63).box1 #[.int .i64 0, .int .i64 0, .int .i64 0, .string ⟨#[]⟩, .string ⟨#[]⟩, .int .i64 0, .int .i64 0, .int .i64 0, .int .i64 0, .int .i64 0, .int .i64 0, .int .i64 0, .int .i64 0, .int .i64 0, .slice none 0 0, .slice none 0 0, .slice none 0 0] 33)
 rw [World.size_alloc] at HB
 go_enter Tryz.func19, Tryz.ntmps19
 go_upto_region 1 with (fail)
 generalize hW : (w.alloc _).alloc _ = W at HB ⊢
 generalize w.heap.size = eb at HB ⊢
 clear hW
 go_upto_region 3 with (fail)
 have ze := heap_lt (HB.out.box 1 rfl)
 go_upto_region 4 with (first
  | ((with_reducible refine at_list ?_); refine wpList_load_chunk 8 _ Tryz.underlying61 rfl sizeTxnT ⟨eb, 3, none⟩ rfl ([.int .i64 8, .string path, .string data, .slice aa acl.length ac, .int .i64 owner, .int .i64 number, .int .i64 err, .slice sa sn sc] : List Value) rfl (box_from [.int .i64 zxid, .int .i64 session, .int .i64 xid] _ (HB.out.box 1 rfl)) ?_; have HB1 := Lib.hid (HB.out.box1 #[.int .i64 0, .string ⟨#[]⟩, .string ⟨#[]⟩, .slice none 0 0, .int .i64 0, .int .i64 0, .int .i64 0, .slice none 0 0] 61))
  | ((with_reducible refine at_list ?_); refine wpList_store_whole 8 sizeTxnT W.heap.size rfl _ _ (HB1.out.box 0 rfl) rfl ([.int .i64 8, .string path, .string data, .slice aa acl.length ac, .int .i64 owner, .int .i64 number, .int .i64 err, .slice sa sn sc] : List Value) rfl rfl rfl ?_; intro w2 hg2 hM2 hz2; have H2 : Hid (St w w2 (bx W.heap.size (#[.int .i64 8, .string path, .string data, .slice aa acl.length ac, .int .i64 owner, .int .i64 number, .int .i64 err, .slice sa sn sc]) 61 :: bx (eb + 1) #[.int .i64 0, .int .i64 0, .int .i64 0, .string ⟨#[]⟩, .string ⟨#[]⟩, .int .i64 0, .int .i64 0, .int .i64 0, .int .i64 0, .int .i64 0, .int .i64 0, .int .i64 0, .int .i64 0, .int .i64 0, .slice none 0 0, .slice none 0 0, .slice none 0 0] 33 :: bx eb (#[.int .i64 zxid, .int .i64 session, .int .i64 xid, .int .i64 8, .string path, .string data, .slice aa acl.length ac, .int .i64 owner, .int .i64 number, .int .i64 err, .slice sa sn sc]) 63 :: [])) := Lib.hid (HB1.out.rebox 0 rfl hg2 hM2); clear hg2 hM2 hz2 HB1))
 clear ze HB
 generalize W.heap.size = xb at H2 ⊢
 have zx := heap_lt (H2.out.box 0 rfl)
 go_upto_region 5 with (first
  | ((with_reducible refine at_list ?_); refine wpList_load_chunk 8 _ Tryz.underlying61 rfl sizeTxnT ⟨xb, 0, none⟩ rfl ([.int .i64 8, .string path, .string data, .slice aa acl.length ac, .int .i64 owner, .int .i64 number, .int .i64 err, .slice sa sn sc] : List Value) rfl (box_chunk0 (H2.out.box 0 rfl)) ?_)
  | (go_at_call 43; refine (CT.out _ H2.out.1).mono ?_; rintro e w3 ⟨rfl, hM3⟩; have H3 := Lib.hid ((H2.out.mod hM3).box1 #[.int .i64 0, .int .i64 0, .int .i64 0, .string ⟨#[]⟩, .string ⟨#[]⟩, .int .i64 0, .int .i64 0, .int .i64 0, .int .i64 0, .int .i64 0, .int .i64 0, .int .i64 0, .int .i64 0, .int .i64 0, .slice none 0 0, .slice none 0 0, .slice none 0 0] 33); clear hM3)
  | ((with_reducible refine at_list ?_); refine wpList_store_whole 17 sizeRp w3.heap.size rfl _ _ (H3.out.box 0 rfl) rfl (RpC p none 0 none 0 none 0 0) rfl rfl rfl ?_; intro w4 hg4 hM4 hz4; have H4 : Hid (St w w4 (bx w3.heap.size (RpC p none 0 none 0 none 0 0).toArray 33 :: bx xb (#[.int .i64 8, .string path, .string data, .slice aa acl.length ac, .int .i64 owner, .int .i64 number, .int .i64 err, .slice sa sn sc]) 61 :: bx (eb + 1) #[.int .i64 0, .int .i64 0, .int .i64 0, .string ⟨#[]⟩, .string ⟨#[]⟩, .int .i64 0, .int .i64 0, .int .i64 0, .int .i64 0, .int .i64 0, .int .i64 0, .int .i64 0, .int .i64 0, .int .i64 0, .slice none 0 0, .slice none 0 0, .slice none 0 0] 33 :: bx eb (#[.int .i64 zxid, .int .i64 session, .int .i64 xid, .int .i64 8, .string path, .string data, .slice aa acl.length ac, .int .i64 owner, .int .i64 number, .int .i64 err, .slice sa sn sc]) 63 :: [])) := Lib.hid (H3.out.rebox 0 rfl hg4 hM4); clear hg4 hM4 hz4 H3))
 clear zx H2 CT
 generalize w3.heap.size = ob at H4 ⊢
 have KP : Hid (∀ (w' : World) (A B : Thing), St w w' (A :: B :: bx (eb + 1) #[.int .i64 0, .int .i64 0, .int .i64 0, .string ⟨#[]⟩, .string ⟨#[]⟩, .int .i64 0, .int .i64 0, .int .i64 0, .int .i64 0, .int .i64 0, .int .i64 0, .int .i64 0, .int .i64 0, .int .i64 0, .slice none 0 0, .slice none 0 0, .slice none 0 0] 33 :: bx eb (#[.int .i64 zxid, .int .i64 session, .int .i64 xid, .int .i64 8, .string path, .string data, .slice aa acl.length ac, .int .i64 owner, .int .i64 number, .int .i64 err, .slice sa sn sc]) 63 :: []) → w'.cell? ⟨eb, 2, none⟩ = some (.int .i64 xid) ∧ w'.cell? ⟨eb, 0, none⟩ = some (.int .i64 zxid)) := Lib.hid fun w' A B h => ⟨blk_cell (h.box 3 rfl) 2 _ rfl, blk_cell (h.box 3 rfl) 0 _ rfl⟩
 have o0 := blk_cell (H4.out.box 0 rfl) 0 (.int .i64 p.xid) rfl
 have o1 := blk_cell (H4.out.box 0 rfl) 1 (.int .i64 p.zxid) rfl
 have f0 := blk_free (H4.out.box 0 rfl) 0
 have f1 := blk_free (H4.out.box 0 rfl) 1
 have zo := heap_lt (H4.out.box 0 rfl)
 have ze := heap_lt (H4.out.box 3 rfl)
 have HA : Hid (St w (w4.drew.setCell ⟨ob, 0, none⟩ (.int .i64 xid)) (bx ob (RpC { p with xid := xid } none 0 none 0 none 0 0).toArray 33 :: bx xb (#[.int .i64 8, .string path, .string data, .slice aa acl.length ac, .int .i64 owner, .int .i64 number, .int .i64 err, .slice sa sn sc]) 61 :: bx (eb + 1) #[.int .i64 0, .int .i64 0, .int .i64 0, .string ⟨#[]⟩, .string ⟨#[]⟩, .int .i64 0, .int .i64 0, .int .i64 0, .int .i64 0, .int .i64 0, .int .i64 0, .int .i64 0, .int .i64 0, .int .i64 0, .slice none 0 0, .slice none 0 0, .slice none 0 0] 33 :: bx eb (#[.int .i64 zxid, .int .i64 session, .int .i64 xid, .int .i64 8, .string path, .string data, .slice aa acl.length ac, .int .i64 owner, .int .i64 number, .int .i64 err, .slice sa sn sc]) 63 :: [])) := Lib.hid (H4.out.drew.set 0 rfl 0 (.int .i64 xid))
 have HC : Hid (St w ((w4.drew.setCell ⟨ob, 0, none⟩ (.int .i64 xid)).setCell ⟨ob, 1, none⟩ (.int .i64 zxid)) (bx ob (RpC { p with xid := xid, zxid := zxid } none 0 none 0 none 0 0).toArray 33 :: bx xb (#[.int .i64 8, .string path, .string data, .slice aa acl.length ac, .int .i64 owner, .int .i64 number, .int .i64 err, .slice sa sn sc]) 61 :: bx (eb + 1) #[.int .i64 0, .int .i64 0, .int .i64 0, .string ⟨#[]⟩, .string ⟨#[]⟩, .int .i64 0, .int .i64 0, .int .i64 0, .int .i64 0, .int .i64 0, .int .i64 0, .int .i64 0, .int .i64 0, .int .i64 0, .slice none 0 0, .slice none 0 0, .slice none 0 0] 33 :: bx eb (#[.int .i64 zxid, .int .i64 session, .int .i64 xid, .int .i64 8, .string path, .string data, .slice aa acl.length ac, .int .i64 owner, .int .i64 number, .int .i64 err, .slice sa sn sc]) 63 :: [])) := Lib.hid (HA.out.set 0 rfl 1 (.int .i64 zxid))
 go_region_held3 (fun w' => w'.cell? ⟨eb, 2, none⟩ = some (.int .i64 xid) ∧ w'.cell? ⟨eb, 0, none⟩ = some (.int .i64 zxid))
  (first | exact KP.out _ _ _ H4.out.drew | exact KP.out _ _ _ HA.out | exact KP.out _ _ _ HC.out)
  (fail)
 have HC2 : Hid (St w ((w4.setCell ⟨ob, 0, none⟩ (.int .i64 xid)).setCell ⟨ob, 1, none⟩ (.int .i64 zxid)).drew (bx ob (RpC { p with xid := xid, zxid := zxid } none 0 none 0 none 0 0).toArray 33 :: bx xb (#[.int .i64 8, .string path, .string data, .slice aa acl.length ac, .int .i64 owner, .int .i64 number, .int .i64 err, .slice sa sn sc]) 61 :: bx (eb + 1) #[.int .i64 0, .int .i64 0, .int .i64 0, .string ⟨#[]⟩, .string ⟨#[]⟩, .int .i64 0, .int .i64 0, .int .i64 0, .int .i64 0, .int .i64 0, .int .i64 0, .int .i64 0, .int .i64 0, .int .i64 0, .slice none 0 0, .slice none 0 0, .slice none 0 0] 33 :: bx eb (#[.int .i64 zxid, .int .i64 session, .int .i64 xid, .int .i64 8, .string path, .string data, .slice aa acl.length ac, .int .i64 owner, .int .i64 number, .int .i64 err, .slice sa sn sc]) 63 :: [])) := HC
 clear o0 o1 f0 f1 zo ze H4 HA KP HC
 generalize World.drew _ = w5 at HC2 ⊢
 have HC := HC2
 clear HC2
 obtain ⟨q, hq⟩ : ∃ q : Tree.Rp1, { p with xid := xid, zxid := zxid } = q := ⟨_, rfl⟩
 rw [hq] at HC
 have x0 := blk_cell (HC.out.box 1 rfl) 0 (.int .i64 8) rfl
 have zx := heap_lt (HC.out.box 1 rfl)
 have x6 := blk_cell (HC.out.box 1 rfl) 6 (.int .i64 err) rfl
 have x5 := blk_cell (HC.out.box 1 rfl) 5 (.int .i64 number) rfl
 have o2 := blk_cell (HC.out.box 0 rfl) 2 (.int .i64 q.err) rfl
 have f2 := blk_free (HC.out.box 0 rfl) 2
 have zo := heap_lt (HC.out.box 0 rfl)
 have HE : Hid (St w (w5.setCell ⟨ob, 2, none⟩ (.int .i64 err)) (bx ob (RpC { q with err := err } none 0 none 0 none 0 0).toArray 33 :: bx xb (#[.int .i64 8, .string path, .string data, .slice aa acl.length ac, .int .i64 owner, .int .i64 number, .int .i64 err, .slice sa sn sc]) 61 :: bx (eb + 1) #[.int .i64 0, .int .i64 0, .int .i64 0, .string ⟨#[]⟩, .string ⟨#[]⟩, .int .i64 0, .int .i64 0, .int .i64 0, .int .i64 0, .int .i64 0, .int .i64 0, .int .i64 0, .int .i64 0, .int .i64 0, .slice none 0 0, .slice none 0 0, .slice none 0 0] 33 :: bx eb (#[.int .i64 zxid, .int .i64 session, .int .i64 xid, .int .i64 8, .string path, .string data, .slice aa acl.length ac, .int .i64 owner, .int .i64 number, .int .i64 err, .slice sa sn sc]) 63 :: [])) := Lib.hid (HC.out.set 0 rfl 2 (.int .i64 err))
 go_upto_region 14 with (fail)
 clear x0 x5 x6 o2 f2 zo HC zx
 generalize w5.setCell _ _ = w6 at HE ⊢
 have x5 := blk_cell (HE.out.box 1 rfl) 5 (.int .i64 number) rfl
 have zx := heap_lt (HE.out.box 1 rfl)
 by_cases h0 : 0 ≤ number
 ·have h8 : ¬ number < 8 := fun h => hn ⟨h0, h⟩
  clear hn
  have zo := heap_lt (HE.out.box 0 rfl)
  go_wp2_with (first
   | ((with_reducible refine at_list ?_); refine wpList_load_chunk 17 _ Tryz.underlying33 rfl sizeRp ⟨ob, 0, none⟩ rfl (RpC { q with err := err } none 0 none 0 none 0 0) rfl (box_chunk0 (HE.out.box 0 rfl)) ?_)
   | ((with_reducible refine at_list ?_); refine wpList_store_whole 17 sizeRp (eb + 1) rfl _ _ (HE.out.box 2 rfl) rfl (RpC { q with err := err } none 0 none 0 none 0 0) rfl rfl rfl ?_; intro w9 hg9 hM9 hz9; have HZ := Lib.hid (HE.out.rebox 2 rfl hg9 hM9); clear hg9 hM9 hz9))
  refine bodyPost_ret (results_c1 rfl _ w9 (eb + 1) _ _ _ _ rfl (HZ.out.box 2 rfl) Tryz.underlying33 rfl sizeRp) rfl ?_
  exact ⟨none, 0, by rw [← hq]; rfl, (HZ.out.sub (List.nil_sublist _)).nilSlice _ _⟩
 ·clear hn
  have zo := heap_lt (HE.out.box 0 rfl)
  go_wp2_with (first
   | ((with_reducible refine at_list ?_); refine wpList_load_chunk 17 _ Tryz.underlying33 rfl sizeRp ⟨ob, 0, none⟩ rfl (RpC { q with err := err } none 0 none 0 none 0 0) rfl (box_chunk0 (HE.out.box 0 rfl)) ?_)
   | ((with_reducible refine at_list ?_); refine wpList_store_whole 17 sizeRp (eb + 1) rfl _ _ (HE.out.box 2 rfl) rfl (RpC { q with err := err } none 0 none 0 none 0 0) rfl rfl rfl ?_; intro w9 hg9 hM9 hz9; have HZ := Lib.hid (HE.out.rebox 2 rfl hg9 hM9); clear hg9 hM9 hz9))
  refine bodyPost_ret (results_c1 rfl _ w9 (eb + 1) _ _ _ _ rfl (HZ.out.box 2 rfl) Tryz.underlying33 rfl sizeRp) rfl ?_
  exact ⟨none, 0, by rw [← hq]; rfl, (HZ.out.sub (List.nil_sublist _)).nilSlice _ _⟩
theorem reply_err2 (w : World) (tb : Nat) (T : Tree) (h : TreeAt w tb T) (hf : T.fit) (zxid session xid : Int) (path data : ByteArray) (acl : List ARow) (owner number err : Int) (aa : Option Addr) (ac : Nat) (sa : Option Addr) (sn sc : Nat) (hp : path.size ≤ maxLen) (m : Nat) (hm : m < 8) (hnm : number = (m : Int)) :
 Calls Tryz.prog 19 #[.pointer (some ⟨tb, 0, none⟩), .agg #[.int .i64 zxid, .int .i64 session, .int .i64 xid, .int .i64 8, .string path, .string data, .slice aa acl.length ac, .int .i64 owner, .int .i64 number, .int .i64 err, .slice sa sn sc]] w (RpPost ⟨{ T.told ⟨8, path, data, acl, owner, number, err⟩ with xid := xid, zxid := zxid, err := err }, List.replicate m { Tree.rp0 with err := 111 } ++ [{ Tree.rp0 with err := err }]⟩ w) := by
 have CT : Hid (∀ W, Mod (fun _ => False) w W → Calls Tryz.prog 43 #[.pointer (some ⟨tb, 0, none⟩), .agg #[.int .i64 8, .string path, .string data, .slice aa acl.length ac, .int .i64 owner, .int .i64 number, .int .i64 err, .slice sa sn sc]] W (CpPost (.agg (RpC (T.told ⟨8, path, data, acl, owner, number, err⟩) none 0 none 0 none 0 0).toArray) W)) := Lib.hid fun W k => told_any W tb T (h.old k) hf ⟨⟨8, path, data, acl, owner, number, err⟩, aa, ac, sa, sn, sc⟩ hp
 obtain ⟨p, hpp⟩ : ∃ p, T.told ⟨8, path, data, acl, owner, number, err⟩ = p := ⟨_, rfl⟩
 rw [hpp] at CT ⊢
 subst hnm
 clear h hf hp
 have HB := Lib.hid (((St.start w).box1 (#[.int .i64 zxid, .int .i64 session, .int .i64 xid, .int .i64 8, .string path, .string data, .slice aa acl.length ac, .int .i64 owner, .int .i64 (m : Int), .int .i64 err, .slice sa sn sc]) 63).box1 #[.int .i64 0, .int .i64 0, .int .i64 0, .string ⟨#[]⟩, .string ⟨#[]⟩, .int .i64 0, .int .i64 0, .int .i64 0, .int .i64 0, .int .i64 0, .int .i64 0, .int .i64 0, .int .i64 0, .int .i64 0, .slice none 0 0, .slice none 0 0, .slice none 0 0] 33)
 rw [World.size_alloc] at HB
 go_enter Tryz.func19, Tryz.ntmps19
 go_upto_region 1 with (fail)
 generalize hW : (w.alloc _).alloc _ = W at HB ⊢
 generalize w.heap.size = eb at HB ⊢
 clear hW
 go_upto_region 3 with (fail)
 have ze := heap_lt (HB.out.box 1 rfl)
 go_upto_region 4 with (first
  | ((with_reducible refine at_list ?_); refine wpList_load_chunk 8 _ Tryz.underlying61 rfl sizeTxnT ⟨eb, 3, none⟩ rfl ([.int .i64 8, .string path, .string data, .slice aa acl.length ac, .int .i64 owner, .int .i64 (m : Int), .int .i64 err, .slice sa sn sc] : List Value) rfl (box_from [.int .i64 zxid, .int .i64 session, .int .i64 xid] _ (HB.out.box 1 rfl)) ?_; have HB1 := Lib.hid (HB.out.box1 #[.int .i64 0, .string ⟨#[]⟩, .string ⟨#[]⟩, .slice none 0 0, .int .i64 0, .int .i64 0, .int .i64 0, .slice none 0 0] 61))
  | ((with_reducible refine at_list ?_); refine wpList_store_whole 8 sizeTxnT W.heap.size rfl _ _ (HB1.out.box 0 rfl) rfl ([.int .i64 8, .string path, .string data, .slice aa acl.length ac, .int .i64 owner, .int .i64 (m : Int), .int .i64 err, .slice sa sn sc] : List Value) rfl rfl rfl ?_; intro w2 hg2 hM2 hz2; have H2 : Hid (St w w2 (bx W.heap.size (#[.int .i64 8, .string path, .string data, .slice aa acl.length ac, .int .i64 owner, .int .i64 (m : Int), .int .i64 err, .slice sa sn sc]) 61 :: bx (eb + 1) #[.int .i64 0, .int .i64 0, .int .i64 0, .string ⟨#[]⟩, .string ⟨#[]⟩, .int .i64 0, .int .i64 0, .int .i64 0, .int .i64 0, .int .i64 0, .int .i64 0, .int .i64 0, .int .i64 0, .int .i64 0, .slice none 0 0, .slice none 0 0, .slice none 0 0] 33 :: bx eb (#[.int .i64 zxid, .int .i64 session, .int .i64 xid, .int .i64 8, .string path, .string data, .slice aa acl.length ac, .int .i64 owner, .int .i64 (m : Int), .int .i64 err, .slice sa sn sc]) 63 :: [])) := Lib.hid (HB1.out.rebox 0 rfl hg2 hM2); clear hg2 hM2 hz2 HB1))
 clear ze HB
 generalize W.heap.size = xb at H2 ⊢
 have zx := heap_lt (H2.out.box 0 rfl)
 go_upto_region 5 with (first
  | ((with_reducible refine at_list ?_); refine wpList_load_chunk 8 _ Tryz.underlying61 rfl sizeTxnT ⟨xb, 0, none⟩ rfl ([.int .i64 8, .string path, .string data, .slice aa acl.length ac, .int .i64 owner, .int .i64 (m : Int), .int .i64 err, .slice sa sn sc] : List Value) rfl (box_chunk0 (H2.out.box 0 rfl)) ?_)
  | (go_at_call 43; refine (CT.out _ H2.out.1).mono ?_; rintro e w3 ⟨rfl, hM3⟩; have H3 := Lib.hid ((H2.out.mod hM3).box1 #[.int .i64 0, .int .i64 0, .int .i64 0, .string ⟨#[]⟩, .string ⟨#[]⟩, .int .i64 0, .int .i64 0, .int .i64 0, .int .i64 0, .int .i64 0, .int .i64 0, .int .i64 0, .int .i64 0, .int .i64 0, .slice none 0 0, .slice none 0 0, .slice none 0 0] 33); clear hM3)
  | ((with_reducible refine at_list ?_); refine wpList_store_whole 17 sizeRp w3.heap.size rfl _ _ (H3.out.box 0 rfl) rfl (RpC p none 0 none 0 none 0 0) rfl rfl rfl ?_; intro w4 hg4 hM4 hz4; have H4 : Hid (St w w4 (bx w3.heap.size (RpC p none 0 none 0 none 0 0).toArray 33 :: bx xb (#[.int .i64 8, .string path, .string data, .slice aa acl.length ac, .int .i64 owner, .int .i64 (m : Int), .int .i64 err, .slice sa sn sc]) 61 :: bx (eb + 1) #[.int .i64 0, .int .i64 0, .int .i64 0, .string ⟨#[]⟩, .string ⟨#[]⟩, .int .i64 0, .int .i64 0, .int .i64 0, .int .i64 0, .int .i64 0, .int .i64 0, .int .i64 0, .int .i64 0, .int .i64 0, .slice none 0 0, .slice none 0 0, .slice none 0 0] 33 :: bx eb (#[.int .i64 zxid, .int .i64 session, .int .i64 xid, .int .i64 8, .string path, .string data, .slice aa acl.length ac, .int .i64 owner, .int .i64 (m : Int), .int .i64 err, .slice sa sn sc]) 63 :: [])) := Lib.hid (H3.out.rebox 0 rfl hg4 hM4); clear hg4 hM4 hz4 H3))
 clear zx H2 CT
 generalize w3.heap.size = ob at H4 ⊢
 have KP : Hid (∀ (w' : World) (A B : Thing), St w w' (A :: B :: bx (eb + 1) #[.int .i64 0, .int .i64 0, .int .i64 0, .string ⟨#[]⟩, .string ⟨#[]⟩, .int .i64 0, .int .i64 0, .int .i64 0, .int .i64 0, .int .i64 0, .int .i64 0, .int .i64 0, .int .i64 0, .int .i64 0, .slice none 0 0, .slice none 0 0, .slice none 0 0] 33 :: bx eb (#[.int .i64 zxid, .int .i64 session, .int .i64 xid, .int .i64 8, .string path, .string data, .slice aa acl.length ac, .int .i64 owner, .int .i64 (m : Int), .int .i64 err, .slice sa sn sc]) 63 :: []) → w'.cell? ⟨eb, 2, none⟩ = some (.int .i64 xid) ∧ w'.cell? ⟨eb, 0, none⟩ = some (.int .i64 zxid)) := Lib.hid fun w' A B h => ⟨blk_cell (h.box 3 rfl) 2 _ rfl, blk_cell (h.box 3 rfl) 0 _ rfl⟩
 have o0 := blk_cell (H4.out.box 0 rfl) 0 (.int .i64 p.xid) rfl
 have o1 := blk_cell (H4.out.box 0 rfl) 1 (.int .i64 p.zxid) rfl
 have f0 := blk_free (H4.out.box 0 rfl) 0
 have f1 := blk_free (H4.out.box 0 rfl) 1
 have zo := heap_lt (H4.out.box 0 rfl)
 have ze := heap_lt (H4.out.box 3 rfl)
 have HA : Hid (St w (w4.drew.setCell ⟨ob, 0, none⟩ (.int .i64 xid)) (bx ob (RpC { p with xid := xid } none 0 none 0 none 0 0).toArray 33 :: bx xb (#[.int .i64 8, .string path, .string data, .slice aa acl.length ac, .int .i64 owner, .int .i64 (m : Int), .int .i64 err, .slice sa sn sc]) 61 :: bx (eb + 1) #[.int .i64 0, .int .i64 0, .int .i64 0, .string ⟨#[]⟩, .string ⟨#[]⟩, .int .i64 0, .int .i64 0, .int .i64 0, .int .i64 0, .int .i64 0, .int .i64 0, .int .i64 0, .int .i64 0, .int .i64 0, .slice none 0 0, .slice none 0 0, .slice none 0 0] 33 :: bx eb (#[.int .i64 zxid, .int .i64 session, .int .i64 xid, .int .i64 8, .string path, .string data, .slice aa acl.length ac, .int .i64 owner, .int .i64 (m : Int), .int .i64 err, .slice sa sn sc]) 63 :: [])) := Lib.hid (H4.out.drew.set 0 rfl 0 (.int .i64 xid))
 have HC : Hid (St w ((w4.drew.setCell ⟨ob, 0, none⟩ (.int .i64 xid)).setCell ⟨ob, 1, none⟩ (.int .i64 zxid)) (bx ob (RpC { p with xid := xid, zxid := zxid } none 0 none 0 none 0 0).toArray 33 :: bx xb (#[.int .i64 8, .string path, .string data, .slice aa acl.length ac, .int .i64 owner, .int .i64 (m : Int), .int .i64 err, .slice sa sn sc]) 61 :: bx (eb + 1) #[.int .i64 0, .int .i64 0, .int .i64 0, .string ⟨#[]⟩, .string ⟨#[]⟩, .int .i64 0, .int .i64 0, .int .i64 0, .int .i64 0, .int .i64 0, .int .i64 0, .int .i64 0, .int .i64 0, .int .i64 0, .slice none 0 0, .slice none 0 0, .slice none 0 0] 33 :: bx eb (#[.int .i64 zxid, .int .i64 session, .int .i64 xid, .int .i64 8, .string path, .string data, .slice aa acl.length ac, .int .i64 owner, .int .i64 (m : Int), .int .i64 err, .slice sa sn sc]) 63 :: [])) := Lib.hid (HA.out.set 0 rfl 1 (.int .i64 zxid))
 go_region_held3 (fun w' => w'.cell? ⟨eb, 2, none⟩ = some (.int .i64 xid) ∧ w'.cell? ⟨eb, 0, none⟩ = some (.int .i64 zxid))
  (first | exact KP.out _ _ _ H4.out.drew | exact KP.out _ _ _ HA.out | exact KP.out _ _ _ HC.out)
  (fail)
 have HC2 : Hid (St w ((w4.setCell ⟨ob, 0, none⟩ (.int .i64 xid)).setCell ⟨ob, 1, none⟩ (.int .i64 zxid)).drew (bx ob (RpC { p with xid := xid, zxid := zxid } none 0 none 0 none 0 0).toArray 33 :: bx xb (#[.int .i64 8, .string path, .string data, .slice aa acl.length ac, .int .i64 owner, .int .i64 (m : Int), .int .i64 err, .slice sa sn sc]) 61 :: bx (eb + 1) #[.int .i64 0, .int .i64 0, .int .i64 0, .string ⟨#[]⟩, .string ⟨#[]⟩, .int .i64 0, .int .i64 0, .int .i64 0, .int .i64 0, .int .i64 0, .int .i64 0, .int .i64 0, .int .i64 0, .int .i64 0, .slice none 0 0, .slice none 0 0, .slice none 0 0] 33 :: bx eb (#[.int .i64 zxid, .int .i64 session, .int .i64 xid, .int .i64 8, .string path, .string data, .slice aa acl.length ac, .int .i64 owner, .int .i64 (m : Int), .int .i64 err, .slice sa sn sc]) 63 :: [])) := HC
 clear o0 o1 f0 f1 zo ze H4 HA KP HC
 generalize World.drew _ = w5 at HC2 ⊢
 have HC := HC2
 clear HC2
 obtain ⟨q, hq⟩ : ∃ q : Tree.Rp1, { p with xid := xid, zxid := zxid } = q := ⟨_, rfl⟩
 rw [hq] at HC
 have x0 := blk_cell (HC.out.box 1 rfl) 0 (.int .i64 8) rfl
 have zx := heap_lt (HC.out.box 1 rfl)
 have x6 := blk_cell (HC.out.box 1 rfl) 6 (.int .i64 err) rfl
 have x5 := blk_cell (HC.out.box 1 rfl) 5 (.int .i64 m) rfl
 have o2 := blk_cell (HC.out.box 0 rfl) 2 (.int .i64 q.err) rfl
 have f2 := blk_free (HC.out.box 0 rfl) 2
 have zo := heap_lt (HC.out.box 0 rfl)
 have HE : Hid (St w (w5.setCell ⟨ob, 2, none⟩ (.int .i64 err)) (bx ob (RpC { q with err := err } none 0 none 0 none 0 0).toArray 33 :: bx xb (#[.int .i64 8, .string path, .string data, .slice aa acl.length ac, .int .i64 owner, .int .i64 m, .int .i64 err, .slice sa sn sc]) 61 :: bx (eb + 1) #[.int .i64 0, .int .i64 0, .int .i64 0, .string ⟨#[]⟩, .string ⟨#[]⟩, .int .i64 0, .int .i64 0, .int .i64 0, .int .i64 0, .int .i64 0, .int .i64 0, .int .i64 0, .int .i64 0, .int .i64 0, .slice none 0 0, .slice none 0 0, .slice none 0 0] 33 :: bx eb (#[.int .i64 zxid, .int .i64 session, .int .i64 xid, .int .i64 8, .string path, .string data, .slice aa acl.length ac, .int .i64 owner, .int .i64 m, .int .i64 err, .slice sa sn sc]) 63 :: [])) := Lib.hid (HC.out.set 0 rfl 2 (.int .i64 err))
 have h0 : (0 : Int) ≤ m := by omega
 have h8 : (m : Int) < 8 := by omega
 go_upto_region 15 with (fail)
 clear x0 x5 x6 o2 f2 zo HC zx
 generalize w5.setCell _ _ = w6 at HE ⊢
 have KP : Hid (∀ (w' : World) (G : List Thing), St w w' (bx xb (#[.int .i64 8, .string path, .string data, .slice aa acl.length ac, .int .i64 owner, .int .i64 m, .int .i64 err, .slice sa sn sc]) 61 :: G) → w'.cell? ⟨xb, 5, none⟩ = some (.int .i64 m) ∧ w'.cell? ⟨xb, 6, none⟩ = some (.int .i64 err)) := Lib.hid fun w' G h => ⟨blk_cell (h.box 0 rfl) 5 _ rfl, blk_cell (h.box 0 rfl) 6 _ rfl⟩
 have zx := heap_lt (HE.out.box 1 rfl)
 have zo := heap_lt (HE.out.box 0 rfl)
 obtain ⟨ip, iz, hi1, hi2, hi3, hi4, hi5⟩ := info_rowT infoRpR
 have HI := Lib.hid (And.intro hi1 (And.intro hi2 (And.intro hi3 (And.intro hi4 hi5))))
 have CR : Hid (∀ (W : World) (b : Nat), W.heap[b]? = some (.cells #[.int .i64 0, .int .i64 0, .int .i64 111, .string ⟨#[]⟩, .string ⟨#[]⟩, .int .i64 0, .int .i64 0, .int .i64 0, .int .i64 0, .int .i64 0, .int .i64 0, .int .i64 0, .int .i64 0, .int .i64 0, .slice none 0 0, .slice none 0 0, .slice none 0 0] 33 (0, 0)) → Calls Tryz.prog 44 #[.slice (some ⟨b, 0, none⟩) 1 1, .int .i64 m] W (NewSl 33 17 (timesL m ([.int .i64 0, .int .i64 0, .int .i64 111, .string ⟨#[]⟩, .string ⟨#[]⟩, .int .i64 0, .int .i64 0, .int .i64 0, .int .i64 0, .int .i64 0, .int .i64 0, .int .i64 0, .int .i64 0, .int .i64 0, .slice none 0 0, .slice none 0 0, .slice none 0 0] : List Value)) m W)) := Lib.hid fun W b hb => repeat_any (some ⟨b, 0, none⟩) ([.int .i64 0, .int .i64 0, .int .i64 111, .string ⟨#[]⟩, .string ⟨#[]⟩, .int .i64 0, .int .i64 0, .int .i64 0, .int .i64 0, .int .i64 0, .int .i64 0, .int .i64 0, .int .i64 0, .int .i64 0, .slice none 0 0, .slice none 0 0, .slice none 0 0] : List Value) rfl (fun u hu => List.all_eq_true.1 (show ([.int .i64 0, .int .i64 0, .int .i64 111, .string ⟨#[]⟩, .string ⟨#[]⟩, .int .i64 0, .int .i64 0, .int .i64 0, .int .i64 0, .int .i64 0, .int .i64 0, .int .i64 0, .int .i64 0, .int .i64 0, .slice none 0 0, .slice none 0 0, .slice none 0 0] : List Value).all (·.oneCell') = true from rfl) u hu) W (Sl.new (E := 33) (k := 17) (n := 1) hb rfl (by unfold maxLen; omega)).rd m hm
 clear hi1 hi2 hi3 hi4 hi5
 have HA := Lib.hid HE.out.drew
 refine wp_region_last_held (n := 11) (S := fun w' => w'.cell? ⟨xb, 5, none⟩ = some (.int .i64 m) ∧ w'.cell? ⟨xb, 6, none⟩ = some (.int .i64 err)) (by kernel_rfl) rfl (by simp only [List.pop_toArray, List.dropLast_cons_cons, List.dropLast_singleton]; rfl) (by kernel_rfl) (by kernel_rfl) (KP.out _ _ HA.out.tail) (fun hHeld => ?_)
 clear HE
 generalize w6.drew = V at HA hHeld ⊢
 refine tk 0 (some 58) ?_ rfl rfl hHeld ?_ ?_
 rotate_left
 ·intro wq hSw; (try dsimp only at hSw); go_simp; try with_reducible rfl
 try simp only [Act.put, Nat.zero_add, zA, zB, zC]
 refine tk 2 (some 60) ?_ rfl rfl hHeld ?_ ?_
 rotate_left
 ·intro wq hSw; (try dsimp only at hSw); go_simp; try with_reducible rfl
 refine tk 3 (some 61) ?_ rfl rfl hHeld ?_ ?_
 rotate_left
 ·intro wq hSw; (try dsimp only at hSw); go_simp; try with_reducible rfl
 try simp only [Act.put, Nat.zero_add, zA, zB, zC]
 refine tk 5 (some 63) ?_ rfl rfl hHeld ?_ ?_
 rotate_left
 ·intro wq hSw; (try dsimp only at hSw); go_simp; try with_reducible rfl
 refine tk 6 (some 64) ?_ rfl rfl hHeld ?_ ?_
 rotate_left
 ·intro wq hSw; (try dsimp only at hSw); go_simp; try with_reducible rfl
 refine tk 7 (some 65) ?_ rfl rfl hHeld ?_ ?_
 rotate_left
 ·intro wq hSw; (try dsimp only at hSw); go_simp; try with_reducible rfl
 try simp only [Act.put, Nat.zero_add, zA, zB, zC]
 refine wpAnyH_ready (rs := [1, 8]) (by kernel_rfl) (by simp) ?_
 refine (AllReadyH.cons (o := ⟨some 59, _, _, _, _, _⟩) rfl (fun K hK => ?_) (AllReadyH.cons (o := ⟨some 66, _, _, _, _, _⟩) rfl (fun K hK => ?_) AllReadyH.nil))
 focus
  go_simp
  have h1b := heap_alloc_new V (.cells #[.int .i64 0, .int .i64 0, .int .i64 111, .string ⟨#[]⟩, .string ⟨#[]⟩, .int .i64 0, .int .i64 0, .int .i64 0, .int .i64 0, .int .i64 0, .int .i64 0, .int .i64 0, .int .i64 0, .int .i64 0, .slice none 0 0, .slice none 0 0, .slice none 0 0] 33)
  have H1 := Lib.hid (HA.out.mod ((Mod.refl _ V).alloc (.cells #[.int .i64 0, .int .i64 0, .int .i64 111, .string ⟨#[]⟩, .string ⟨#[]⟩, .int .i64 0, .int .i64 0, .int .i64 0, .int .i64 0, .int .i64 0, .int .i64 0, .int .i64 0, .int .i64 0, .int .i64 0, .slice none 0 0, .slice none 0 0, .slice none 0 0] 33)))
  refine hK.out _ _ (KP.out _ _ H1.out.tail) (fun hHeld => ?_)
  clear hK K
  try simp only [Act.put, Nat.zero_add, zA, zB, zC]
  generalize V.alloc _ = V1 at h1b H1 ⊢
  generalize V.heap.size = b1 at h1b ⊢
  clear HA
  refine wpAnyH_ready (rs := [4, 8]) (by kernel_rfl) (by simp) ?_
  refine (AllReadyH.cons (o := ⟨some 62, _, _, _, _, _⟩) rfl (fun K hK => ?_) (AllReadyH.cons (o := ⟨some 66, _, _, _, _, _⟩) rfl (fun K hK => ?_) AllReadyH.nil))
  focus
   go_simp
   refine (CR.out V1 b1 h1b).mono ?_
   rintro e w7 ⟨a7, cap7, rfl, hs7, hf7, hM7⟩
   have H7 := Lib.hid (H1.out.newSlice hM7 hs7 hf7)
   clear hM7 hs7 hf7
   refine hK.out _ _ (KP.out _ _ H7.out.tail.tail) (fun hHeld => ?_)
   clear hK K
   try simp only [Act.put, Nat.zero_add, zA, zB, zC]
   refine wpAnyH_ready (rs := [8]) (by kernel_rfl) (by simp) ?_
   refine (AllReadyH.cons (o := ⟨some 66, _, _, _, _, _⟩) rfl (fun K hK => ?_) AllReadyH.nil)
   go_simp
   have h2b := heap_alloc_new w7 (.cells #[.int .i64 0, .int .i64 0, .int .i64 err, .string ⟨#[]⟩, .string ⟨#[]⟩, .int .i64 0, .int .i64 0, .int .i64 0, .int .i64 0, .int .i64 0, .int .i64 0, .int .i64 0, .int .i64 0, .int .i64 0, .slice none 0 0, .slice none 0 0, .slice none 0 0] 33)
   have H8 := Lib.hid (H7.out.mod ((Mod.refl _ w7).alloc (.cells #[.int .i64 0, .int .i64 0, .int .i64 err, .string ⟨#[]⟩, .string ⟨#[]⟩, .int .i64 0, .int .i64 0, .int .i64 0, .int .i64 0, .int .i64 0, .int .i64 0, .int .i64 0, .int .i64 0, .int .i64 0, .slice none 0 0, .slice none 0 0, .slice none 0 0] 33)))
   refine hK.out _ _ (KP.out _ _ H8.out.tail.tail) (fun hHeld => ?_)
   clear hK K
   try simp only [Act.put, Nat.zero_add, zA, zB, zC]
   refine wpAnyH_ready (rs := [9]) (by kernel_rfl) (by simp) ?_
   refine (AllReadyH.cons (o := ⟨some 67, _, _, _, _, _⟩) rfl (fun K hK => ?_) AllReadyH.nil)
   refine step_append rfl rfl 33 ip iz 17 200 (by kernel_rfl) HI.out.1 HI.out.2.1 HI.out.2.2.1 HI.out.2.2.2.1 HI.out.2.2.2.2 a7 m cap7 (timesL m ([.int .i64 0, .int .i64 0, .int .i64 111, .string ⟨#[]⟩, .string ⟨#[]⟩, .int .i64 0, .int .i64 0, .int .i64 0, .int .i64 0, .int .i64 0, .int .i64 0, .int .i64 0, .int .i64 0, .int .i64 0, .slice none 0 0, .slice none 0 0, .slice none 0 0] : List Value)) rfl (H8.out.slice 0 rfl) (some ⟨w7.heap.size, 0, none⟩) 1 1 ([.int .i64 0, .int .i64 0, .int .i64 err, .string ⟨#[]⟩, .string ⟨#[]⟩, .int .i64 0, .int .i64 0, .int .i64 0, .int .i64 0, .int .i64 0, .int .i64 0, .int .i64 0, .int .i64 0, .int .i64 0, .slice none 0 0, .slice none 0 0, .slice none 0 0] : List Value) rfl (Sl.new (E := 33) (k := 17) (n := 1) h2b rfl (by unfold maxLen; omega)).rd (fun u hu => List.all_eq_true.1 (show ([.int .i64 0, .int .i64 0, .int .i64 err, .string ⟨#[]⟩, .string ⟨#[]⟩, .int .i64 0, .int .i64 0, .int .i64 0, .int .i64 0, .int .i64 0, .int .i64 0, .int .i64 0, .int .i64 0, .int .i64 0, .slice none 0 0, .slice none 0 0, .slice none 0 0] : List Value).all (·.oneCell') = true from rfl) u hu) (by unfold maxLen; omega) (by omega) ?_
   intro a9 cap9 w9 hS9 hM9 hF9 hN9 hR9
   have H9 := Lib.hid (H8.out.regrow 0 rfl hS9 hM9 hF9)
   clear hS9 hM9 hF9 hN9 hR9
   refine hK.out _ _ (KP.out _ _ H9.out.tail.tail) (fun hHeld => ?_)
   clear hK K
   try simp only [Act.put, Nat.zero_add, zA, zB, zC]
   refine tk 10 (some 68) ?_ rfl rfl hHeld ?_ ?_
   rotate_left
   ·intro wq hSw; (try dsimp only at hSw); go_simp; try with_reducible rfl
   try simp only [Act.put, Nat.zero_add, zA, zB, zC]
   refine wpAnyH_done (by kernel_rfl) ?_ _
   have o16 := blk_cell (H9.out.box 1 rfl) 16 _ rfl
   have f16 := blk_free (H9.out.box 1 rfl) 16
   have zo := heap_lt (H9.out.box 1 rfl)
   refine LastQ.step rfl rfl ?_
   go_simp
   have HX : Hid (St w (w9.setCell ⟨ob, 16, none⟩ (.slice a9 (m + 1) cap9)) (sl 33 17 a9 (m + 1) cap9 (timesL m ([.int .i64 0, .int .i64 0, .int .i64 111, .string ⟨#[]⟩, .string ⟨#[]⟩, .int .i64 0, .int .i64 0, .int .i64 0, .int .i64 0, .int .i64 0, .int .i64 0, .int .i64 0, .int .i64 0, .int .i64 0, .slice none 0 0, .slice none 0 0, .slice none 0 0] : List Value) ++ ([.int .i64 0, .int .i64 0, .int .i64 err, .string ⟨#[]⟩, .string ⟨#[]⟩, .int .i64 0, .int .i64 0, .int .i64 0, .int .i64 0, .int .i64 0, .int .i64 0, .int .i64 0, .int .i64 0, .int .i64 0, .slice none 0 0, .slice none 0 0, .slice none 0 0] : List Value)) :: bx ob (RpC { q with err := err } none 0 none 0 a9 (m + 1) cap9).toArray 33 :: bx xb (#[.int .i64 8, .string path, .string data, .slice aa acl.length ac, .int .i64 owner, .int .i64 m, .int .i64 err, .slice sa sn sc]) 61 :: bx (eb + 1) #[.int .i64 0, .int .i64 0, .int .i64 0, .string ⟨#[]⟩, .string ⟨#[]⟩, .int .i64 0, .int .i64 0, .int .i64 0, .int .i64 0, .int .i64 0, .int .i64 0, .int .i64 0, .int .i64 0, .int .i64 0, .slice none 0 0, .slice none 0 0, .slice none 0 0] 33 :: bx eb (#[.int .i64 zxid, .int .i64 session, .int .i64 xid, .int .i64 8, .string path, .string data, .slice aa acl.length ac, .int .i64 owner, .int .i64 m, .int .i64 err, .slice sa sn sc]) 63 :: [])) := Lib.hid (H9.out.set 1 rfl 16 _)
   clear H9 o16 f16 zo hHeld
   generalize w9.setCell _ _ = V9 at HX ⊢
   have zo := heap_lt (HX.out.box 1 rfl)
   go_wp2_with (first
    | ((with_reducible refine at_list ?_); refine wpList_load_chunk 17 _ Tryz.underlying33 rfl sizeRp ⟨ob, 0, none⟩ rfl (RpC { q with err := err } none 0 none 0 a9 (m + 1) cap9) rfl (box_chunk0 (HX.out.box 1 rfl)) ?_)
    | ((with_reducible refine at_list ?_); refine wpList_store_whole 17 sizeRp (eb + 1) rfl _ _ (HX.out.box 3 rfl) rfl (RpC { q with err := err } none 0 none 0 a9 (m + 1) cap9) rfl rfl rfl ?_; intro w9 hg9 hM9 hz9; have HZ := Lib.hid (HX.out.rebox 3 rfl hg9 hM9); clear hg9 hM9 hz9))
   refine bodyPost_ret (results_c1 rfl _ w9 (eb + 1) _ _ _ _ rfl (HZ.out.box 3 rfl) Tryz.underlying33 rfl sizeRp) rfl ?_
   have hl : (List.replicate m ({ Tree.rp0 with err := 111 } : Tree.Rp1) ++ [{ Tree.rp0 with err := err }]).length = m + 1 := by simp
   refine ⟨a9, cap9, ?_, ?_⟩
   ·rw [hl, ← hq]
   ·rw [hl, List.flatMap_append, ← timesL_flat m ({ Tree.rp0 with err := 111 } : Tree.Rp1) rpS]; exact HZ.out.one 0 rfl
  focus
   go_simp
   have h2b := heap_alloc_new V1 (.cells #[.int .i64 0, .int .i64 0, .int .i64 err, .string ⟨#[]⟩, .string ⟨#[]⟩, .int .i64 0, .int .i64 0, .int .i64 0, .int .i64 0, .int .i64 0, .int .i64 0, .int .i64 0, .int .i64 0, .int .i64 0, .slice none 0 0, .slice none 0 0, .slice none 0 0] 33)
   have h1c := ((Mod.refl (fun _ => False) V1).alloc (.cells #[.int .i64 0, .int .i64 0, .int .i64 err, .string ⟨#[]⟩, .string ⟨#[]⟩, .int .i64 0, .int .i64 0, .int .i64 0, .int .i64 0, .int .i64 0, .int .i64 0, .int .i64 0, .int .i64 0, .int .i64 0, .slice none 0 0, .slice none 0 0, .slice none 0 0] 33)).heap h1b id
   have H2 := Lib.hid (H1.out.mod ((Mod.refl _ V1).alloc (.cells #[.int .i64 0, .int .i64 0, .int .i64 err, .string ⟨#[]⟩, .string ⟨#[]⟩, .int .i64 0, .int .i64 0, .int .i64 0, .int .i64 0, .int .i64 0, .int .i64 0, .int .i64 0, .int .i64 0, .int .i64 0, .slice none 0 0, .slice none 0 0, .slice none 0 0] 33)))
   refine hK.out _ _ (KP.out _ _ H2.out.tail) (fun hHeld => ?_)
   clear hK K
   try simp only [Act.put, Nat.zero_add, zA, zB, zC]
   generalize V1.alloc _ = V2 at h2b h1c H2 ⊢
   generalize V1.heap.size = b2 at h2b ⊢
   refine wpAnyH_ready (rs := [4]) (by kernel_rfl) (by simp) ?_
   refine (AllReadyH.cons (o := ⟨some 62, _, _, _, _, _⟩) rfl (fun K hK => ?_) AllReadyH.nil)
   go_simp
   refine (CR.out V2 b1 h1c).mono ?_
   rintro e w7 ⟨a7, cap7, rfl, hs7, hf7, hM7⟩
   have h2c := hM7.heap h2b id
   have H7 := Lib.hid (H2.out.newSlice hM7 hs7 hf7)
   clear hM7 hs7 hf7
   refine hK.out _ _ (KP.out _ _ H7.out.tail.tail) (fun hHeld => ?_)
   clear hK K
   try simp only [Act.put, Nat.zero_add, zA, zB, zC]
   refine wpAnyH_ready (rs := [9]) (by kernel_rfl) (by simp) ?_
   refine (AllReadyH.cons (o := ⟨some 67, _, _, _, _, _⟩) rfl (fun K hK => ?_) AllReadyH.nil)
   refine step_append rfl rfl 33 ip iz 17 200 (by kernel_rfl) HI.out.1 HI.out.2.1 HI.out.2.2.1 HI.out.2.2.2.1 HI.out.2.2.2.2 a7 m cap7 (timesL m ([.int .i64 0, .int .i64 0, .int .i64 111, .string ⟨#[]⟩, .string ⟨#[]⟩, .int .i64 0, .int .i64 0, .int .i64 0, .int .i64 0, .int .i64 0, .int .i64 0, .int .i64 0, .int .i64 0, .int .i64 0, .slice none 0 0, .slice none 0 0, .slice none 0 0] : List Value)) rfl (H7.out.slice 0 rfl) (some ⟨b2, 0, none⟩) 1 1 ([.int .i64 0, .int .i64 0, .int .i64 err, .string ⟨#[]⟩, .string ⟨#[]⟩, .int .i64 0, .int .i64 0, .int .i64 0, .int .i64 0, .int .i64 0, .int .i64 0, .int .i64 0, .int .i64 0, .int .i64 0, .slice none 0 0, .slice none 0 0, .slice none 0 0] : List Value) rfl (Sl.new (E := 33) (k := 17) (n := 1) h2c rfl (by unfold maxLen; omega)).rd (fun u hu => List.all_eq_true.1 (show ([.int .i64 0, .int .i64 0, .int .i64 err, .string ⟨#[]⟩, .string ⟨#[]⟩, .int .i64 0, .int .i64 0, .int .i64 0, .int .i64 0, .int .i64 0, .int .i64 0, .int .i64 0, .int .i64 0, .int .i64 0, .slice none 0 0, .slice none 0 0, .slice none 0 0] : List Value).all (·.oneCell') = true from rfl) u hu) (by unfold maxLen; omega) (by omega) ?_
   intro a9 cap9 w9 hS9 hM9 hF9 hN9 hR9
   have H9 := Lib.hid (H7.out.regrow 0 rfl hS9 hM9 hF9)
   clear hS9 hM9 hF9 hN9 hR9
   refine hK.out _ _ (KP.out _ _ H9.out.tail.tail) (fun hHeld => ?_)
   clear hK K
   try simp only [Act.put, Nat.zero_add, zA, zB, zC]
   refine tk 10 (some 68) ?_ rfl rfl hHeld ?_ ?_
   rotate_left
   ·intro wq hSw; (try dsimp only at hSw); go_simp; try with_reducible rfl
   try simp only [Act.put, Nat.zero_add, zA, zB, zC]
   refine wpAnyH_done (by kernel_rfl) ?_ _
   have o16 := blk_cell (H9.out.box 1 rfl) 16 _ rfl
   have f16 := blk_free (H9.out.box 1 rfl) 16
   have zo := heap_lt (H9.out.box 1 rfl)
   refine LastQ.step rfl rfl ?_
   go_simp
   have HX : Hid (St w (w9.setCell ⟨ob, 16, none⟩ (.slice a9 (m + 1) cap9)) (sl 33 17 a9 (m + 1) cap9 (timesL m ([.int .i64 0, .int .i64 0, .int .i64 111, .string ⟨#[]⟩, .string ⟨#[]⟩, .int .i64 0, .int .i64 0, .int .i64 0, .int .i64 0, .int .i64 0, .int .i64 0, .int .i64 0, .int .i64 0, .int .i64 0, .slice none 0 0, .slice none 0 0, .slice none 0 0] : List Value) ++ ([.int .i64 0, .int .i64 0, .int .i64 err, .string ⟨#[]⟩, .string ⟨#[]⟩, .int .i64 0, .int .i64 0, .int .i64 0, .int .i64 0, .int .i64 0, .int .i64 0, .int .i64 0, .int .i64 0, .int .i64 0, .slice none 0 0, .slice none 0 0, .slice none 0 0] : List Value)) :: bx ob (RpC { q with err := err } none 0 none 0 a9 (m + 1) cap9).toArray 33 :: bx xb (#[.int .i64 8, .string path, .string data, .slice aa acl.length ac, .int .i64 owner, .int .i64 m, .int .i64 err, .slice sa sn sc]) 61 :: bx (eb + 1) #[.int .i64 0, .int .i64 0, .int .i64 0, .string ⟨#[]⟩, .string ⟨#[]⟩, .int .i64 0, .int .i64 0, .int .i64 0, .int .i64 0, .int .i64 0, .int .i64 0, .int .i64 0, .int .i64 0, .int .i64 0, .slice none 0 0, .slice none 0 0, .slice none 0 0] 33 :: bx eb (#[.int .i64 zxid, .int .i64 session, .int .i64 xid, .int .i64 8, .string path, .string data, .slice aa acl.length ac, .int .i64 owner, .int .i64 m, .int .i64 err, .slice sa sn sc]) 63 :: [])) := Lib.hid (H9.out.set 1 rfl 16 _)
   clear H9 o16 f16 zo hHeld
   generalize w9.setCell _ _ = V9 at HX ⊢
   have zo := heap_lt (HX.out.box 1 rfl)
   go_wp2_with (first
    | ((with_reducible refine at_list ?_); refine wpList_load_chunk 17 _ Tryz.underlying33 rfl sizeRp ⟨ob, 0, none⟩ rfl (RpC { q with err := err } none 0 none 0 a9 (m + 1) cap9) rfl (box_chunk0 (HX.out.box 1 rfl)) ?_)
    | ((with_reducible refine at_list ?_); refine wpList_store_whole 17 sizeRp (eb + 1) rfl _ _ (HX.out.box 3 rfl) rfl (RpC { q with err := err } none 0 none 0 a9 (m + 1) cap9) rfl rfl rfl ?_; intro w9 hg9 hM9 hz9; have HZ := Lib.hid (HX.out.rebox 3 rfl hg9 hM9); clear hg9 hM9 hz9))
   refine bodyPost_ret (results_c1 rfl _ w9 (eb + 1) _ _ _ _ rfl (HZ.out.box 3 rfl) Tryz.underlying33 rfl sizeRp) rfl ?_
   have hl : (List.replicate m ({ Tree.rp0 with err := 111 } : Tree.Rp1) ++ [{ Tree.rp0 with err := err }]).length = m + 1 := by simp
   refine ⟨a9, cap9, ?_, ?_⟩
   ·rw [hl, ← hq]
   ·rw [hl, List.flatMap_append, ← timesL_flat m ({ Tree.rp0 with err := 111 } : Tree.Rp1) rpS]; exact HZ.out.one 0 rfl
 focus
  go_simp
  have h2b := heap_alloc_new V (.cells #[.int .i64 0, .int .i64 0, .int .i64 err, .string ⟨#[]⟩, .string ⟨#[]⟩, .int .i64 0, .int .i64 0, .int .i64 0, .int .i64 0, .int .i64 0, .int .i64 0, .int .i64 0, .int .i64 0, .int .i64 0, .slice none 0 0, .slice none 0 0, .slice none 0 0] 33)
  have H1 := Lib.hid (HA.out.mod ((Mod.refl _ V).alloc (.cells #[.int .i64 0, .int .i64 0, .int .i64 err, .string ⟨#[]⟩, .string ⟨#[]⟩, .int .i64 0, .int .i64 0, .int .i64 0, .int .i64 0, .int .i64 0, .int .i64 0, .int .i64 0, .int .i64 0, .int .i64 0, .slice none 0 0, .slice none 0 0, .slice none 0 0] 33)))
  refine hK.out _ _ (KP.out _ _ H1.out.tail) (fun hHeld => ?_)
  clear hK K
  try simp only [Act.put, Nat.zero_add, zA, zB, zC]
  generalize V.alloc _ = V1 at h2b H1 ⊢
  generalize V.heap.size = b2 at h2b ⊢
  clear HA
  refine wpAnyH_ready (rs := [1]) (by kernel_rfl) (by simp) ?_
  refine (AllReadyH.cons (o := ⟨some 59, _, _, _, _, _⟩) rfl (fun K hK => ?_) AllReadyH.nil)
  go_simp
  have h1b := heap_alloc_new V1 (.cells #[.int .i64 0, .int .i64 0, .int .i64 111, .string ⟨#[]⟩, .string ⟨#[]⟩, .int .i64 0, .int .i64 0, .int .i64 0, .int .i64 0, .int .i64 0, .int .i64 0, .int .i64 0, .int .i64 0, .int .i64 0, .slice none 0 0, .slice none 0 0, .slice none 0 0] 33)
  have h2c := ((Mod.refl (fun _ => False) V1).alloc (.cells #[.int .i64 0, .int .i64 0, .int .i64 111, .string ⟨#[]⟩, .string ⟨#[]⟩, .int .i64 0, .int .i64 0, .int .i64 0, .int .i64 0, .int .i64 0, .int .i64 0, .int .i64 0, .int .i64 0, .int .i64 0, .slice none 0 0, .slice none 0 0, .slice none 0 0] 33)).heap h2b id
  have H2 := Lib.hid (H1.out.mod ((Mod.refl _ V1).alloc (.cells #[.int .i64 0, .int .i64 0, .int .i64 111, .string ⟨#[]⟩, .string ⟨#[]⟩, .int .i64 0, .int .i64 0, .int .i64 0, .int .i64 0, .int .i64 0, .int .i64 0, .int .i64 0, .int .i64 0, .int .i64 0, .slice none 0 0, .slice none 0 0, .slice none 0 0] 33)))
  refine hK.out _ _ (KP.out _ _ H2.out.tail) (fun hHeld => ?_)
  clear hK K
  try simp only [Act.put, Nat.zero_add, zA, zB, zC]
  generalize V1.alloc _ = V2 at h1b h2c H2 ⊢
  generalize V1.heap.size = b1 at h1b ⊢
  refine wpAnyH_ready (rs := [4]) (by kernel_rfl) (by simp) ?_
  refine (AllReadyH.cons (o := ⟨some 62, _, _, _, _, _⟩) rfl (fun K hK => ?_) AllReadyH.nil)
  go_simp
  refine (CR.out V2 b1 h1b).mono ?_
  rintro e w7 ⟨a7, cap7, rfl, hs7, hf7, hM7⟩
  have h2d := hM7.heap h2c id
  have H7 := Lib.hid (H2.out.newSlice hM7 hs7 hf7)
  clear hM7 hs7 hf7
  refine hK.out _ _ (KP.out _ _ H7.out.tail.tail) (fun hHeld => ?_)
  clear hK K
  try simp only [Act.put, Nat.zero_add, zA, zB, zC]
  refine wpAnyH_ready (rs := [9]) (by kernel_rfl) (by simp) ?_
  refine (AllReadyH.cons (o := ⟨some 67, _, _, _, _, _⟩) rfl (fun K hK => ?_) AllReadyH.nil)
  refine step_append rfl rfl 33 ip iz 17 200 (by kernel_rfl) HI.out.1 HI.out.2.1 HI.out.2.2.1 HI.out.2.2.2.1 HI.out.2.2.2.2 a7 m cap7 (timesL m ([.int .i64 0, .int .i64 0, .int .i64 111, .string ⟨#[]⟩, .string ⟨#[]⟩, .int .i64 0, .int .i64 0, .int .i64 0, .int .i64 0, .int .i64 0, .int .i64 0, .int .i64 0, .int .i64 0, .int .i64 0, .slice none 0 0, .slice none 0 0, .slice none 0 0] : List Value)) rfl (H7.out.slice 0 rfl) (some ⟨b2, 0, none⟩) 1 1 ([.int .i64 0, .int .i64 0, .int .i64 err, .string ⟨#[]⟩, .string ⟨#[]⟩, .int .i64 0, .int .i64 0, .int .i64 0, .int .i64 0, .int .i64 0, .int .i64 0, .int .i64 0, .int .i64 0, .int .i64 0, .slice none 0 0, .slice none 0 0, .slice none 0 0] : List Value) rfl (Sl.new (E := 33) (k := 17) (n := 1) h2d rfl (by unfold maxLen; omega)).rd (fun u hu => List.all_eq_true.1 (show ([.int .i64 0, .int .i64 0, .int .i64 err, .string ⟨#[]⟩, .string ⟨#[]⟩, .int .i64 0, .int .i64 0, .int .i64 0, .int .i64 0, .int .i64 0, .int .i64 0, .int .i64 0, .int .i64 0, .int .i64 0, .slice none 0 0, .slice none 0 0, .slice none 0 0] : List Value).all (·.oneCell') = true from rfl) u hu) (by unfold maxLen; omega) (by omega) ?_
  intro a9 cap9 w9 hS9 hM9 hF9 hN9 hR9
  have H9 := Lib.hid (H7.out.regrow 0 rfl hS9 hM9 hF9)
  clear hS9 hM9 hF9 hN9 hR9
  refine hK.out _ _ (KP.out _ _ H9.out.tail.tail) (fun hHeld => ?_)
  clear hK K
  try simp only [Act.put, Nat.zero_add, zA, zB, zC]
  refine tk 10 (some 68) ?_ rfl rfl hHeld ?_ ?_
  rotate_left
  ·intro wq hSw; (try dsimp only at hSw); go_simp; try with_reducible rfl
  try simp only [Act.put, Nat.zero_add, zA, zB, zC]
  refine wpAnyH_done (by kernel_rfl) ?_ _
  have o16 := blk_cell (H9.out.box 1 rfl) 16 _ rfl
  have f16 := blk_free (H9.out.box 1 rfl) 16
  have zo := heap_lt (H9.out.box 1 rfl)
  refine LastQ.step rfl rfl ?_
  go_simp
  have HX : Hid (St w (w9.setCell ⟨ob, 16, none⟩ (.slice a9 (m + 1) cap9)) (sl 33 17 a9 (m + 1) cap9 (timesL m ([.int .i64 0, .int .i64 0, .int .i64 111, .string ⟨#[]⟩, .string ⟨#[]⟩, .int .i64 0, .int .i64 0, .int .i64 0, .int .i64 0, .int .i64 0, .int .i64 0, .int .i64 0, .int .i64 0, .int .i64 0, .slice none 0 0, .slice none 0 0, .slice none 0 0] : List Value) ++ ([.int .i64 0, .int .i64 0, .int .i64 err, .string ⟨#[]⟩, .string ⟨#[]⟩, .int .i64 0, .int .i64 0, .int .i64 0, .int .i64 0, .int .i64 0, .int .i64 0, .int .i64 0, .int .i64 0, .int .i64 0, .slice none 0 0, .slice none 0 0, .slice none 0 0] : List Value)) :: bx ob (RpC { q with err := err } none 0 none 0 a9 (m + 1) cap9).toArray 33 :: bx xb (#[.int .i64 8, .string path, .string data, .slice aa acl.length ac, .int .i64 owner, .int .i64 m, .int .i64 err, .slice sa sn sc]) 61 :: bx (eb + 1) #[.int .i64 0, .int .i64 0, .int .i64 0, .string ⟨#[]⟩, .string ⟨#[]⟩, .int .i64 0, .int .i64 0, .int .i64 0, .int .i64 0, .int .i64 0, .int .i64 0, .int .i64 0, .int .i64 0, .int .i64 0, .slice none 0 0, .slice none 0 0, .slice none 0 0] 33 :: bx eb (#[.int .i64 zxid, .int .i64 session, .int .i64 xid, .int .i64 8, .string path, .string data, .slice aa acl.length ac, .int .i64 owner, .int .i64 m, .int .i64 err, .slice sa sn sc]) 63 :: [])) := Lib.hid (H9.out.set 1 rfl 16 _)
  clear H9 o16 f16 zo hHeld
  generalize w9.setCell _ _ = V9 at HX ⊢
  have zo := heap_lt (HX.out.box 1 rfl)
  go_wp2_with (first
   | ((with_reducible refine at_list ?_); refine wpList_load_chunk 17 _ Tryz.underlying33 rfl sizeRp ⟨ob, 0, none⟩ rfl (RpC { q with err := err } none 0 none 0 a9 (m + 1) cap9) rfl (box_chunk0 (HX.out.box 1 rfl)) ?_)
   | ((with_reducible refine at_list ?_); refine wpList_store_whole 17 sizeRp (eb + 1) rfl _ _ (HX.out.box 3 rfl) rfl (RpC { q with err := err } none 0 none 0 a9 (m + 1) cap9) rfl rfl rfl ?_; intro w9 hg9 hM9 hz9; have HZ := Lib.hid (HX.out.rebox 3 rfl hg9 hM9); clear hg9 hM9 hz9))
  refine bodyPost_ret (results_c1 rfl _ w9 (eb + 1) _ _ _ _ rfl (HZ.out.box 3 rfl) Tryz.underlying33 rfl sizeRp) rfl ?_
  have hl : (List.replicate m ({ Tree.rp0 with err := 111 } : Tree.Rp1) ++ [{ Tree.rp0 with err := err }]).length = m + 1 := by simp
  refine ⟨a9, cap9, ?_, ?_⟩
  ·rw [hl, ← hq]
  ·rw [hl, List.flatMap_append, ← timesL_flat m ({ Tree.rp0 with err := 111 } : Tree.Rp1) rpS]; exact HZ.out.one 0 rfl
theorem reply_multi (w : World) (tb : Nat) (T : Tree) (h : TreeAt w tb T) (hf : T.fit) (zxid session xid : Int) (path data : ByteArray) (acl : List ARow) (owner number err : Int) (aa : Option Addr) (ac : Nat) (sa : Option Addr) (sn sc : Nat) (hp : path.size ≤ maxLen) (subs : List TxR) (hsn : subs.length = sn) (hsl : sn ≤ 1000) (hrd : Rd w 8 sa sn sc (subs.flatMap TxR.cells)) (hps : ∀ s ∈ subs, s.x.path.size ≤ maxLen) :
 Calls Tryz.prog 19 #[.pointer (some ⟨tb, 0, none⟩), .agg #[.int .i64 zxid, .int .i64 session, .int .i64 xid, .int .i64 7, .string path, .string data, .slice aa acl.length ac, .int .i64 owner, .int .i64 number, .int .i64 err, .slice sa sn sc]] w (RpPost ⟨{ T.told ⟨7, path, data, acl, owner, number, err⟩ with xid := xid, zxid := zxid }, subs.map fun s => T.told s.x⟩ w) := by
 have CT : Hid (∀ W, Mod (fun _ => False) w W → Calls Tryz.prog 43 #[.pointer (some ⟨tb, 0, none⟩), .agg #[.int .i64 7, .string path, .string data, .slice aa acl.length ac, .int .i64 owner, .int .i64 number, .int .i64 err, .slice sa sn sc]] W (CpPost (.agg (RpC (T.told ⟨7, path, data, acl, owner, number, err⟩) none 0 none 0 none 0 0).toArray) W)) := Lib.hid fun W k => told_any W tb T (h.old k) hf ⟨⟨7, path, data, acl, owner, number, err⟩, aa, ac, sa, sn, sc⟩ hp
 obtain ⟨p, hpp⟩ : ∃ p, T.told ⟨7, path, data, acl, owner, number, err⟩ = p := ⟨_, rfl⟩
 rw [hpp] at CT ⊢
 have CU : Hid (∀ W, Mod (fun _ => False) w W → ∀ t ∈ subs, ∀ pt, T.told t.x = pt → Calls Tryz.prog 43 #[.pointer (some ⟨tb, 0, none⟩), .agg t.cells.toArray] W (CpPost (.agg #[.int .i64 pt.xid, .int .i64 pt.zxid, .int .i64 pt.err, .string pt.path, .string pt.data, .int .i64 pt.st.czxid, .int .i64 pt.st.mzxid, .int .i64 pt.st.pzxid, .int .i64 pt.st.version, .int .i64 pt.st.cversion, .int .i64 pt.st.aversion, .int .i64 pt.st.owner, .int .i64 pt.length, .int .i64 pt.kidn, .slice none pt.acl.length 0, .slice none pt.kids.length 0, .slice none 0 0]) W)) := Lib.hid fun W k t ht pt hpt => by
  subst hpt
  exact told_any W tb T (h.old k) hf t (hps t ht)
 have HSN := Lib.hid hsn
 have HRDD := Lib.hid hrd
 have HSL := Lib.hid hsl
 obtain ⟨ip, iz, hi1, hi2, hi3, hi4, hi5⟩ := info_rowT infoRpR
 have HI := Lib.hid (And.intro hi1 (And.intro hi2 (And.intro hi3 (And.intro hi4 hi5))))
 have h63 : (sn : Int) ≤ 1000 := by omega
 clear h hf hp hsn hrd hps hsl hi1 hi2 hi3 hi4 hi5
 have HB := Lib.hid (((St.start w).box1 (#[.int .i64 zxid, .int .i64 session, .int .i64 xid, .int .i64 7, .string path, .string data, .slice aa acl.length ac, .int .i64 owner, .int .i64 number, .int .i64 err, .slice sa sn sc]) 63).box1 #[.int .i64 0, .int .i64 0, .int .i64 0, .string ⟨#[]⟩, .string ⟨#[]⟩, .int .i64 0, .int .i64 0, .int .i64 0, .int .i64 0, .int .i64 0, .int .i64 0, .int .i64 0, .int .i64 0, .int .i64 0, .slice none 0 0, .slice none 0 0, .slice none 0 0] 33)
 rw [World.size_alloc] at HB
 go_enter Tryz.func19, Tryz.ntmps19
 go_upto_region 1 with (fail)
 generalize hW : (w.alloc _).alloc _ = W at HB ⊢
 generalize w.heap.size = eb at HB ⊢
 clear hW
 go_upto_region 3 with (fail)
 have ze := heap_lt (HB.out.box 1 rfl)
 go_upto_region 4 with (first
  | ((with_reducible refine at_list ?_); refine wpList_load_chunk 8 _ Tryz.underlying61 rfl sizeTxnT ⟨eb, 3, none⟩ rfl ([.int .i64 7, .string path, .string data, .slice aa acl.length ac, .int .i64 owner, .int .i64 number, .int .i64 err, .slice sa sn sc] : List Value) rfl (box_from [.int .i64 zxid, .int .i64 session, .int .i64 xid] _ (HB.out.box 1 rfl)) ?_; have HB1 := Lib.hid (HB.out.box1 #[.int .i64 0, .string ⟨#[]⟩, .string ⟨#[]⟩, .slice none 0 0, .int .i64 0, .int .i64 0, .int .i64 0, .slice none 0 0] 61))
  | ((with_reducible refine at_list ?_); refine wpList_store_whole 8 sizeTxnT W.heap.size rfl _ _ (HB1.out.box 0 rfl) rfl ([.int .i64 7, .string path, .string data, .slice aa acl.length ac, .int .i64 owner, .int .i64 number, .int .i64 err, .slice sa sn sc] : List Value) rfl rfl rfl ?_; intro w2 hg2 hM2 hz2; have H2 : Hid (St w w2 (bx W.heap.size (#[.int .i64 7, .string path, .string data, .slice aa acl.length ac, .int .i64 owner, .int .i64 number, .int .i64 err, .slice sa sn sc]) 61 :: bx (eb + 1) #[.int .i64 0, .int .i64 0, .int .i64 0, .string ⟨#[]⟩, .string ⟨#[]⟩, .int .i64 0, .int .i64 0, .int .i64 0, .int .i64 0, .int .i64 0, .int .i64 0, .int .i64 0, .int .i64 0, .int .i64 0, .slice none 0 0, .slice none 0 0, .slice none 0 0] 33 :: bx eb (#[.int .i64 zxid, .int .i64 session, .int .i64 xid, .int .i64 7, .string path, .string data, .slice aa acl.length ac, .int .i64 owner, .int .i64 number, .int .i64 err, .slice sa sn sc]) 63 :: [])) := Lib.hid (HB1.out.rebox 0 rfl hg2 hM2); clear hg2 hM2 hz2 HB1))
 clear ze HB
 generalize W.heap.size = xb at H2 ⊢
 have zx := heap_lt (H2.out.box 0 rfl)
 go_upto_region 5 with (first
  | ((with_reducible refine at_list ?_); refine wpList_load_chunk 8 _ Tryz.underlying61 rfl sizeTxnT ⟨xb, 0, none⟩ rfl ([.int .i64 7, .string path, .string data, .slice aa acl.length ac, .int .i64 owner, .int .i64 number, .int .i64 err, .slice sa sn sc] : List Value) rfl (box_chunk0 (H2.out.box 0 rfl)) ?_)
  | (go_at_call 43; refine (CT.out _ H2.out.1).mono ?_; rintro e w3 ⟨rfl, hM3⟩; have H3 := Lib.hid ((H2.out.mod hM3).box1 #[.int .i64 0, .int .i64 0, .int .i64 0, .string ⟨#[]⟩, .string ⟨#[]⟩, .int .i64 0, .int .i64 0, .int .i64 0, .int .i64 0, .int .i64 0, .int .i64 0, .int .i64 0, .int .i64 0, .int .i64 0, .slice none 0 0, .slice none 0 0, .slice none 0 0] 33); clear hM3)
  | ((with_reducible refine at_list ?_); refine wpList_store_whole 17 sizeRp w3.heap.size rfl _ _ (H3.out.box 0 rfl) rfl (RpC p none 0 none 0 none 0 0) rfl rfl rfl ?_; intro w4 hg4 hM4 hz4; have H4 : Hid (St w w4 (bx w3.heap.size (RpC p none 0 none 0 none 0 0).toArray 33 :: bx xb (#[.int .i64 7, .string path, .string data, .slice aa acl.length ac, .int .i64 owner, .int .i64 number, .int .i64 err, .slice sa sn sc]) 61 :: bx (eb + 1) #[.int .i64 0, .int .i64 0, .int .i64 0, .string ⟨#[]⟩, .string ⟨#[]⟩, .int .i64 0, .int .i64 0, .int .i64 0, .int .i64 0, .int .i64 0, .int .i64 0, .int .i64 0, .int .i64 0, .int .i64 0, .slice none 0 0, .slice none 0 0, .slice none 0 0] 33 :: bx eb (#[.int .i64 zxid, .int .i64 session, .int .i64 xid, .int .i64 7, .string path, .string data, .slice aa acl.length ac, .int .i64 owner, .int .i64 number, .int .i64 err, .slice sa sn sc]) 63 :: [])) := Lib.hid (H3.out.rebox 0 rfl hg4 hM4); clear hg4 hM4 hz4 H3))
 clear zx H2 CT
 generalize w3.heap.size = ob at H4 ⊢
 have KP : Hid (∀ (w' : World) (A B : Thing), St w w' (A :: B :: bx (eb + 1) #[.int .i64 0, .int .i64 0, .int .i64 0, .string ⟨#[]⟩, .string ⟨#[]⟩, .int .i64 0, .int .i64 0, .int .i64 0, .int .i64 0, .int .i64 0, .int .i64 0, .int .i64 0, .int .i64 0, .int .i64 0, .slice none 0 0, .slice none 0 0, .slice none 0 0] 33 :: bx eb (#[.int .i64 zxid, .int .i64 session, .int .i64 xid, .int .i64 7, .string path, .string data, .slice aa acl.length ac, .int .i64 owner, .int .i64 number, .int .i64 err, .slice sa sn sc]) 63 :: []) → w'.cell? ⟨eb, 2, none⟩ = some (.int .i64 xid) ∧ w'.cell? ⟨eb, 0, none⟩ = some (.int .i64 zxid)) := Lib.hid fun w' A B h => ⟨blk_cell (h.box 3 rfl) 2 _ rfl, blk_cell (h.box 3 rfl) 0 _ rfl⟩
 have o0 := blk_cell (H4.out.box 0 rfl) 0 (.int .i64 p.xid) rfl
 have o1 := blk_cell (H4.out.box 0 rfl) 1 (.int .i64 p.zxid) rfl
 have f0 := blk_free (H4.out.box 0 rfl) 0
 have f1 := blk_free (H4.out.box 0 rfl) 1
 have zo := heap_lt (H4.out.box 0 rfl)
 have ze := heap_lt (H4.out.box 3 rfl)
 have HA : Hid (St w (w4.drew.setCell ⟨ob, 0, none⟩ (.int .i64 xid)) (bx ob (RpC { p with xid := xid } none 0 none 0 none 0 0).toArray 33 :: bx xb (#[.int .i64 7, .string path, .string data, .slice aa acl.length ac, .int .i64 owner, .int .i64 number, .int .i64 err, .slice sa sn sc]) 61 :: bx (eb + 1) #[.int .i64 0, .int .i64 0, .int .i64 0, .string ⟨#[]⟩, .string ⟨#[]⟩, .int .i64 0, .int .i64 0, .int .i64 0, .int .i64 0, .int .i64 0, .int .i64 0, .int .i64 0, .int .i64 0, .int .i64 0, .slice none 0 0, .slice none 0 0, .slice none 0 0] 33 :: bx eb (#[.int .i64 zxid, .int .i64 session, .int .i64 xid, .int .i64 7, .string path, .string data, .slice aa acl.length ac, .int .i64 owner, .int .i64 number, .int .i64 err, .slice sa sn sc]) 63 :: [])) := Lib.hid (H4.out.drew.set 0 rfl 0 (.int .i64 xid))
 have HC : Hid (St w ((w4.drew.setCell ⟨ob, 0, none⟩ (.int .i64 xid)).setCell ⟨ob, 1, none⟩ (.int .i64 zxid)) (bx ob (RpC { p with xid := xid, zxid := zxid } none 0 none 0 none 0 0).toArray 33 :: bx xb (#[.int .i64 7, .string path, .string data, .slice aa acl.length ac, .int .i64 owner, .int .i64 number, .int .i64 err, .slice sa sn sc]) 61 :: bx (eb + 1) #[.int .i64 0, .int .i64 0, .int .i64 0, .string ⟨#[]⟩, .string ⟨#[]⟩, .int .i64 0, .int .i64 0, .int .i64 0, .int .i64 0, .int .i64 0, .int .i64 0, .int .i64 0, .int .i64 0, .int .i64 0, .slice none 0 0, .slice none 0 0, .slice none 0 0] 33 :: bx eb (#[.int .i64 zxid, .int .i64 session, .int .i64 xid, .int .i64 7, .string path, .string data, .slice aa acl.length ac, .int .i64 owner, .int .i64 number, .int .i64 err, .slice sa sn sc]) 63 :: [])) := Lib.hid (HA.out.set 0 rfl 1 (.int .i64 zxid))
 go_region_held3 (fun w' => w'.cell? ⟨eb, 2, none⟩ = some (.int .i64 xid) ∧ w'.cell? ⟨eb, 0, none⟩ = some (.int .i64 zxid))
  (first | exact KP.out _ _ _ H4.out.drew | exact KP.out _ _ _ HA.out | exact KP.out _ _ _ HC.out)
  (fail)
 have HC2 : Hid (St w ((w4.setCell ⟨ob, 0, none⟩ (.int .i64 xid)).setCell ⟨ob, 1, none⟩ (.int .i64 zxid)).drew (bx ob (RpC { p with xid := xid, zxid := zxid } none 0 none 0 none 0 0).toArray 33 :: bx xb (#[.int .i64 7, .string path, .string data, .slice aa acl.length ac, .int .i64 owner, .int .i64 number, .int .i64 err, .slice sa sn sc]) 61 :: bx (eb + 1) #[.int .i64 0, .int .i64 0, .int .i64 0, .string ⟨#[]⟩, .string ⟨#[]⟩, .int .i64 0, .int .i64 0, .int .i64 0, .int .i64 0, .int .i64 0, .int .i64 0, .int .i64 0, .int .i64 0, .int .i64 0, .slice none 0 0, .slice none 0 0, .slice none 0 0] 33 :: bx eb (#[.int .i64 zxid, .int .i64 session, .int .i64 xid, .int .i64 7, .string path, .string data, .slice aa acl.length ac, .int .i64 owner, .int .i64 number, .int .i64 err, .slice sa sn sc]) 63 :: [])) := HC
 clear o0 o1 f0 f1 zo ze H4 HA KP HC
 generalize World.drew _ = w5 at HC2 ⊢
 have HC := HC2
 clear HC2
 obtain ⟨q, hq⟩ : ∃ q : Tree.Rp1, { p with xid := xid, zxid := zxid } = q := ⟨_, rfl⟩
 rw [hq] at HC
 have x0 := blk_cell (HC.out.box 1 rfl) 0 (.int .i64 7) rfl
 have zx := heap_lt (HC.out.box 1 rfl)
 have x7 := blk_cell (HC.out.box 1 rfl) 7 (.slice sa sn sc) rfl
 go_wp2
 clear x0 x7 zx
 have HL := Lib.hid (HC.out.nilSlice 33 17)
 clear HC
 go_loopg [30] sn (fun g y wr => ∃ (k : Nat) (oa : Option Addr) (oc : Nat), k + g = sn ∧ y = .int .i64 k ∧ St w wr (sl 33 17 oa k oc (((subs.take k).map fun s => T.told s.x).flatMap rpS) :: bx ob (RpC q none 0 none 0 oa k oc).toArray 33 :: bx xb (#[.int .i64 7, .string path, .string data, .slice aa acl.length ac, .int .i64 owner, .int .i64 number, .int .i64 err, .slice sa sn sc]) 61 :: bx (eb + 1) #[.int .i64 0, .int .i64 0, .int .i64 0, .string ⟨#[]⟩, .string ⟨#[]⟩, .int .i64 0, .int .i64 0, .int .i64 0, .int .i64 0, .int .i64 0, .int .i64 0, .int .i64 0, .int .i64 0, .int .i64 0, .slice none 0 0, .slice none 0 0, .slice none 0 0] 33 :: bx eb (#[.int .i64 zxid, .int .i64 session, .int .i64 xid, .int .i64 7, .string path, .string data, .slice aa acl.length ac, .int .i64 owner, .int .i64 number, .int .i64 err, .slice sa sn sc]) 63 :: []))
 case atStart => exact ⟨0, none, 0, by omega, rfl, HL.out⟩
 case round =>
  clear HL
  obtain ⟨k, oa, oc, hkg, rfl, hS⟩ := hrel
  by_cases hlt : k < sn
  ·have hx : subs[k]? = some (subs[k]'(by rw [HSN.out]; exact hlt)) := List.getElem?_eq_getElem _
   obtain ⟨t, hxx⟩ : ∃ x, subs[k]'(by rw [HSN.out]; exact hlt) = x := ⟨_, rfl⟩
   rw [hxx] at hx
   obtain ⟨b, o, hsa, hbl, hc⟩ := (HRDD.out.mod hS.1 (fun _ _ h => h)).elem (k := 8) TxR.cells (fun _ => rfl) (by omega) hx
   subst hsa
   have HCC : Hid (∀ j u, t.cells[j]? = some u → wr.cell? ((⟨b, o + k * 8, none⟩ : Addr).add j) = some u) := Lib.hid (fun j u hj => by rw [add_none]; exact hc j u hj)
   have HX := Lib.hid hx
   have HTM := Lib.hid (List.mem_of_getElem? hx)
   have HN := Lib.hid (hS.box1 #[.int .i64 0, .string ⟨#[]⟩, .string ⟨#[]⟩, .slice none 0 0, .int .i64 0, .int .i64 0, .int .i64 0, .slice none 0 0] 61)
   obtain ⟨cs, hcs⟩ : ∃ cs, ((subs.take k).map fun s => T.told s.x).flatMap rpS = cs := ⟨_, rfl⟩
   have HCS := Lib.hid hcs
   rw [hcs] at HN
   obtain ⟨pt, hpt⟩ : ∃ pt, T.told t.x = pt := ⟨_, rfl⟩
   have HPT := Lib.hid hpt
   clear hx hxx hc hS hcs hpt
   go_upto_region 10 with (first
    | ((with_reducible refine at_list ?_); refine wpList_load_chunk 8 _ Tryz.underlying61 rfl sizeTxnT ⟨b, o + k * 8, none⟩ rfl t.cells rfl HCC.out ?_)
    | ((with_reducible refine at_list ?_); refine wpList_store_whole 8 sizeTxnT wr.heap.size rfl _ _ (HN.out.box 0 rfl) rfl t.cells rfl rfl rfl ?_; intro w5 hg5 hM5 hz5; have hS5 : St w w5 (bx wr.heap.size t.cells.toArray 61 :: sl 33 17 oa k oc cs :: bx ob (RpC q none 0 none 0 oa k oc).toArray 33 :: bx xb (#[.int .i64 7, .string path, .string data, .slice aa acl.length ac, .int .i64 owner, .int .i64 number, .int .i64 err, .slice (some ⟨b, o, none⟩) sn sc]) 61 :: bx (eb + 1) #[.int .i64 0, .int .i64 0, .int .i64 0, .string ⟨#[]⟩, .string ⟨#[]⟩, .int .i64 0, .int .i64 0, .int .i64 0, .int .i64 0, .int .i64 0, .int .i64 0, .int .i64 0, .int .i64 0, .int .i64 0, .slice none 0 0, .slice none 0 0, .slice none 0 0] 33 :: bx eb (#[.int .i64 zxid, .int .i64 session, .int .i64 xid, .int .i64 7, .string path, .string data, .slice aa acl.length ac, .int .i64 owner, .int .i64 number, .int .i64 err, .slice (some ⟨b, o, none⟩) sn sc]) 63 :: []) := HN.out.rebox 0 rfl hg5 hM5; have HS5 := Lib.hid hS5; clear hg5 hM5 hz5 hS5))
   clear HN HCC
   generalize wr.heap.size = nb at HS5 ⊢
   have KP : Hid (∀ (w' : World) (A : Thing) (G : List Thing), St w w' (bx nb t.cells.toArray 61 :: A :: bx ob (RpC q none 0 none 0 oa k oc).toArray 33 :: G) → w'.cell? ⟨ob, 16, none⟩ = some (.slice oa k oc) ∧ w'.heap[nb]? = some (.cells t.cells.toArray 61 (0, 0))) := Lib.hid fun w' A G h => ⟨blk_cell (h.box 2 rfl) 16 _ rfl, h.box 0 rfl⟩
   have zo := heap_lt (HS5.out.box 2 rfl)
   have HA := Lib.hid HS5.out.drew
   refine wp_region_last_held (n := 8) (S := fun w' => w'.cell? ⟨ob, 16, none⟩ = some (.slice oa k oc) ∧ w'.heap[nb]? = some (.cells t.cells.toArray 61 (0, 0))) (by kernel_rfl) rfl (by simp only [List.pop_toArray, List.dropLast_cons_cons, List.dropLast_singleton]; rfl) (by kernel_rfl) (by kernel_rfl) (KP.out _ _ _ HA.out) (fun hHeld => ?_)
   clear HS5
   generalize w5.drew = V at HA hHeld ⊢
   refine tk 0 (some 34) ?_ rfl rfl hHeld ?_ ?_
   rotate_left
   ·intro wq hSw; (try dsimp only at hSw); go_simp; try with_reducible rfl
   refine tk 1 (some 35) ?_ rfl rfl hHeld ?_ ?_
   rotate_left
   ·intro wq hSw; (try dsimp only at hSw); go_simp; try with_reducible rfl
   refine tk 2 (some 36) ?_ rfl rfl hHeld ?_ ?_
   rotate_left
   ·intro wq hSw; (try dsimp only at hSw); go_simp; try with_reducible rfl
   try simp only [Act.put, Nat.zero_add, zA, zB, zC]
   refine wpAnyH_take (i := 3) (oi := ⟨some 37, _, _, _, _, _⟩) (v := _) rfl (by kernel_rfl) (by kernel_rfl) (by kernel_rfl) (fun _ _ _ h => h) (yieldsT 8 _ (by rfl) rfl Tryz.underlying61 rfl sizeTxnT nb (by rfl) t.cells rfl 61 (fun _ h => h.2)) hHeld ?_
   try simp only [Act.put, Nat.zero_add, zA, zB, zC]
   refine wpAnyH_ready (rs := [4]) (by kernel_rfl) (by simp) ?_
   refine (AllReadyH.cons (o := ⟨some 38, _, _, _, _, _⟩) rfl (fun K hK => ?_) AllReadyH.nil)
   go_simp
   refine (CU.out _ HA.out.1 t HTM.out pt HPT.out).mono ?_
   rintro e w6 ⟨rfl, hM6⟩
   have H6 := Lib.hid (HA.out.mod hM6)
   clear hM6 HA
   refine hK.out _ _ (KP.out _ _ _ H6.out) (fun hHeld => ?_)
   clear hK K
   try simp only [Act.put, Nat.zero_add, zA, zB, zC]
   refine wpAnyH_ready (rs := [5]) (by kernel_rfl) (by simp) ?_
   refine (AllReadyH.cons (o := ⟨some 39, _, _, _, _, _⟩) rfl (fun K hK => ?_) AllReadyH.nil)
   go_simp
   have h7b := heap_alloc_new w6 (.cells #[.int .i64 pt.xid, .int .i64 pt.zxid, .int .i64 pt.err, .string pt.path, .string pt.data, .int .i64 pt.st.czxid, .int .i64 pt.st.mzxid, .int .i64 pt.st.pzxid, .int .i64 pt.st.version, .int .i64 pt.st.cversion, .int .i64 pt.st.aversion, .int .i64 pt.st.owner, .int .i64 pt.length, .int .i64 pt.kidn, .slice none pt.acl.length 0, .slice none pt.kids.length 0, .slice none 0 0] 33)
   have H7 := Lib.hid (H6.out.mod ((Mod.refl _ w6).alloc (.cells #[.int .i64 pt.xid, .int .i64 pt.zxid, .int .i64 pt.err, .string pt.path, .string pt.data, .int .i64 pt.st.czxid, .int .i64 pt.st.mzxid, .int .i64 pt.st.pzxid, .int .i64 pt.st.version, .int .i64 pt.st.cversion, .int .i64 pt.st.aversion, .int .i64 pt.st.owner, .int .i64 pt.length, .int .i64 pt.kidn, .slice none pt.acl.length 0, .slice none pt.kids.length 0, .slice none 0 0] 33)))
   refine hK.out _ _ (KP.out _ _ _ H7.out) (fun hHeld => ?_)
   clear hK K
   try simp only [Act.put, Nat.zero_add, zA, zB, zC]
   refine wpAnyH_ready (rs := [6]) (by kernel_rfl) (by simp) ?_
   refine (AllReadyH.cons (o := ⟨some 40, _, _, _, _, _⟩) rfl (fun K hK => ?_) AllReadyH.nil)
   refine step_append rfl rfl 33 ip iz 17 200 (by kernel_rfl) HI.out.1 HI.out.2.1 HI.out.2.2.1 HI.out.2.2.2.1 HI.out.2.2.2.2 oa k oc cs rfl (H7.out.slice 1 rfl) (some ⟨w6.heap.size, 0, none⟩) 1 1 ([.int .i64 pt.xid, .int .i64 pt.zxid, .int .i64 pt.err, .string pt.path, .string pt.data, .int .i64 pt.st.czxid, .int .i64 pt.st.mzxid, .int .i64 pt.st.pzxid, .int .i64 pt.st.version, .int .i64 pt.st.cversion, .int .i64 pt.st.aversion, .int .i64 pt.st.owner, .int .i64 pt.length, .int .i64 pt.kidn, .slice none pt.acl.length 0, .slice none pt.kids.length 0, .slice none 0 0] : List Value) rfl (Sl.new (E := 33) (k := 17) (n := 1) h7b rfl (by unfold maxLen; omega)).rd (fun u hu => List.all_eq_true.1 (show ([.int .i64 pt.xid, .int .i64 pt.zxid, .int .i64 pt.err, .string pt.path, .string pt.data, .int .i64 pt.st.czxid, .int .i64 pt.st.mzxid, .int .i64 pt.st.pzxid, .int .i64 pt.st.version, .int .i64 pt.st.cversion, .int .i64 pt.st.aversion, .int .i64 pt.st.owner, .int .i64 pt.length, .int .i64 pt.kidn, .slice none pt.acl.length 0, .slice none pt.kids.length 0, .slice none 0 0] : List Value).all (·.oneCell') = true from rfl) u hu) (by have := HSL.out; unfold maxLen; omega) (by have := HSL.out; omega) ?_
   intro a9 cap9 w9 hS9 hM9 hF9 hN9 hR9
   have H9 := Lib.hid (H7.out.regrow 1 rfl hS9 hM9 hF9)
   clear hS9 hM9 hF9 hN9 hR9
   refine hK.out _ _ (KP.out _ _ _ H9.out) (fun hHeld => ?_)
   clear hK K
   try simp only [Act.put, Nat.zero_add, zA, zB, zC]
   refine tk 7 (some 41) ?_ rfl rfl hHeld ?_ ?_
   rotate_left
   ·intro wq hSw; (try dsimp only at hSw); go_simp; try with_reducible rfl
   try simp only [Act.put, Nat.zero_add, zA, zB, zC]
   refine wpAnyH_done (by kernel_rfl) ?_ _
   have o16 := blk_cell (H9.out.box 2 rfl) 16 _ rfl
   have f16 := blk_free (H9.out.box 2 rfl) 16
   have zo := heap_lt (H9.out.box 2 rfl)
   refine LastQ.step rfl rfl ?_
   go_simp
   have HX2 : Hid (St w (w9.setCell ⟨ob, 16, none⟩ (.slice a9 (k + 1) cap9)) (bx nb t.cells.toArray 61 :: sl 33 17 a9 (k + 1) cap9 (cs ++ ([.int .i64 pt.xid, .int .i64 pt.zxid, .int .i64 pt.err, .string pt.path, .string pt.data, .int .i64 pt.st.czxid, .int .i64 pt.st.mzxid, .int .i64 pt.st.pzxid, .int .i64 pt.st.version, .int .i64 pt.st.cversion, .int .i64 pt.st.aversion, .int .i64 pt.st.owner, .int .i64 pt.length, .int .i64 pt.kidn, .slice none pt.acl.length 0, .slice none pt.kids.length 0, .slice none 0 0] : List Value)) :: bx ob (RpC q none 0 none 0 a9 (k + 1) cap9).toArray 33 :: bx xb (#[.int .i64 7, .string path, .string data, .slice aa acl.length ac, .int .i64 owner, .int .i64 number, .int .i64 err, .slice (some ⟨b, o, none⟩) sn sc]) 61 :: bx (eb + 1) #[.int .i64 0, .int .i64 0, .int .i64 0, .string ⟨#[]⟩, .string ⟨#[]⟩, .int .i64 0, .int .i64 0, .int .i64 0, .int .i64 0, .int .i64 0, .int .i64 0, .int .i64 0, .int .i64 0, .int .i64 0, .slice none 0 0, .slice none 0 0, .slice none 0 0] 33 :: bx eb (#[.int .i64 zxid, .int .i64 session, .int .i64 xid, .int .i64 7, .string path, .string data, .slice aa acl.length ac, .int .i64 owner, .int .i64 number, .int .i64 err, .slice (some ⟨b, o, none⟩) sn sc]) 63 :: [])) := Lib.hid (H9.out.set 2 rfl 16 _)
   clear H9 o16 f16 zo hHeld KP
   generalize w9.setCell _ _ = V9 at HX2 ⊢
   go_wp2
   go_roundg (sn - (k + 1))
   case measure => omega
   case rel =>
    refine ⟨k + 1, a9, cap9, by omega, by simp, ?_⟩
    rw [take_snoc' HX.out]
    have h := HX2.out.tail
    have e : (subs.take k ++ [t]).map (fun s => T.told s.x) = (subs.take k).map (fun s => T.told s.x) ++ [pt] := by rw [List.map_append, ← HPT.out]; rfl
    rw [e, List.flatMap_append, HCS.out, List.flatMap_cons, List.flatMap_nil, List.append_nil]
    exact h
  ·have hk : k = sn := by omega
   subst hk
   clear hkg hlt
   have HS := Lib.hid hS
   rw [take_all' subs k HSN.out] at HS
   clear hS
   have x0 := blk_cell (HS.out.box 2 rfl) 0 (.int .i64 7) rfl
   have zx := heap_lt (HS.out.box 2 rfl)
   have zo := heap_lt (HS.out.box 1 rfl)
   go_wp2_with (first
    | ((with_reducible refine at_list ?_); refine wpList_load_chunk 17 _ Tryz.underlying33 rfl sizeRp ⟨ob, 0, none⟩ rfl (RpC q none 0 none 0 oa k oc) rfl (box_chunk0 (HS.out.box 1 rfl)) ?_)
    | ((with_reducible refine at_list ?_); refine wpList_store_whole 17 sizeRp (eb + 1) rfl _ _ (HS.out.box 3 rfl) rfl (RpC q none 0 none 0 oa k oc) rfl rfl rfl ?_; intro w9 hg9 hM9 hz9; have HZ := Lib.hid (HS.out.rebox 3 rfl hg9 hM9); clear hg9 hM9 hz9))
   refine bodyPost_ret (results_c1 rfl _ w9 (eb + 1) _ _ _ _ rfl (HZ.out.box 3 rfl) Tryz.underlying33 rfl sizeRp) rfl ?_
   have hl : (subs.map fun s => T.told s.x).length = k := by rw [List.length_map, HSN.out]
   refine ⟨oa, oc, ?_, ?_⟩
   ·rw [hl, hq]
   ·rw [hl]; exact HZ.out.one 0 rfl
theorem reply_any (w : World) (tb : Nat) (T : Tree) (h : TreeAt w tb T) (hf : T.fit) (E : EnR) (hok : E.ok w) (hxf : E.fit) :
 Calls Tryz.prog 19 #[.pointer (some ⟨tb, 0, none⟩), .agg E.cells.toArray] w (RpPost (T.reply E.zxid E.xid ⟨E.r.x, E.subsX⟩) w) := by
 obtain ⟨zxid, session, xid, ⟨⟨kind, path, data, acl, owner, number, err⟩, aa, ac, sa, sn, sc⟩, subs⟩ := E
 have hp : path.size ≤ maxLen := by have := hxf.r.path; simp only at this; unfold maxLen; omega
 by_cases h7 : kind = 7
 ·subst h7
  have := reply_multi w tb T h hf zxid session xid path data acl owner number err aa ac sa sn sc hp subs hxf.n (by have := hxf.few; have := hxf.n; simp only at *; omega) hok.rd (fun s hs => by have := (hxf.all s hs).path; unfold maxLen; omega)
  unfold Tree.reply EnR.subsX
  rw [if_pos rfl, List.map_map]
  exact this
 by_cases h8 : kind = 8
 ·subst h8
  unfold Tree.reply
  rw [if_neg (show ¬ (8 : Int) = 7 by decide), if_pos rfl]
  by_cases hn : 0 ≤ number ∧ number < 8
  ·rw [if_pos hn]
   exact reply_err2 w tb T h hf zxid session xid path data acl owner number err aa ac sa sn sc hp number.toNat (by omega) (by omega)
  ·rw [if_neg hn]
   exact reply_err1 w tb T h hf zxid session xid path data acl owner number err aa ac sa sn sc hp hn
 ·unfold Tree.reply
  rw [if_neg h7, if_neg h8]
  exact reply_one w tb T h hf zxid session xid kind path data acl owner number err aa ac sa sn sc hp h7 h8
end Go.Proofs.YtonnbkebjeoflaaGreatDoor
