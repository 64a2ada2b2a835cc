/-
  WireEntries, walked: what is lent stays; what an entry is laid as; what is read of that.
  Conditions: the entry is laid as at most 20000000 bytes.
-/
import Derived.Test.YtmbkbkfcbloafaaWireLawE
import Derived.Test.YtmbkbkfcbloafaaWireKept
import Derived.Test.YtmbkbkfcbloafaaWireS
import Derived.Test.YtmbkbkfcbloafaaWireK
import Derived.Test.YtmbkbkfcbloafaaWireOpnE
namespace Go.Proofs.Ytmbkbkfcbloafaa
open Go.RowKit
set_option linter.unusedSectionVars false
set_option linter.unusedSimpArgs false
set_option linter.unusedVariables false
set_option maxRecDepth 100000

theorem listB_len {α : Type} (f : α → List UInt8) (hf : ∀ a, 1 ≤ (f a).length) (L : List α) : L.length ≤ (listB f L).length := by
  unfold listB
  rw [List.length_append]
  have : L.length ≤ (L.flatMap f).length := by
    induction L with
    | nil => simp
    | cons a l ih => rw [List.flatMap_cons, List.length_append, List.length_cons]; have := hf a; omega
  omega
theorem numB_pos (n : Int) : 1 ≤ (numB n).length := List.length_pos_iff.2 (sevens_ne _)
theorem Acl.bytes_pos (a : Acl) : 1 ≤ a.bytes.length := by
  have := numB_pos a.perms
  unfold Acl.bytes
  rw [List.length_append]
  omega
theorem Txn.bytes_pos (a : Txn) : 1 ≤ a.bytes.length := by
  have := numB_pos a.kind
  unfold Txn.bytes
  simp only [List.length_append]
  omega
theorem Txn.acl_len (x : Txn) : x.acl.length ≤ x.bytes.length := by
  have h : x.acl.length ≤ (listB Acl.bytes x.acl).length := listB_len _ Acl.bytes_pos _
  unfold Txn.bytes
  simp only [List.length_append]
  omega
theorem Ent.lens (x : Ent) : x.t.acl.length ≤ x.bytes.length ∧ x.subs.length ≤ x.bytes.length := by
  have h1 := Txn.acl_len x.t
  have h2 : x.subs.length ≤ (listB Txn.bytes x.subs).length := listB_len _ Txn.bytes_pos _
  unfold Ent.bytes
  simp only [List.length_append]
  omega

set_option maxHeartbeats 8000000 in
theorem wireEntries_walk (x : Ent) (w : World) (hx : x.ok w) (hb : x.bytes.length ≤ 20000000) : Calls Try.prog 4 #[.agg x.cells.toArray] w (ValPost (.bool true) w) := by
  obtain ⟨Bt, hBt⟩ : ∃ Bt, ByteArray.mk x.bytes.toArray = Bt := ⟨_, rfl⟩
  have hBs : Bt.size = x.bytes.length := by rw [← hBt, mk_size]
  have hl := Ent.lens x
  have hBB : (Bt.toList == Bt.toList) = true := by simp
  have hBN : (Bt.toList != Bt.toList) = false := by simp
  have hS := (St.start w).box1 #[.int .i64 x.zxid, .int .i64 x.session, .int .i64 x.xid, .int .i64 x.t.kind, .string x.t.path, .string x.t.data, .slice x.t.aclA x.t.acl.length x.t.aclC, .int .i64 x.t.owner, .int .i64 x.t.number, .int .i64 x.t.err, .slice x.t.subsA x.t.subsN x.t.subsC] 40
  have HX := Lib.hid hx
  have HB := Lib.hid hBt
  have HL := Lib.hid (And.intro hb (And.intro hBs hl))
  have HS := Lib.hid hS
  clear hx hb hBt hBs hl hS
  simp only [Ent.cells]
  go_enter Try.func4, Try.ntmps4
  go_upto_region 1 with fail
  generalize w.alloc (.cells #[.int .i64 x.zxid, .int .i64 x.session, .int .i64 x.xid, .int .i64 x.t.kind, .string x.t.path, .string x.t.data, .slice x.t.aclA x.t.acl.length x.t.aclC, .int .i64 x.t.owner, .int .i64 x.t.number, .int .i64 x.t.err, .slice x.t.subsA x.t.subsN x.t.subsC] 40) = W at *
  generalize w.heap.size = tb at *
  go_upto_region 2 with (go_at_call 7; refine (awake_any _).mono ?_; rintro e w1 ⟨rfl, hM1⟩; have HS1 := Lib.hid (HS.out.mod hM1); clear HS hM1)
  go_wp2_with ((with_reducible refine at_list ?_); refine wpList_load_chunk 11 _ Try.underlying40 rfl sizeEnt ⟨tb, 0, none⟩ rfl [.int .i64 x.zxid, .int .i64 x.session, .int .i64 x.xid, .int .i64 x.t.kind, .string x.t.path, .string x.t.data, .slice x.t.aclA x.t.acl.length x.t.aclC, .int .i64 x.t.owner, .int .i64 x.t.number, .int .i64 x.t.err, .slice x.t.subsA x.t.subsN x.t.subsC] rfl (box_chunk (cs := [.int .i64 x.zxid, .int .i64 x.session, .int .i64 x.xid, .int .i64 x.t.kind, .string x.t.path, .string x.t.data, .slice x.t.aclA x.t.acl.length x.t.aclC, .int .i64 x.t.owner, .int .i64 x.t.number, .int .i64 x.t.err, .slice x.t.subsA x.t.subsN x.t.subsC]) (HS1.out.box 0 rfl)) ?_)
  refine (lentEntry_st x HX.out (by have := HL.out; omega) (by have := HL.out; omega) HS1.out).mono ?_
  rintro e w2 ⟨a, c, b, d, rfl, hS2⟩
  have HS2 := Lib.hid (hS2.box1 #[.int .i64 0, .int .i64 0, .int .i64 0, .int .i64 0, .string ⟨#[]⟩, .string ⟨#[]⟩, .slice none 0 0, .int .i64 0, .int .i64 0, .int .i64 0, .slice none 0 0] 40)
  clear hS2 HS1
  go_upto_region 3 with ((with_reducible refine at_list ?_); refine wpList_store_whole 11 sizeEnt w2.heap.size rfl _ _ (HS2.out.box 0 rfl) rfl (x.lent a c b d).cells rfl rfl (by kernel_rfl) ?_; intro w3 hg3 hM3 hz3; have HS3 := Lib.hid (HS2.out.rebox 0 rfl hg3 hM3); clear hg3 hM3 hz3 HS2; generalize w2.heap.size = ob at *)
  have hS3 : St w w3 (bx ob #[.int .i64 x.zxid, .int .i64 x.session, .int .i64 x.xid, .int .i64 x.t.kind, .string x.t.path, .string x.t.data, .slice a x.t.acl.length c, .int .i64 x.t.owner, .int .i64 x.t.number, .int .i64 x.t.err, .slice b x.t.subsN d] 40 :: sl 38 8 b (x.subs.length + 1) d (x.subs.flatMap Txn.cells ++ [.int .i64 77, .string ⟨#[]⟩, .string ⟨#[]⟩, .slice none 0 0, .int .i64 0, .int .i64 0, .int .i64 0, .slice none 0 0]) :: sl 76 2 a (x.t.acl.length + 1) c (x.t.acl.flatMap Acl.cells ++ [.int .i64 77, .string ⟨#[]⟩]) :: bx tb #[.int .i64 x.zxid, .int .i64 x.session, .int .i64 x.xid, .int .i64 x.t.kind, .string x.t.path, .string x.t.data, .slice x.t.aclA x.t.acl.length x.t.aclC, .int .i64 x.t.owner, .int .i64 x.t.number, .int .i64 x.t.err, .slice x.t.subsA x.t.subsN x.t.subsC] 40 :: []) := HS3.out
  clear HS3
  have hown : (x.lent a c b d).ok w3 := Ent.lent_ok HX.out hS3.1 ((hS3.slice 2 rfl).short Acl.cells_len).rd ((hS3.slice 1 rfl).short Txn.cells_len).rd
  have C1 : Hid (Calls Try.prog 16 #[.agg (x.lent a c b d).cells.toArray] w3 (fun e w'' => e = .returned (.string Bt) ∧ Mod (fun _ => False) w3 w'')) := Lib.hid (by
    rw [← HB.out]; exact PutEntry_any _ w3 hown (by have := HL.out; rw [Ent.lent_bytes]; unfold bfits; omega))
  have HS3 := Lib.hid hS3
  clear hS3 hown
  simp only [Ent.lent, Ent.cells] at C1
  go_wp2_with (first
    | ((with_reducible refine at_list ?_); refine wpList_load_chunk 11 _ Try.underlying40 rfl sizeEnt ⟨ob, 0, none⟩ rfl [.int .i64 x.zxid, .int .i64 x.session, .int .i64 x.xid, .int .i64 x.t.kind, .string x.t.path, .string x.t.data, .slice a x.t.acl.length c, .int .i64 x.t.owner, .int .i64 x.t.number, .int .i64 x.t.err, .slice b x.t.subsN d] rfl (box_chunk (cs := [.int .i64 x.zxid, .int .i64 x.session, .int .i64 x.xid, .int .i64 x.t.kind, .string x.t.path, .string x.t.data, .slice a x.t.acl.length c, .int .i64 x.t.owner, .int .i64 x.t.number, .int .i64 x.t.err, .slice b x.t.subsN d]) (HS3.out.box 0 rfl)) ?_)
    | (go_at_call 16; refine C1.out.mono ?_; rintro e w4 ⟨rfl, hM4⟩; have HS4 := Lib.hid (HS3.out.mod hM4); clear HS3 hM4)
    | ((with_reducible refine at_list ?_); refine wpList_load_chunk 11 _ Try.underlying40 rfl sizeEnt ⟨ob, 0, none⟩ rfl [.int .i64 x.zxid, .int .i64 x.session, .int .i64 x.xid, .int .i64 x.t.kind, .string x.t.path, .string x.t.data, .slice a x.t.acl.length c, .int .i64 x.t.owner, .int .i64 x.t.number, .int .i64 x.t.err, .slice b x.t.subsN d] rfl (box_chunk (cs := [.int .i64 x.zxid, .int .i64 x.session, .int .i64 x.xid, .int .i64 x.t.kind, .string x.t.path, .string x.t.data, .slice a x.t.acl.length c, .int .i64 x.t.owner, .int .i64 x.t.number, .int .i64 x.t.err, .slice b x.t.subsN d]) (HS4.out.box 0 rfl)) ?_)
    | ((with_reducible refine at_list ?_); refine wpList_load_chunk 11 _ Try.underlying40 rfl sizeEnt ⟨tb, 0, none⟩ rfl [.int .i64 x.zxid, .int .i64 x.session, .int .i64 x.xid, .int .i64 x.t.kind, .string x.t.path, .string x.t.data, .slice x.t.aclA x.t.acl.length x.t.aclC, .int .i64 x.t.owner, .int .i64 x.t.number, .int .i64 x.t.err, .slice x.t.subsA x.t.subsN x.t.subsC] rfl (box_chunk (cs := [.int .i64 x.zxid, .int .i64 x.session, .int .i64 x.xid, .int .i64 x.t.kind, .string x.t.path, .string x.t.data, .slice x.t.aclA x.t.acl.length x.t.aclC, .int .i64 x.t.owner, .int .i64 x.t.number, .int .i64 x.t.err, .slice x.t.subsA x.t.subsN x.t.subsC]) (HS4.out.box 3 rfl)) ?_))
  refine (keptEntry_st x HX.out (by have := HL.out; omega) (by have := HL.out; omega) (by have := HL.out; unfold bfits; omega) a c b d HS4.out.tail).mono ?_
  rintro e w5 ⟨rfl, hS5⟩
  have C2 : Hid (Calls Try.prog 18 #[.agg x.cells.toArray] w5 (fun e w'' => e = .returned (.string Bt) ∧ Mod (fun _ => False) w5 w'')) := Lib.hid (by
    rw [← HB.out]; exact rPutEntry_any _ w5 (Ent.okmod HX.out hS5.1) (by have := HL.out; unfold bfits; omega))
  have HS5 := Lib.hid hS5
  clear hS5 HS4
  simp only [Ent.cells] at C2
  go_wp2_with (first
    | ((with_reducible refine at_list ?_); refine wpList_load_chunk 11 _ Try.underlying40 rfl sizeEnt ⟨tb, 0, none⟩ rfl [.int .i64 x.zxid, .int .i64 x.session, .int .i64 x.xid, .int .i64 x.t.kind, .string x.t.path, .string x.t.data, .slice x.t.aclA x.t.acl.length x.t.aclC, .int .i64 x.t.owner, .int .i64 x.t.number, .int .i64 x.t.err, .slice x.t.subsA x.t.subsN x.t.subsC] rfl (box_chunk (cs := [.int .i64 x.zxid, .int .i64 x.session, .int .i64 x.xid, .int .i64 x.t.kind, .string x.t.path, .string x.t.data, .slice x.t.aclA x.t.acl.length x.t.aclC, .int .i64 x.t.owner, .int .i64 x.t.number, .int .i64 x.t.err, .slice x.t.subsA x.t.subsN x.t.subsC]) (HS5.out.box 0 rfl)) ?_)
    | (go_at_call 18; refine C2.out.mono ?_; rintro e w6 ⟨rfl, hM6⟩; have HS6 := Lib.hid (HS5.out.mod hM6); clear HS5 hM6 C2)
    | (go_at_call 19; refine (entry_any Bt (by have := HL.out; unfold bfits; omega) _).mono ?_; rintro e w7 ⟨rfl, hM7⟩; have HS7 := Lib.hid (HS6.out.mod hM7); clear HS6 hM7))
  go_ret
  exact ⟨rfl, HS7.out.1⟩

theorem wireEntries_contract {H : Type} {enc : TypeId × Value → H} (W : World) (base : Nat) (v0 : Value) (d0 : DataW H) (p0 : List MemPlace)
    (k0 : DataW.Trod enc Try.prog W 0 (fun _ => true) true 40 v0 d0 p0) (o0 : Value.okWide Try.prog W .any base 40 v0) (hkk : Rows.uptoBulkAll [d0] ≤ 1048576) :
    Calls Try.prog 4 #[v0] W (ValPost (.bool true) W) := by
  simp only [Rows.uptoBulkAll] at hkk
  obtain ⟨x, rfl, hx, hb⟩ := open_entry k0 o0
  exact wireEntries_walk x W hx (by omega)
end Go.Proofs.Ytmbkbkfcbloafaa
