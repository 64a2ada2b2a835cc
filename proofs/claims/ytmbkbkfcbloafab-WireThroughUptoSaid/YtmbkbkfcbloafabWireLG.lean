/-
  What was read may be laid; events, hellos, notes are laid as they came; a guarded load.
  No condition: every law states its own.
-/
import Derived.Test.YtmbkbkfcbloafabWireMb
import Derived.Test.YtmbkbkfcbloafabWireS
import Derived.Test.YtmbkbkfcbloafabJsmall
namespace Go.Proofs.Ytmbkbkfcbloafab
open Go.RowKit
set_option linter.unusedSectionVars false
set_option linter.unusedSimpArgs false
set_option linter.unusedVariables false
set_option maxRecDepth 100000

/-! ### What lies in young blocks may be laid -/

theorem Txn.okL {w0 w : World} {x : Txn} (hx : x.fine) (hl : ∀ t ∈ Txn.things x, Lies w0 w t) : x.ok w :=
  ⟨hx.1, hx.2.1, hx.2.2.1, hx.2.2.2.1, (hl (sl 146 2 x.aclA x.acl.length x.aclC (x.acl.flatMap Acl.cells)) (by simp [Txn.things])).rd, fun a ha => hx.2.2.2.2.1 a ha⟩
theorem Ent.okL {w0 w : World} {x : Ent} (hx : x.fine) (hl : Lies w0 w (grp (Ent.things x))) : x.ok w where
  zxid := hx.1.1
  session := hx.1.2.1
  xid := hx.1.2.2
  t := Txn.okL hx.2.1 fun t ht => hl.grp (List.mem_append_left _ ht)
  n := hx.2.2.1
  rd := by
    have := (hl.grp (t := sl 26 8 x.t.subsA x.t.subsN x.t.subsC (x.subs.flatMap Txn.cells)) (by simp [Ent.things, TxnW.things])).rd
    have e : x.t.subsN = x.subs.length := hx.2.2.1
    rw [e] at this; exact this
  all := fun a ha => Txn.okL (hx.2.2.2.1 a ha) fun t ht => by
    have h1 := hl.grp (t := grp (x.subs.map fun x => grp (Txn.things x))) (by simp [Ent.things, TxnW.things])
    exact (h1.grp (List.mem_map.2 ⟨a, ha, rfl⟩)).grp ht
theorem Op.okL {w0 w : World} {x : Op} (hx : x.fine) (hl : ∀ t ∈ Op.things x, Lies w0 w t) : x.ok w :=
  ⟨hx.1, hx.2.1, hx.2.2.1, hx.2.2.2.1, (hl (sl 146 2 x.aclA x.acl.length x.aclC (x.acl.flatMap Acl.cells)) (by simp [Op.things])).rd, fun a ha => hx.2.2.2.2.1 a ha⟩
theorem Req.okL {w0 w : World} {x : Req} (hx : x.fine) (hl : Lies w0 w (grp (Req.things x))) : x.ok w where
  q := Op.okL hx.1 fun t ht => hl.grp (List.mem_append_left _ (List.mem_append_left _ ht))
  n := hx.2.1.1
  rd := by
    have := (hl.grp (t := sl 34 10 x.q.subsA x.q.subsN x.q.subsC (x.subs.flatMap Op.cells)) (by simp [Req.things])).rd
    rw [hx.2.1.1] at this; exact this
  all := fun a ha => Op.okL (hx.2.1.2.1 a ha) fun t ht => by
    have h1 := hl.grp (t := grp (x.subs.map fun x => grp (Op.things x))) (by simp [Req.things])
    exact (h1.grp (List.mem_map.2 ⟨a, ha, rfl⟩)).grp ht
  an := hx.2.2.1
  ard := by
    have := (hl.grp (t := sl 130 5 x.q.armedA x.q.armedN x.q.armedC (x.armed.flatMap Arm.cells)) (by simp [Req.things])).rd
    rw [hx.2.2.1] at this; exact this
  aall := fun a ha => hx.2.2.2.1 a ha
theorem Msg.okL {w0 w : World} {x : Msg} (hx : x.fine) (hl : Lies w0 w (grp (Msg.things x))) : x.ok w where
  kind := hx.1.1
  epoch := hx.1.2.1
  zxid := hx.1.2.2.1
  number := hx.1.2.2.2.1
  session := hx.1.2.2.2.2
  mrd := (hl.grp (t := sl 3 1 x.marksA x.marks.length x.marksC (x.marks.flatMap intC)) (by simp [Msg.things])).rd
  mall := hx.2.1.1
  erd := (hl.grp (t := sl 28 11 x.entsA x.ents.length x.entsC (x.ents.flatMap Ent.cells)) (by simp [Msg.things])).rd
  eall := fun a ha => Ent.okL (hx.2.2.1.1 a ha) (by
    have h1 := hl.grp (t := grp (x.ents.map fun x => grp (Ent.things x))) (by simp [Msg.things])
    exact h1.grp (List.mem_map.2 ⟨a, ha, rfl⟩))
  q := Req.okL hx.2.2.2.1 (hl.grp (by simp [Msg.things]))
  ird := (hl.grp (t := sl 9 1 x.idsA x.ids.length x.idsC (x.ids.flatMap strC)) (by simp [Msg.things])).rd

/-! ### Events, hellos, notes -/

theorem rtext_len (bs : List UInt8) (s : RS) (hok : s.ok bs.length) : bfits ((ByteArray.mk (rtext bs 4096 s).1.toArray).size + 100) := by
  have h := (rcount_ok (most := 4096) hok).2
  rw [mk_size]
  unfold rtext
  split
  · exact bfits_small (by simp)
  · refine bfits_small ?_
    simp only [List.length_take]
    have : (4096 : Int).toNat = 4096 := rfl
    omega
theorem got_back {α : Type} {bs : List UInt8} {z : α} {r : α × RS} {bytes : α → List UInt8} {ok : α → Prop} (hR : Rel bs ⟨0, 0⟩ r.2 (bytes r.1)) (hok : r.2.ok bs.length) (h1 : ok r.1) :
    ((got bs z r).2 = 0 ∧ bytes (got bs z r).1 = bs ∧ ok (got bs z r).1) ∨ (got bs z r).2 = 120 := by
  unfold got
  split
  · rename_i h
    exact .inl ⟨rfl, rel_start hR hok h, h1⟩
  · exact .inr rfl
theorem ok0 (bs : List UInt8) : (RS.mk 0 0).ok bs.length := ⟨Nat.zero_le _, .inl rfl⟩
theorem gEv_back (S : ByteArray) : ((gEv S).2 = 0 ∧ (gEv S).1.bytes = S.data.toList ∧ (gEv S).1.ok) ∨ (gEv S).2 = 120 := by
  have h1 := rnum_ok (ok0 S.data.toList)
  have h2 := rtext_ok (most := 4096) h1
  exact got_back (bytes := Ev.bytes) (ok := Ev.ok) (r := evR S.data.toList ⟨0, 0⟩) ((rel_num.trans (rel_text h1)).trans rel_num) (rnum_ok h2)
    ⟨rnum_i64 (ok0 _), rnum_i64 h2, rtext_len _ _ h1⟩
theorem gHe_back (S : ByteArray) : ((gHe S).2 = 0 ∧ (gHe S).1.bytes = S.data.toList ∧ (gHe S).1.ok) ∨ (gHe S).2 = 120 := by
  have h1 := rs_ok (ok0 S.data.toList) 3
  exact got_back (bytes := He.bytes) (ok := He.ok) (r := heR S.data.toList ⟨0, 0⟩) (Rel.trans (rel_nums (bs := S.data.toList) (s := ⟨0, 0⟩) 3) (rel_text h1)) (rtext_ok h1)
    ⟨rv_i64 (ok0 _) 0, rv_i64 (ok0 _) 1, rv_i64 (ok0 _) 2, rtext_len _ _ h1⟩
theorem gNo_back (S : ByteArray) : ((gNo S).2 = 0 ∧ (gNo S).1.bytes = S.data.toList ∧ (gNo S).1.ok) ∨ (gNo S).2 = 120 :=
  got_back (bytes := No.bytes) (ok := No.ok) (r := noR S.data.toList ⟨0, 0⟩) (rel_nums (bs := S.data.toList) (s := ⟨0, 0⟩) 6) (rs_ok (ok0 _) 6)
    ⟨rv_i64 (ok0 _) 0, rv_i64 (ok0 _) 1, rv_i64 (ok0 _) 2, rv_i64 (ok0 _) 3, rv_i64 (ok0 _) 4, rv_i64 (ok0 _) 5⟩
theorem mk_toList (S : ByteArray) : ByteArray.mk S.data.toList.toArray = S := by cases S; simp

theorem wpList_load_chunkG {P : Program} {ops : Array Oper} {rest : List Oper} {dst : Option Tmp} {ty0 : TypeId} {pos : String} {after : Array Edge} {a : Act} {w : World} {Q : Exit → Act → World → Prop} {ty : TypeId} {x : Operand} (k : Nat) (d : TypeDesc) (hu : P.underlying ty = some d) (hd : (match d with | .struct _ | .array _ _ => true | _ => false) = true) (hi : (P.info? ty).map (·.size) = some k)
    (ad : Addr) (hx : a.eval x = .pointer (some ad)) (cs : List Value) (hl : cs.length = k) (hc : ∀ j u, cs[j]? = some u → w.cell? (ad.add j) = some u) {gd : Option (Nat × Bool)} (hw : Region.wanted ⟨dst, .load ty x, ty0, pos, after, gd⟩ (yielded ops a.tmps) = true)
    (h : wpList P ops Q rest (a.put dst (.agg cs.toArray)) w) : wpList P ops Q (⟨dst, .load ty x, ty0, pos, after, gd⟩ :: rest) a w := by
  unfold wpList
  rw [if_pos hw]
  refine .inl ?_
  have hr := run_loadAt_chunk (P := P) w ty k d hu hd hi ad cs hl hc
  unfold Oper.wp execOp
  simp only [hx, Sem.run_bind, Sem.run_pure, hr, Result.andThen_ok]
  exact h
end Go.Proofs.Ytmbkbkfcbloafab
