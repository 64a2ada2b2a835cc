/-
  WireMessages, walked: what is lent stays; what a message is laid as; what is read of that.
  Conditions: the message is laid as at most 20000000 bytes.
-/
import Derived.Test.YtmbkbkfcbloafaaGreatWireLawM
import Derived.Test.YtmbkbkfcbloafaaGreatWireKept
import Derived.Test.YtmbkbkfcbloafaaGreatWireMa
import Derived.Test.YtmbkbkfcbloafaaGreatJsmall
import Derived.Deep.CutBlock
import Derived.Deep.DeepCutAuto
namespace Go.Proofs.YtmbkbkfcbloafaaGreat
open Go.RowKit
set_option linter.unusedSectionVars false
set_option linter.unusedSimpArgs false
set_option linter.unusedVariables false
set_option maxRecDepth 100000

theorem listB_len {α : Type} (f : α → List UInt8) (hf : ∀ a, 1 ≤ (f a).length) (L : List α) : L.length ≤ (listB f L).length := by
  unfold listB
  rw [List.length_append]
  have : L.length ≤ (L.flatMap f).length := by
    induction L with
    | nil => simp
    | cons a l ih => rw [List.flatMap_cons, List.length_append, List.length_cons]; have := hf a; omega
  omega
theorem numB_pos (n : Int) : 1 ≤ (numB n).length := List.length_pos_iff.2 (sevens_ne _)
theorem Acl.bytes_pos (a : Acl) : 1 ≤ a.bytes.length := by
  have := numB_pos a.perms
  unfold Acl.bytes
  rw [List.length_append]
  omega
theorem Txn.bytes_pos (a : Txn) : 1 ≤ a.bytes.length := by
  have := numB_pos a.kind
  unfold Txn.bytes
  simp only [List.length_append]
  omega
theorem Ent.bytes_pos (a : Ent) : 1 ≤ a.bytes.length := by
  have := Txn.bytes_pos a.t
  unfold Ent.bytes
  simp only [List.length_append]
  omega
theorem Txn.acl_len (x : Txn) : x.acl.length ≤ x.bytes.length := by
  have h : x.acl.length ≤ (listB Acl.bytes x.acl).length := listB_len _ Acl.bytes_pos _
  unfold Txn.bytes
  simp only [List.length_append]
  omega
theorem Ent.lens (x : Ent) : x.t.acl.length ≤ x.bytes.length ∧ x.subs.length ≤ x.bytes.length := by
  have h1 := Txn.acl_len x.t
  have h2 : x.subs.length ≤ (listB Txn.bytes x.subs).length := listB_len _ Txn.bytes_pos _
  unfold Ent.bytes
  simp only [List.length_append]
  omega


/-- What an entry that was lent owns. -/
def Ent.own (x : Ent) : List Thing := [sl 37 8 x.t.subsA (x.subs.length + 1) x.t.subsC (x.subs.flatMap Txn.cells ++ [.int .i64 77, .string ⟨#[]⟩, .string ⟨#[]⟩, .slice none 0 0, .int .i64 0, .int .i64 0, .int .i64 0, .slice none 0 0]), sl 65 2 x.t.aclA (x.t.acl.length + 1) x.t.aclC (x.t.acl.flatMap Acl.cells ++ [.int .i64 77, .string ⟨#[]⟩])]
/-- Each one lent. -/
def Lents (L LL : List Ent) : Prop := LL.length = L.length ∧ ∀ (i : Nat) (e e' : Ent), L[i]? = some e → LL[i]? = some e' → ∃ a c b d, e' = e.lent a c b d
theorem Lents.nil : Lents [] [] := ⟨rfl, fun i e e' h => by simp at h⟩
theorem Lents.snoc {L LL : List Ent} (h : Lents L LL) (e : Ent) (a : Option Addr) (c : Nat) (b : Option Addr) (d : Nat) : Lents (L ++ [e]) (LL ++ [e.lent a c b d]) := by
  refine ⟨by simp [h.1], fun i e1 e2 h1 h2 => ?_⟩
  by_cases hi : i < L.length
  · rw [List.getElem?_append_left hi] at h1
    rw [List.getElem?_append_left (by rw [h.1]; exact hi)] at h2
    exact h.2 i e1 e2 h1 h2
  · have hl : i < (L ++ [e]).length := (List.getElem?_eq_some_iff.1 h1).1
    simp only [List.length_append, List.length_singleton] at hl
    have hi2 : i = L.length := by omega
    rw [hi2, List.getElem?_append_right (by omega), Nat.sub_self] at h1
    rw [hi2, ← h.1, List.getElem?_append_right (by omega), Nat.sub_self] at h2
    simp only [List.getElem?_cons_zero, Option.some.injEq] at h1 h2
    exact ⟨a, c, b, d, by rw [← h2, ← h1]⟩
theorem Lents.bytes {L LL : List Ent} (h : Lents L LL) : listB Ent.bytes LL = listB Ent.bytes L := by
  have e : LL.map Ent.bytes = L.map Ent.bytes := by
    apply List.ext_getElem?
    intro i
    rw [List.getElem?_map, List.getElem?_map]
    by_cases hi : i < L.length
    · have h1 : L[i]? = some L[i] := List.getElem?_eq_getElem hi
      have h2 : LL[i]? = some (LL[i]'(by rw [h.1]; exact hi)) := List.getElem?_eq_getElem _
      obtain ⟨a, c, b, d, he⟩ := h.2 i _ _ h1 h2
      rw [h1, h2, he]; rfl
    · rw [List.getElem?_eq_none (l := LL) (by rw [h.1]; omega), List.getElem?_eq_none (l := L) (by omega)]
  unfold listB
  rw [h.1, List.flatMap_def, List.flatMap_def, e]
theorem int_one {L : List Int} : ∀ u ∈ L.flatMap intC, u.oneCell' = true := by
  intro u hu
  obtain ⟨a, _, ha⟩ := List.mem_flatMap.1 hu
  rw [List.mem_singleton.1 ha]; rfl
theorem St.pull2 {w0 w : World} {a b t : Thing} {us l : List Thing} (h : St w0 w (a :: b :: grp (t :: us) :: l)) : St w0 w (t :: a :: b :: grp us :: l) := by
  have h1 : St w0 w (grp (t :: us) :: a :: b :: l) := h.perm (List.perm_append_comm_assoc [a, b] [_] l)
  have h2 : St w0 w (t :: (us ++ (a :: b :: l))) := h1.ungrp
  exact (St.regrp1 us h2).perm (.cons _ (List.perm_append_comm_assoc [grp us] [a, b] l))
theorem yields_load {P : Program} {ops : Array Oper} {S : World → Prop} {o : Oper} {a : Act} {ty : TypeId} {x : Operand} (k : Nat) (d : TypeDesc) (hw : Region.wanted o (yielded ops a.tmps) = true) (ho : o.op = .load ty x)
    (hu : P.underlying ty = some d) (hd : (match d with | .struct _ | .array _ _ => true | _ => false) = true) (hi : (P.info? ty).map (·.size) = some k) (ad : Addr) (hx : a.eval x = .pointer (some ad)) (cs : List Value) (hl : cs.length = k)
    (hS : ∀ w, S w → ∀ j u, cs[j]? = some u → w.cell? (ad.add j) = some u) : YieldsIf P ops S o (.agg cs.toArray) a :=
  Or.inl ⟨hw, fun w h => by
    have hr := run_loadAt_chunk (P := P) w ty k d hu hd hi ad cs hl (hS w h)
    unfold execOp
    simp only [ho, hx, Sem.run_bind, Sem.run_pure, hr, Result.andThen_ok]⟩
theorem wpList_load_chunkG {P : Program} {ops : Array Oper} {rest : List Oper} {dst : Option Tmp} {ty0 : TypeId} {pos : String} {after : Array Edge} {a : Act} {w : World} {Q : Exit → Act → World → Prop} {ty : TypeId} {x : Operand} (k : Nat) (d : TypeDesc) (hu : P.underlying ty = some d) (hd : (match d with | .struct _ | .array _ _ => true | _ => false) = true) (hi : (P.info? ty).map (·.size) = some k)
    (ad : Addr) (hx : a.eval x = .pointer (some ad)) (cs : List Value) (hl : cs.length = k) (hc : ∀ j u, cs[j]? = some u → w.cell? (ad.add j) = some u) {gd : Option (Nat × Bool)} (hw : Region.wanted ⟨dst, .load ty x, ty0, pos, after, gd⟩ (yielded ops a.tmps) = true)
    (h : wpList P ops Q rest (a.put dst (.agg cs.toArray)) w) : wpList P ops Q (⟨dst, .load ty x, ty0, pos, after, gd⟩ :: rest) a w := by
  unfold wpList
  rw [if_pos hw]
  refine .inl ?_
  have hr := run_loadAt_chunk (P := P) w ty k d hu hd hi ad cs hl hc
  unfold Oper.wp execOp
  simp only [hx, Sem.run_bind, Sem.run_pure, hr, Result.andThen_ok]
  exact h
theorem St.named {w0 w : World} {l : List Thing} (h : St w0 w l) : ∃ wx, wx = w ∧ St w0 wx l := ⟨w, rfl, h⟩
theorem St.absorb1 {w0 w : World} {t a : Thing} {ts l : List Thing} (h : St w0 w (t :: a :: grp ts :: l)) : St w0 w (a :: grp (ts ++ [t]) :: l) := by
  have h1 : St w0 w (grp ts :: t :: a :: l) := h.perm (List.perm_append_comm_assoc [t, a] [grp ts] l)
  have h2 : St w0 w ((ts ++ [t]) ++ (a :: l)) := by rw [List.append_assoc]; exact h1.ungrp
  exact (h2.regrp).swap

theorem Ent.cells_len {L : List Ent} : (L.flatMap Ent.cells).length = L.length * 11 := by
  induction L with
  | nil => rfl
  | cons a l ih => rw [List.flatMap_cons, List.length_append, ih, List.length_cons, Nat.add_mul]; show 11 + _ = _; omega
/-- The message with lists of its own lies as a message does. -/
theorem own_ok {w w' : World} {x : Msg} (hx : x.ok w) (hm : Mod (fun _ => False) w w') {a : Option Addr} {c : Nat} {b : Option Addr} {d : Nat} {LL : List Ent} (hmr : Rd w' 1 a x.marks.length c (x.marks.flatMap intC)) (her : Rd w' 11 b LL.length d (LL.flatMap Ent.cells)) (hL : Lents x.ents LL)
    (hl : Lies w w' (grp (LL.map fun e => grp (Ent.own e)))) : ({ x with marksA := a, marksC := c, ents := LL, entsA := b, entsC := d } : Msg).ok w' where
  kind := hx.kind
  epoch := hx.epoch
  zxid := hx.zxid
  number := hx.number
  session := hx.session
  mrd := hmr
  mall := hx.mall
  erd := her
  eall := fun e' he' => by
    obtain ⟨i, hi⟩ := List.mem_iff_getElem?.1 he'
    have hil : i < x.ents.length := by rw [← hL.1]; exact (List.getElem?_eq_some_iff.1 hi).1
    have hxi : x.ents[i]? = some x.ents[i] := List.getElem?_eq_getElem hil
    have hl1 := hl.grp (List.mem_map.2 ⟨e', he', rfl⟩)
    obtain ⟨a, c, b, d, rfl⟩ := hL.2 i _ _ hxi hi
    have l1 := hl1.grp (List.mem_cons_self ..)
    have l2 := hl1.grp (List.mem_cons_of_mem _ (List.mem_cons_self ..))
    exact Ent.lent_ok (hx.eall _ (List.mem_of_getElem? hxi)) hm ((l2.sl.1).short Acl.cells_len).rd ((l1.sl.1).short Txn.cells_len).rd
  q := Req.okmod hx.q hm
  ird := hx.ird.mod hm (fun _ _ h => h)


def startsAt (n : Nat) : Code → Bool
  | .region k _ _ => k == n
  | .seq a _ => startsAt n a
  | _ => false
/-- The code from region n on. -/
def codeAt (n : Nat) : Code → Option Code
  | .seq a b => if startsAt n a then some (.seq a b) else match codeAt n a with
    | some c => some c
    | none => codeAt n b
  | .block _ c => codeAt n c
  | .scope c => codeAt n c
  | .loop c => codeAt n c
  | .cond _ a b => match codeAt n a with
    | some c => some c
    | none => codeAt n b
  | _ => none

noncomputable def msgsEnd : Code := ((Tryz.f4.body.bind (codeAt 17)).getD .skip)

set_option maxHeartbeats 16000000 in
theorem msgs_end (x0 x5 x6 x7 x10 x11 x12 x13 x14 x15 x16 x17 x18 x19 x20 x21 x22 x23 x24 x25 x26 x27 x28 x29 x30 x31 x32 x33 x34 x35 x36 x37 x38 x39 x40 x41 x42 x43 x44 x45 x46 x47 x48 x49 x50 x51 x52 x53 x54 x55 x56 x57 x58 x59 x60 x61 x62 x63 x64 x65 x66 x67 x68 x69 x70 x71 x72 x73 x74 x75 x76 x77 x78 x79 x80 x81 x82 x83 x84 x85 x86 x87 x88 x89 x90 x91 x92 x93 x94 x95 x96 x97 x98 x99 x100 x101 x102 x103 x104 x105 x106 x107 x108 x109 x110 x111 x112 x113 x114 x115 x116 x117 x118 x119 x120 x121 x122 x123 x124 x125 x126 x127 x128 x129 x130 x131 x132 x133 x134 x135 x136 x137 x138 : Value) (Bt : ByteArray) (x : Msg) (w wx : World) (n m ob tb : Nat) (cM : List Value) (cm ce ab ao eb eo : Nat) (cE cI YC XC : List Value) (LL : List Ent) (hnl : n ≤ 20000000) (hml : m ≤ 20000000) (HX : Hid (x.ok w)) (HB : Hid (x.bytes.length ≤ 20000000))
    (HRE : Hid (Rd w 11 x.entsA m x.entsC (x.ents.flatMap Ent.cells))) (HEL : Hid (∀ t ∈ x.ents, t.bytes.length ≤ 20000000)) (HNM : Hid (x.marks.length = n ∧ x.ents.length = m ∧ x.marks.flatMap intC = cM)) (HLL : Hid (Lents x.ents LL)) (HLm : Hid (LL.length = m))
    (HEv : Hid (∀ (i j : Nat) (t : Ent) (u : Value), LL[i]? = some t → (Ent.cells t)[j]? = some u → cE[i * 11 + j]? = some u))
    (HY : Hid (YC.toArray[5]? = some (.slice (some ⟨ab, ao, none⟩) n cm) ∧ YC.toArray[7]? = some (.slice (some ⟨eb, eo, none⟩) m ce) ∧ XC.toArray[5]? = some (.slice x.marksA n x.marksC) ∧ XC.toArray[7]? = some (.slice x.entsA m x.entsC)))
    (C2 : Hid (∀ w', Mod (fun _ => False) w w' → Calls Tryz.prog 14 #[.agg ([.int .i64 x.kind, .int .i64 x.epoch, .int .i64 x.zxid, .int .i64 x.number, .int .i64 x.session, .slice x.marksA n x.marksC, .string x.data, .slice x.entsA m x.entsC, .int .i64 x.q.q.kind, .int .i64 x.q.q.xid, .string x.q.q.path, .string x.q.q.data, .slice x.q.q.aclA x.q.q.acl.length x.q.q.aclC, .int .i64 x.q.q.flags, .int .i64 x.q.q.version, .bool x.q.q.watch, .slice x.q.q.subsA x.q.q.subsN x.q.q.subsC, .slice x.q.q.armedA x.q.q.armedN x.q.q.armedC, .slice x.idsA x.ids.length x.idsC] : List Value).toArray] w' (fun e w'' => e = .returned (.string Bt) ∧ Mod (fun _ => False) w' w'')))
    (C3 : Hid (∀ w', Calls Tryz.prog 9 #[.string Bt] w' (fun e w'' => e = .returned (.bool true) ∧ Mod (fun _ => False) w' w''))) (HXC : Hid (([.int .i64 x.kind, .int .i64 x.epoch, .int .i64 x.zxid, .int .i64 x.number, .int .i64 x.session, .slice x.marksA n x.marksC, .string x.data, .slice x.entsA m x.entsC, .int .i64 x.q.q.kind, .int .i64 x.q.q.xid, .string x.q.q.path, .string x.q.q.data, .slice x.q.q.aclA x.q.q.acl.length x.q.q.aclC, .int .i64 x.q.q.flags, .int .i64 x.q.q.version, .bool x.q.q.watch, .slice x.q.q.subsA x.q.q.subsN x.q.q.subsC, .slice x.q.q.armedA x.q.q.armedN x.q.q.armedC, .slice x.idsA x.ids.length x.idsC] : List Value) = XC)) (hBB : (Bt.toList == Bt.toList) = true)
    (hS : St w wx (bx ob YC.toArray 33 :: sl 39 11 (some ⟨eb, eo, none⟩) (m + 1) ce cE :: grp (LL.map fun e => grp (Ent.own e)) :: sl 3 1 (some ⟨ab, ao, none⟩) (n + 1) cm cI :: bx tb XC.toArray 33 :: [])) :
    Code.wp Tryz.prog msgsEnd (bodyPost Tryz.prog Tryz.f4 (ValPost (.bool true) w)) ⟨#[x0, .pointer (some ⟨tb, 0, none⟩), .bool false, .bool true, .pointer (some ⟨ob, 0, none⟩), x5, x6, x7, .string Bt, .bool true, x10, x11, x12, x13, x14, x15, x16, x17, x18, x19, x20, x21, x22, x23, x24, x25, x26, x27, x28, x29, x30, x31, x32, x33, x34, x35, x36, x37, x38, x39, x40, x41, x42, x43, x44, x45, x46, x47, x48, x49, x50, x51, x52, x53, x54, x55, x56, x57, x58, x59, x60, x61, x62, x63, x64, x65, x66, x67, x68, x69, x70, x71, x72, x73, x74, x75, x76, x77, x78, x79, x80, x81, x82, x83, x84, x85, x86, x87, x88, x89, x90, x91, x92, x93, x94, x95, x96, x97, x98, x99, x100, x101, x102, x103, x104, x105, x106, x107, x108, x109, x110, x111, x112, x113, x114, x115, x116, x117, x118, x119, x120, x121, x122, x123, x124, x125, x126, x127, x128, x129, x130, x131, x132, x133, x134, x135, x136, x137, x138], []⟩ wx := by
  conv => arg 2; whnf
  dsimp only
  have HS := Lib.hid hS
  have o7 := blk_cell (hS.box 0 rfl) 7 _ HY.out.2.1
  have t7 := blk_cell (hS.box 4 rfl) 7 _ HY.out.2.2.2
  have zob := heap_lt (hS.box 0 rfl)
  have ztb := heap_lt (hS.box 4 rfl)
  clear hS
  go_wp2_with fail
  go_loopg [9, 11, 12] m (fun g z y z12 wr => ∃ i : Nat, i + g = m ∧ y = .int .i64 i ∧ z = .bool true ∧ St w wr (bx ob YC.toArray 33 :: sl 39 11 (some ⟨eb, eo, none⟩) (m + 1) ce cE :: grp ((LL.drop i).map fun e => grp (Ent.own e)) :: sl 3 1 (some ⟨ab, ao, none⟩) (n + 1) cm cI :: bx tb XC.toArray 33 :: []))
  case atStart => exact ⟨0, by omega, rfl, rfl, HS.out⟩
  case round =>
    obtain ⟨j, hjg, rfl, rfl, hS⟩ := hrel
    clear HS o7 t7 zob ztb
    have t7 := blk_cell (hS.box 4 rfl) 7 _ HY.out.2.2.2
    have ztb := heap_lt (hS.box 4 rfl)
    by_cases hlj : j < m
    · have hxj : x.ents[j]? = some (x.ents[j]'(HNM.out.2.1 ▸ hlj)) := List.getElem?_eq_getElem _
      obtain ⟨t, ht⟩ : ∃ t, x.ents[j]'(HNM.out.2.1 ▸ hlj) = t := ⟨_, rfl⟩
      rw [ht] at hxj
      have hLj : LL[j]? = some (LL[j]'(HLm.out ▸ hlj)) := List.getElem?_eq_getElem _
      have hdr : LL.drop j = LL[j]'(HLm.out ▸ hlj) :: LL.drop (j + 1) := List.drop_eq_getElem_cons _
      obtain ⟨t2, ht2⟩ : ∃ t, LL[j]'(HLm.out ▸ hlj) = t := ⟨_, rfl⟩
      rw [ht2] at hLj hdr
      obtain ⟨a3, c3, b3, d3, rfl⟩ := HLL.out.2 j _ _ hxj hLj
      rw [hdr, List.map_cons] at hS
      have hmem := List.mem_of_getElem? hxj
      have htok := HX.out.eall t hmem
      have hln := Ent.lens t
      have hbl2 := HEL.out t hmem
      obtain ⟨b, o, hae, hbl, hc⟩ := HRE.out.elem (k := 11) Ent.cells (fun _ => rfl) (by omega) hxj
      have HX7 : Hid (XC.toArray[7]? = some (.slice (some ⟨b, o, none⟩) m x.entsC)) := Lib.hid (by rw [← hae]; exact HY.out.2.2.2)
      have KP : Hid (∀ w' G, St w w' (bx ob YC.toArray 33 :: sl 39 11 (some ⟨eb, eo, none⟩) (m + 1) ce cE :: G :: sl 3 1 (some ⟨ab, ao, none⟩) (n + 1) cm cI :: bx tb XC.toArray 33 :: []) → Hid (∀ (k : Nat) (u : Value), (Ent.cells (t.lent a3 c3 b3 d3))[k]? = some u → w'.cell? ((⟨eb, eo + j * 11, none⟩ : Addr).add k) = some u) ∧ Hid (∀ (k : Nat) (u : Value), (Ent.cells t)[k]? = some u → w'.cell? ((⟨b, o + j * 11, none⟩ : Addr).add k) = some u) ∧ w'.cell? ⟨ob, 7, none⟩ = some (.slice (some ⟨eb, eo, none⟩) m ce) ∧ w'.cell? ⟨tb, 7, none⟩ = some (.slice (some ⟨b, o, none⟩) m x.entsC)) := Lib.hid fun w' G h => ⟨Lib.hid fun k u hu => by rw [add_none, Nat.add_assoc]; exact (h.slice 1 rfl).cellAt (HEv.out j k _ u hLj hu), Lib.hid fun k u hu => by rw [add_none]; exact h.1.cell (hc k u hu) id, blk_cell (h.box 0 rfl) 7 _ HY.out.2.1, blk_cell (h.box 4 rfl) 7 _ HX7.out⟩
      have HTX := Lib.hid (And.intro htok (And.intro hln hbl2))
      have HS := Lib.hid hS
      rw [hae] at t7
      clear hxj ht hLj hdr ht2 hmem htok hln hbl2 hae hbl hc hS
      go_upto_region 20 with fail
      refine wp_region_held_drew (S := fun w' => Hid (∀ (k : Nat) (u : Value), (Ent.cells (t.lent a3 c3 b3 d3))[k]? = some u → w'.cell? ((⟨eb, eo + j * 11, none⟩ : Addr).add k) = some u) ∧ Hid (∀ (k : Nat) (u : Value), (Ent.cells t)[k]? = some u → w'.cell? ((⟨b, o + j * 11, none⟩ : Addr).add k) = some u) ∧ w'.cell? ⟨ob, 7, none⟩ = some (.slice (some ⟨eb, eo, none⟩) m ce) ∧ w'.cell? ⟨tb, 7, none⟩ = some (.slice (some ⟨b, o, none⟩) m x.entsC)) (by kernel_rfl) (KP.out _ _ HS.out.drew) (fun hHeld => ?_)
      refine wpAnyH_take (i := 0) (oi := ⟨some 110, _, _, _, _, _⟩) (v := ?_) rfl (by kernel_rfl) (by kernel_rfl) (by kernel_rfl) (fun _ _ _ h => h) (Or.inl ⟨by rfl, ?_⟩) hHeld ?_
      rotate_left
      · intro wq hSw; (try dsimp only at hSw); obtain ⟨hs1, hs2, hs3, hs4⟩ := hSw; clear hs1 hs2; go_simp; try with_reducible rfl
      try simp only [Act.put, Nat.zero_add, List.setIfInBounds_toArray, List.set_cons_zero, List.set_cons_succ]
      refine wpAnyH_take (i := 1) (oi := ⟨some 111, _, _, _, _, _⟩) (v := ?_) rfl (by kernel_rfl) (by kernel_rfl) (by kernel_rfl) (fun _ _ _ h => h) (Or.inl ⟨by rfl, ?_⟩) hHeld ?_
      rotate_left
      · intro wq hSw; (try dsimp only at hSw); obtain ⟨hs1, hs2, hs3, hs4⟩ := hSw; clear hs1 hs2; go_simp; try with_reducible rfl
      try simp only [Act.put, Nat.zero_add, List.setIfInBounds_toArray, List.set_cons_zero, List.set_cons_succ]
      refine wpAnyH_take (i := 2) (oi := ⟨some 112, _, _, _, _, _⟩) (v := ?_) rfl (by kernel_rfl) (by kernel_rfl) (by kernel_rfl) (fun _ _ _ h => h) (Or.inl ⟨by rfl, ?_⟩) hHeld ?_
      rotate_left
      · intro wq hSw; (try dsimp only at hSw); obtain ⟨hs1, hs2, hs3, hs4⟩ := hSw; clear hs1 hs2; go_simp; try with_reducible rfl
      try simp only [Act.put, Nat.zero_add, List.setIfInBounds_toArray, List.set_cons_zero, List.set_cons_succ]
      refine wpAnyH_take (i := 3) (oi := ⟨some 113, _, _, _, _, _⟩) (v := ?_) rfl (by kernel_rfl) (by kernel_rfl) (by kernel_rfl) (fun _ _ _ h => h) (Or.inl ⟨by rfl, ?_⟩) hHeld ?_
      rotate_left
      · intro wq hSw; (try dsimp only at hSw); obtain ⟨hs1, hs2, hs3, hs4⟩ := hSw; clear hs1 hs2; go_simp; try with_reducible rfl
      try simp only [Act.put, Nat.zero_add, List.setIfInBounds_toArray, List.set_cons_zero, List.set_cons_succ]
      refine wpAnyH_take (i := 4) (oi := ⟨some 114, _, _, _, _, _⟩) (v := _) rfl (by kernel_rfl) (by kernel_rfl) (by kernel_rfl) (fun _ _ _ h => h) (yields_load 11 _ (by rfl) rfl Tryz.underlying39 rfl sizeEnt ⟨eb, eo + j * 11, none⟩ (by rfl) (Ent.cells (t.lent a3 c3 b3 d3)) rfl (fun _ h => h.1.out)) hHeld ?_
      try simp only [Act.put, Nat.zero_add, List.setIfInBounds_toArray, List.set_cons_zero, List.set_cons_succ]
      refine wpAnyH_take (i := 5) (oi := ⟨some 115, _, _, _, _, _⟩) (v := ?_) rfl (by kernel_rfl) (by kernel_rfl) (by kernel_rfl) (fun _ _ _ h => h) (Or.inl ⟨by rfl, ?_⟩) hHeld ?_
      rotate_left
      · intro wq hSw; (try dsimp only at hSw); obtain ⟨hs1, hs2, hs3, hs4⟩ := hSw; clear hs1 hs2; go_simp; try with_reducible rfl
      try simp only [Act.put, Nat.zero_add, List.setIfInBounds_toArray, List.set_cons_zero, List.set_cons_succ]
      refine wpAnyH_take (i := 6) (oi := ⟨some 116, _, _, _, _, _⟩) (v := ?_) rfl (by kernel_rfl) (by kernel_rfl) (by kernel_rfl) (fun _ _ _ h => h) (Or.inl ⟨by rfl, ?_⟩) hHeld ?_
      rotate_left
      · intro wq hSw; (try dsimp only at hSw); obtain ⟨hs1, hs2, hs3, hs4⟩ := hSw; clear hs1 hs2; go_simp; try with_reducible rfl
      try simp only [Act.put, Nat.zero_add, List.setIfInBounds_toArray, List.set_cons_zero, List.set_cons_succ]
      refine wpAnyH_take (i := 7) (oi := ⟨some 117, _, _, _, _, _⟩) (v := ?_) rfl (by kernel_rfl) (by kernel_rfl) (by kernel_rfl) (fun _ _ _ h => h) (Or.inl ⟨by rfl, ?_⟩) hHeld ?_
      rotate_left
      · intro wq hSw; (try dsimp only at hSw); obtain ⟨hs1, hs2, hs3, hs4⟩ := hSw; clear hs1 hs2; go_simp; try with_reducible rfl
      try simp only [Act.put, Nat.zero_add, List.setIfInBounds_toArray, List.set_cons_zero, List.set_cons_succ]
      refine wpAnyH_take (i := 8) (oi := ⟨some 118, _, _, _, _, _⟩) (v := ?_) rfl (by kernel_rfl) (by kernel_rfl) (by kernel_rfl) (fun _ _ _ h => h) (Or.inl ⟨by rfl, ?_⟩) hHeld ?_
      rotate_left
      · intro wq hSw; (try dsimp only at hSw); obtain ⟨hs1, hs2, hs3, hs4⟩ := hSw; clear hs1 hs2; go_simp; try with_reducible rfl
      try simp only [Act.put, Nat.zero_add, List.setIfInBounds_toArray, List.set_cons_zero, List.set_cons_succ]
      refine wpAnyH_take (i := 9) (oi := ⟨some 119, _, _, _, _, _⟩) (v := _) rfl (by kernel_rfl) (by kernel_rfl) (by kernel_rfl) (fun _ _ _ h => h) (yields_load 11 _ (by rfl) rfl Tryz.underlying39 rfl sizeEnt ⟨b, o + j * 11, none⟩ (by rfl) (Ent.cells t) rfl (fun _ h => h.2.1.out)) hHeld ?_
      try simp only [Act.put, Nat.zero_add, List.setIfInBounds_toArray, List.set_cons_zero, List.set_cons_succ]
      have HP : Hid (St w wr.drew (Ent.own (t.lent a3 c3 b3 d3) ++ (bx ob YC.toArray 33 :: sl 39 11 (some ⟨eb, eo, none⟩) (m + 1) ce cE :: grp ((LL.drop (j + 1)).map fun e => grp (Ent.own e)) :: sl 3 1 (some ⟨ab, ao, none⟩) (n + 1) cm cI :: bx tb XC.toArray 33 :: []))) := Lib.hid (St.ungrp (HS.out.drew.pull2))
      clear HS
      refine wpAnyH_ready (rs := [10]) (by kernel_rfl) (by simp) ?_
      refine AllReadyH.cons (o := ⟨some 120, .call _, _, _, _, _⟩) rfl (fun K hK => ?_) AllReadyH.nil
      go_simp
      refine (keptEntry_st t (HTX.out.1) (by have := HTX.out.2; omega) (by have := HTX.out.2; omega) (by have := HTX.out.2; unfold bfits; omega) a3 c3 b3 d3 HP.out).mono ?_
      rintro e w9 ⟨rfl, hS9⟩
      have HS9 := Lib.hid hS9
      clear HP hS9
      refine hK.out _ _ (KP.out _ _ HS9.out) (fun hHeld => ?_)
      clear hK K
      try simp only [Act.put, Nat.zero_add, List.setIfInBounds_toArray, List.set_cons_zero, List.set_cons_succ]
      refine wpAnyH_take (i := 11) (oi := ⟨some 12, _, _, _, _, _⟩) (v := ?_) rfl (by kernel_rfl) (by kernel_rfl) (by kernel_rfl) (fun _ _ _ h => h) (Or.inl ⟨by rfl, ?_⟩) hHeld ?_
      rotate_left
      · intro wq hSw; (try dsimp only at hSw); obtain ⟨hs1, hs2, hs3, hs4⟩ := hSw; clear hs1 hs2; go_simp; try with_reducible rfl
      try simp only [Act.put, Nat.zero_add, List.setIfInBounds_toArray, List.set_cons_zero, List.set_cons_succ]
      refine wpAnyH_done (by kernel_rfl) ?_ _
      clear KP HX7 HTX t7 ztb hHeld
      go_wp2_with fail
      go_roundg (m - (j + 1))
      case measure => omega
      case rel => exact ⟨j + 1, by omega, by simp, rfl, HS9.out⟩
    · clear hjg
      have HM := Lib.hid hS.1
      have HS := Lib.hid hS
      have hxl : XC.length = 19 := by rw [← HXC.out]; rfl
      have HXL := Lib.hid hxl
      have C4 : Hid (∀ w', Mod (fun _ => False) w w' → Calls Tryz.prog 14 #[.agg XC.toArray] w' (fun e w'' => e = .returned (.string Bt) ∧ Mod (fun _ => False) w' w'')) := Lib.hid (by have h := C2.out; rw [HXC.out] at h; exact h)
      clear hS hxl C2
      go_wp2_with (first
        | ((with_reducible refine at_list ?_); refine wpList_load_chunkG 19 _ Tryz.underlying33 rfl sizeMsg ⟨tb, 0, none⟩ rfl XC HXL.out (box_chunk (HS.out.box 4 rfl)) (by rfl) ?_)
        | (go_at_call 14; refine (C4.out _ HM.out).mono ?_; rintro e w10 ⟨rfl, hM10⟩; clear C4)
        | (go_at_call 9; refine (C3.out _).mono ?_; rintro e w11 ⟨rfl, hM11⟩; clear C3))
      go_ret
      exact ⟨rfl, (HM.out.then hM10 (fun _ _ h => h)).then hM11 (fun _ _ h => h)⟩

noncomputable def msgsTail : Code := ((Tryz.f4.body.bind (codeAt 11)).getD .skip)

set_option maxHeartbeats 16000000 in
theorem msgs_tail (x0 x5 x6 x7 x8 x9 x10 x11 x12 x13 x14 x15 x16 x17 x18 x19 x20 x21 x22 x23 x24 x25 x26 x27 x28 x29 x30 x31 x32 x33 x34 x35 x36 x37 x38 x39 x40 x41 x42 x43 x44 x45 x46 x47 x48 x49 x50 x51 x52 x53 x54 x55 x56 x57 x58 x59 x60 x61 x62 x63 x64 x65 x66 x67 x68 x69 x70 x71 x72 x73 x74 x75 x76 x77 x78 x79 x80 x81 x82 x83 x84 x85 x86 x87 x88 x89 x90 x91 x92 x93 x94 x95 x96 x97 x98 x99 x100 x101 x102 x103 x104 x105 x106 x107 x108 x109 x110 x111 x112 x113 x114 x115 x116 x117 x118 x119 x120 x121 x122 x123 x124 x125 x126 x127 x128 x129 x130 x131 x132 x133 x134 x135 x136 x137 x138 : Value) (x : Msg) (w wx : World) (n m ob tb : Nat) (cM : List Value) (am : Option Addr) (cm : Nat) (ae : Option Addr) (ce : Nat) (LL : List Ent) (hnl : n ≤ 20000000) (hml : m ≤ 20000000) (HX : Hid (x.ok w)) (HB : Hid (x.bytes.length ≤ 20000000))
    (HRM : Hid (Rd w 1 x.marksA n x.marksC cM)) (HRE : Hid (Rd w 11 x.entsA m x.entsC (x.ents.flatMap Ent.cells))) (HEL : Hid (∀ t ∈ x.ents, t.bytes.length ≤ 20000000)) (HNM : Hid (x.marks.length = n ∧ x.ents.length = m ∧ x.marks.flatMap intC = cM)) (HLL : Hid (Lents x.ents LL))
    (hS : St w wx (bx ob #[.int .i64 x.kind, .int .i64 x.epoch, .int .i64 x.zxid, .int .i64 x.number, .int .i64 x.session, .slice am n cm, .string x.data, .slice ae m ce, .int .i64 x.q.q.kind, .int .i64 x.q.q.xid, .string x.q.q.path, .string x.q.q.data, .slice x.q.q.aclA x.q.q.acl.length x.q.q.aclC, .int .i64 x.q.q.flags, .int .i64 x.q.q.version, .bool x.q.q.watch, .slice x.q.q.subsA x.q.q.subsN x.q.q.subsC, .slice x.q.q.armedA x.q.q.armedN x.q.q.armedC, .slice x.idsA x.ids.length x.idsC] 33 :: sl 39 11 ae (m + 1) ce (LL.flatMap Ent.cells ++ [.int .i64 77, .int .i64 0, .int .i64 0, .int .i64 0, .string ⟨#[]⟩, .string ⟨#[]⟩, .slice none 0 0, .int .i64 0, .int .i64 0, .int .i64 0, .slice none 0 0]) :: grp (LL.map fun e => grp (Ent.own e)) :: sl 3 1 am (n + 1) cm (cM ++ [.int .i64 77]) :: bx tb #[.int .i64 x.kind, .int .i64 x.epoch, .int .i64 x.zxid, .int .i64 x.number, .int .i64 x.session, .slice x.marksA n x.marksC, .string x.data, .slice x.entsA m x.entsC, .int .i64 x.q.q.kind, .int .i64 x.q.q.xid, .string x.q.q.path, .string x.q.q.data, .slice x.q.q.aclA x.q.q.acl.length x.q.q.aclC, .int .i64 x.q.q.flags, .int .i64 x.q.q.version, .bool x.q.q.watch, .slice x.q.q.subsA x.q.q.subsN x.q.q.subsC, .slice x.q.q.armedA x.q.q.armedN x.q.q.armedC, .slice x.idsA x.ids.length x.idsC] 33 :: [])) :
    Code.wp Tryz.prog msgsTail (bodyPost Tryz.prog Tryz.f4 (ValPost (.bool true) w)) ⟨#[x0, .pointer (some ⟨tb, 0, none⟩), .bool false, .bool true, .pointer (some ⟨ob, 0, none⟩), x5, x6, x7, x8, x9, x10, x11, x12, x13, x14, x15, x16, x17, x18, x19, x20, x21, x22, x23, x24, x25, x26, x27, x28, x29, x30, x31, x32, x33, x34, x35, x36, x37, x38, x39, x40, x41, x42, x43, x44, x45, x46, x47, x48, x49, x50, x51, x52, x53, x54, x55, x56, x57, x58, x59, x60, x61, x62, x63, x64, x65, x66, x67, x68, x69, x70, x71, x72, x73, x74, x75, x76, x77, x78, x79, x80, x81, x82, x83, x84, x85, x86, x87, x88, x89, x90, x91, x92, x93, x94, x95, x96, x97, x98, x99, x100, x101, x102, x103, x104, x105, x106, x107, x108, x109, x110, x111, x112, x113, x114, x115, x116, x117, x118, x119, x120, x121, x122, x123, x124, x125, x126, x127, x128, x129, x130, x131, x132, x133, x134, x135, x136, x137, x138], []⟩ wx := by
  conv => arg 2; whnf
  dsimp only
  obtain ⟨Bt, hBt⟩ : ∃ Bt, ByteArray.mk x.bytes.toArray = Bt := ⟨_, rfl⟩
  have hBs : Bt.size = x.bytes.length := by rw [← hBt, mk_size]
  have hLm : LL.length = m := by rw [HLL.out.1]; exact HNM.out.2.1
  have hcMl : cM.length = n := by have := HRM.out.1; omega
  have hcEl : (LL.flatMap Ent.cells).length = m * 11 := by rw [Ent.cells_len, hLm]
  have hown : ({ x with marksA := am, marksC := cm, ents := LL, entsA := ae, entsC := ce } : Msg).ok wx := own_ok HX.out hS.1 (by rw [HNM.out.1, HNM.out.2.2]; exact ((hS.slice 3 rfl).short (by omega)).rd) (by rw [hLm]; exact ((hS.slice 1 rfl).short hcEl).rd) HLL.out (hS.lies (by simp))
  have hyb : ({ x with marksA := am, marksC := cm, ents := LL, entsA := ae, entsC := ce } : Msg).bytes = x.bytes := by
    show numsB _ ++ listB numB x.marks ++ txtB x.data ++ listB Ent.bytes LL ++ x.q.bytes ++ listB txtB x.ids = _
    rw [HLL.out.bytes]; rfl
  have C1 : Hid (Calls Tryz.prog 12 #[.agg ({ x with marksA := am, marksC := cm, ents := LL, entsA := ae, entsC := ce } : Msg).cells.toArray] wx (fun e w'' => e = .returned (.string Bt) ∧ Mod (fun _ => False) wx w'')) := Lib.hid (by
    rw [← hBt, ← hyb]; exact PutMessage_any _ wx hown (by rw [hyb]; have := HB.out; unfold bfits; omega))
  have C2 : Hid (∀ w', Mod (fun _ => False) w w' → Calls Tryz.prog 14 #[.agg x.cells.toArray] w' (fun e w'' => e = .returned (.string Bt) ∧ Mod (fun _ => False) w' w'')) := Lib.hid fun w' h => by
    rw [← hBt]; exact rPutMessage_any x w' (Msg.okmod HX.out h) (by have := HB.out; unfold bfits; omega)
  have C3 : Hid (∀ w', Calls Tryz.prog 9 #[.string Bt] w' (fun e w'' => e = .returned (.bool true) ∧ Mod (fun _ => False) w' w'')) := Lib.hid fun w' => message_any Bt (by have := HB.out; unfold bfits; omega) w'
  have hBB : (Bt.toList == Bt.toList) = true := by simp
  have hyc : ({ x with marksA := am, marksC := cm, ents := LL, entsA := ae, entsC := ce } : Msg).cells = [.int .i64 x.kind, .int .i64 x.epoch, .int .i64 x.zxid, .int .i64 x.number, .int .i64 x.session, .slice am n cm, .string x.data, .slice ae m ce, .int .i64 x.q.q.kind, .int .i64 x.q.q.xid, .string x.q.q.path, .string x.q.q.data, .slice x.q.q.aclA x.q.q.acl.length x.q.q.aclC, .int .i64 x.q.q.flags, .int .i64 x.q.q.version, .bool x.q.q.watch, .slice x.q.q.subsA x.q.q.subsN x.q.q.subsC, .slice x.q.q.armedA x.q.q.armedN x.q.q.armedC, .slice x.idsA x.ids.length x.idsC] := by
    simp only [Msg.cells, HNM.out.1, hLm]
  have hxc : x.cells = [.int .i64 x.kind, .int .i64 x.epoch, .int .i64 x.zxid, .int .i64 x.number, .int .i64 x.session, .slice x.marksA n x.marksC, .string x.data, .slice x.entsA m x.entsC, .int .i64 x.q.q.kind, .int .i64 x.q.q.xid, .string x.q.q.path, .string x.q.q.data, .slice x.q.q.aclA x.q.q.acl.length x.q.q.aclC, .int .i64 x.q.q.flags, .int .i64 x.q.q.version, .bool x.q.q.watch, .slice x.q.q.subsA x.q.q.subsN x.q.q.subsC, .slice x.q.q.armedA x.q.q.armedN x.q.q.armedC, .slice x.idsA x.ids.length x.idsC] := by simp only [Msg.cells, HNM.out.1, HNM.out.2.1]
  rw [hyc] at C1
  rw [hxc] at C2
  have hI7 : (cM ++ [.int .i64 77])[n]? = some (.int .i64 77) := by rw [List.getElem?_append_right (by omega), hcMl, Nat.sub_self]; rfl
  have hE7 : (LL.flatMap Ent.cells ++ [.int .i64 77, .int .i64 0, .int .i64 0, .int .i64 0, .string ⟨#[]⟩, .string ⟨#[]⟩, .slice none 0 0, .int .i64 0, .int .i64 0, .int .i64 0, .slice none 0 0])[m * 11]? = some (.int .i64 77) := by rw [List.getElem?_append_right (by omega), hcEl, Nat.sub_self]; rfl
  have hIv : ∀ (i : Nat) (v : Int), x.marks[i]? = some v → (cM ++ [.int .i64 77])[i]? = some (.int .i64 v) := fun i v h => by
    have hi : i < n := by rw [← HNM.out.1]; exact (List.getElem?_eq_some_iff.1 h).1
    rw [List.getElem?_append_left (by omega), ← HNM.out.2.2, int_ic]
    simp [ic, h]
  have hEv : ∀ (i j : Nat) (t : Ent) (u : Value), LL[i]? = some t → (Ent.cells t)[j]? = some u → (LL.flatMap Ent.cells ++ [.int .i64 77, .int .i64 0, .int .i64 0, .int .i64 0, .string ⟨#[]⟩, .string ⟨#[]⟩, .slice none 0 0, .int .i64 0, .int .i64 0, .int .i64 0, .slice none 0 0])[i * 11 + j]? = some u := fun i j t u h hu => by
    have hi : i < m := by rw [← hLm]; exact (List.getElem?_eq_some_iff.1 h).1
    have hj : j < 11 := (List.getElem?_eq_some_iff.1 hu).1
    rw [List.getElem?_append_left (by omega)]
    exact flat_cell Ent.cells (fun _ => rfl) h hu
  obtain ⟨ab, ao, ac, rfl, hag, hafit⟩ := (hS.slice 3 rfl).block (by omega)
  obtain ⟨eb, eo, ec, rfl, heg, hefit⟩ := (hS.slice 1 rfl).block (by omega)
  have hac := (hS.slice 3 rfl).2.1
  have hec := (hS.slice 1 rfl).2.1
  clear hag hafit heg hefit
  obtain ⟨cI, hcI⟩ : ∃ c, cM ++ [.int .i64 77] = c := ⟨_, rfl⟩
  obtain ⟨cE, hcE⟩ : ∃ c, LL.flatMap Ent.cells ++ [.int .i64 77, .int .i64 0, .int .i64 0, .int .i64 0, .string ⟨#[]⟩, .string ⟨#[]⟩, .slice none 0 0, .int .i64 0, .int .i64 0, .int .i64 0, .slice none 0 0] = c := ⟨_, rfl⟩
  rw [hcI] at hS hI7 hIv
  rw [hcE] at hS hE7 hEv
  have hY5 : ([.int .i64 x.kind, .int .i64 x.epoch, .int .i64 x.zxid, .int .i64 x.number, .int .i64 x.session, .slice (some ⟨ab, ao, none⟩) n cm, .string x.data, .slice (some ⟨eb, eo, none⟩) m ce, .int .i64 x.q.q.kind, .int .i64 x.q.q.xid, .string x.q.q.path, .string x.q.q.data, .slice x.q.q.aclA x.q.q.acl.length x.q.q.aclC, .int .i64 x.q.q.flags, .int .i64 x.q.q.version, .bool x.q.q.watch, .slice x.q.q.subsA x.q.q.subsN x.q.q.subsC, .slice x.q.q.armedA x.q.q.armedN x.q.q.armedC, .slice x.idsA x.ids.length x.idsC] : List Value).toArray[5]? = some (.slice (some ⟨ab, ao, none⟩) n cm) := rfl
  have hY7 : ([.int .i64 x.kind, .int .i64 x.epoch, .int .i64 x.zxid, .int .i64 x.number, .int .i64 x.session, .slice (some ⟨ab, ao, none⟩) n cm, .string x.data, .slice (some ⟨eb, eo, none⟩) m ce, .int .i64 x.q.q.kind, .int .i64 x.q.q.xid, .string x.q.q.path, .string x.q.q.data, .slice x.q.q.aclA x.q.q.acl.length x.q.q.aclC, .int .i64 x.q.q.flags, .int .i64 x.q.q.version, .bool x.q.q.watch, .slice x.q.q.subsA x.q.q.subsN x.q.q.subsC, .slice x.q.q.armedA x.q.q.armedN x.q.q.armedC, .slice x.idsA x.ids.length x.idsC] : List Value).toArray[7]? = some (.slice (some ⟨eb, eo, none⟩) m ce) := rfl
  have hX5 : ([.int .i64 x.kind, .int .i64 x.epoch, .int .i64 x.zxid, .int .i64 x.number, .int .i64 x.session, .slice x.marksA n x.marksC, .string x.data, .slice x.entsA m x.entsC, .int .i64 x.q.q.kind, .int .i64 x.q.q.xid, .string x.q.q.path, .string x.q.q.data, .slice x.q.q.aclA x.q.q.acl.length x.q.q.aclC, .int .i64 x.q.q.flags, .int .i64 x.q.q.version, .bool x.q.q.watch, .slice x.q.q.subsA x.q.q.subsN x.q.q.subsC, .slice x.q.q.armedA x.q.q.armedN x.q.q.armedC, .slice x.idsA x.ids.length x.idsC] : List Value).toArray[5]? = some (.slice x.marksA n x.marksC) := rfl
  have hX7 : ([.int .i64 x.kind, .int .i64 x.epoch, .int .i64 x.zxid, .int .i64 x.number, .int .i64 x.session, .slice x.marksA n x.marksC, .string x.data, .slice x.entsA m x.entsC, .int .i64 x.q.q.kind, .int .i64 x.q.q.xid, .string x.q.q.path, .string x.q.q.data, .slice x.q.q.aclA x.q.q.acl.length x.q.q.aclC, .int .i64 x.q.q.flags, .int .i64 x.q.q.version, .bool x.q.q.watch, .slice x.q.q.subsA x.q.q.subsN x.q.q.subsC, .slice x.q.q.armedA x.q.q.armedN x.q.q.armedC, .slice x.idsA x.ids.length x.idsC] : List Value).toArray[7]? = some (.slice x.entsA m x.entsC) := rfl
  obtain ⟨YC, hYC⟩ : ∃ Y, ([.int .i64 x.kind, .int .i64 x.epoch, .int .i64 x.zxid, .int .i64 x.number, .int .i64 x.session, .slice (some ⟨ab, ao, none⟩) n cm, .string x.data, .slice (some ⟨eb, eo, none⟩) m ce, .int .i64 x.q.q.kind, .int .i64 x.q.q.xid, .string x.q.q.path, .string x.q.q.data, .slice x.q.q.aclA x.q.q.acl.length x.q.q.aclC, .int .i64 x.q.q.flags, .int .i64 x.q.q.version, .bool x.q.q.watch, .slice x.q.q.subsA x.q.q.subsN x.q.q.subsC, .slice x.q.q.armedA x.q.q.armedN x.q.q.armedC, .slice x.idsA x.ids.length x.idsC] : List Value) = Y := ⟨_, rfl⟩
  obtain ⟨XC, hXC⟩ : ∃ X, ([.int .i64 x.kind, .int .i64 x.epoch, .int .i64 x.zxid, .int .i64 x.number, .int .i64 x.session, .slice x.marksA n x.marksC, .string x.data, .slice x.entsA m x.entsC, .int .i64 x.q.q.kind, .int .i64 x.q.q.xid, .string x.q.q.path, .string x.q.q.data, .slice x.q.q.aclA x.q.q.acl.length x.q.q.aclC, .int .i64 x.q.q.flags, .int .i64 x.q.q.version, .bool x.q.q.watch, .slice x.q.q.subsA x.q.q.subsN x.q.q.subsC, .slice x.q.q.armedA x.q.q.armedN x.q.q.armedC, .slice x.idsA x.ids.length x.idsC] : List Value) = X := ⟨_, rfl⟩
  have hYl : YC.length = 19 := by rw [← hYC]; rfl
  rw [hYC] at hY5 hY7 C1
  rw [hXC] at hX5 hX7
  have hS : St w wx (bx ob YC.toArray 33 :: sl 39 11 (some ⟨eb, eo, none⟩) (m + 1) ce cE :: grp (LL.map fun e => grp (Ent.own e)) :: sl 3 1 (some ⟨ab, ao, none⟩) (n + 1) cm cI :: bx tb XC.toArray 33 :: []) := by rw [← hYC, ← hXC]; exact hS
  have HS := Lib.hid hS
  have HY := Lib.hid (And.intro hY5 (And.intro hY7 (And.intro hX5 hX7)))
  have HYL := Lib.hid hYl
  have HXC := Lib.hid hXC
  have HLm := Lib.hid hLm
  have HI7 := Lib.hid (And.intro hI7 hE7)
  have HIv := Lib.hid hIv
  have HEv := Lib.hid hEv
  clear hBt hBs hLm hcMl hcEl hown hyb hyc hxc hI7 hE7 hIv hEv hcI hcE hY5 hY7 hX5 hX7 hYC hXC hYl hS
  go_upto_region 12 with (first
    | ((with_reducible refine at_list ?_); refine wpList_load_chunk 19 _ Tryz.underlying33 rfl sizeMsg ⟨ob, 0, none⟩ rfl YC HYL.out (box_chunk (HS.out.box 0 rfl)) ?_)
    | (go_at_call 12; refine C1.out.mono ?_; rintro e w4 ⟨rfl, hM4⟩; have HS4 := Lib.hid (HS.out.mod hM4); clear HS hM4 C1))
  have o5 := blk_cell (HS4.out.box 0 rfl) 5 _ HY.out.1
  have o7 := blk_cell (HS4.out.box 0 rfl) 7 _ HY.out.2.1
  have t5 := blk_cell (HS4.out.box 4 rfl) 5 _ HY.out.2.2.1
  have t7 := blk_cell (HS4.out.box 4 rfl) 7 _ HY.out.2.2.2
  have a7 := (HS4.out.slice 3 rfl).cellAt HI7.out.1
  have e7 := (HS4.out.slice 1 rfl).cellAt HI7.out.2
  have zob := heap_lt (HS4.out.box 0 rfl)
  have ztb := heap_lt (HS4.out.box 4 rfl)
  have zab := World.block_lt_of_cell? _ _ a7
  have zeb := World.block_lt_of_cell? _ _ e7
  have y1 : IntKind.i64.wrap ((n : Int) + 1) = (n : Int) + 1 := IntWalk.i64_in _ (by omega)
  have y2 : IntKind.i64.wrap ((m : Int) + 1) = (m : Int) + 1 := IntWalk.i64_in _ (by omega)
  have y3 : (0 : Int) ≤ (n : Int) + 1 := by omega
  have y4 : (0 : Int) ≤ (m : Int) + 1 := by omega
  have y5 : (n : Int) + 1 ≤ (cm : Int) := by omega
  have y6 : (m : Int) + 1 ≤ (ce : Int) := by omega
  have y7 : ((n : Int) + 1).toNat = n + 1 := by omega
  have y8 : ((m : Int) + 1).toNat = m + 1 := by omega
  have y9 : (n : Int) < (n : Int) + 1 := by omega
  have y10 : (m : Int) < (m : Int) + 1 := by omega
  go_quiet (fail)
  clear y1 y2 y3 y4 y5 y6 y7 y8 y9 y10 o5 o7 t5 t7 a7 e7 zob ztb zab zeb
  have HS := Lib.hid (HS4.out.drewN nq)
  clear HS4
  go_upto_block 2 with (fail)
  go_cut [9] (fun z wx => z = .bool true ∧ St w wx (bx ob YC.toArray 33 :: sl 39 11 (some ⟨eb, eo, none⟩) (m + 1) ce cE :: grp (LL.map fun e => grp (Ent.own e)) :: sl 3 1 (some ⟨ab, ao, none⟩) (n + 1) cm cI :: bx tb XC.toArray 33 :: []))
  case first =>
    have o5 := blk_cell (HS.out.box 0 rfl) 5 _ HY.out.1
    have t5 := blk_cell (HS.out.box 4 rfl) 5 _ HY.out.2.2.1
    have zob := heap_lt (HS.out.box 0 rfl)
    have ztb := heap_lt (HS.out.box 4 rfl)
    go_wp2_with fail
    go_loopg [9, 10] n (fun g z y wr => ∃ i : Nat, i + g = n ∧ y = .int .i64 i ∧ z = .bool true ∧ St w wr (bx ob YC.toArray 33 :: sl 39 11 (some ⟨eb, eo, none⟩) (m + 1) ce cE :: grp (LL.map fun e => grp (Ent.own e)) :: sl 3 1 (some ⟨ab, ao, none⟩) (n + 1) cm cI :: bx tb XC.toArray 33 :: []))
    case atStart => exact ⟨0, by omega, rfl, rfl, HS.out⟩
    case round =>
      obtain ⟨i, hig, rfl, rfl, hS⟩ := hrel
      clear HS o5 t5 zob ztb
      have o5 := blk_cell (hS.box 0 rfl) 5 _ HY.out.1
      have t5 := blk_cell (hS.box 4 rfl) 5 _ HY.out.2.2.1
      have zob := heap_lt (hS.box 0 rfl)
      have ztb := heap_lt (hS.box 4 rfl)
      by_cases hlt : i < n
      · have hx : x.marks[i]? = some (x.marks[i]'(HNM.out.1 ▸ hlt)) := List.getElem?_eq_getElem _
        obtain ⟨v, hv⟩ : ∃ v, x.marks[i]'(HNM.out.1 ▸ hlt) = v := ⟨_, rfl⟩
        rw [hv] at hx
        have a1 := (hS.slice 3 rfl).cellAt (HIv.out i v hx)
        have hmv : cM[i]? = some (.int .i64 v) := by rw [← HNM.out.2.2, int_ic]; simp [ic, hx]
        obtain ⟨b, o, hae, hbl, m1⟩ := (hS.old HRM.out).val hmv
        rw [hae] at t5
        have zab := World.block_lt_of_cell? _ _ a1
        have hvv : (v == v) = true := by simp
        have HS := Lib.hid hS
        clear hx hv hmv hae hS
        go_wp2_with fail
        go_quiet (fail)
        clear o5 t5 zob ztb zab hbl a1 m1 hvv
        go_wp2_with fail
        go_roundg (n - (i + 1))
        case measure => omega
        case rel => exact ⟨i + 1, by omega, by simp, rfl, HS.out.drewN nq⟩
      · clear hig o5
        have HS := Lib.hid hS
        clear hS
        go_wp2_with fail
        go_meet
        exact ⟨rfl, HS.out⟩
  case rest =>
    obtain ⟨rfl, hS⟩ := hcut
    apply_assumption
    exact msgs_end _ _ _ _ _ _ _ _ _ _ _ _ _ _ _ _ _ _ _ _ _ _ _ _ _ _ _ _ _ _ _ _ _ _ _ _ _ _ _ _ _ _ _ _ _ _ _ _ _ _ _ _ _ _ _ _ _ _ _ _ _ _ _ _ _ _ _ _ _ _ _ _ _ _ _ _ _ _ _ _ _ _ _ _ _ _ _ _ _ _ _ _ _ _ _ _ _ _ _ _ _ _ _ _ _ _ _ _ _ _ _ _ _ _ _ _ _ _ _ _ _ _ _ _ _ _ _ _ _ _ _ _ _ Bt x w _ n m ob tb cM cm ce ab ao eb eo cE cI YC XC LL hnl hml HX HB HRE HEL HNM HLL HLm HEv HY C2 C3 HXC hBB hS
end Go.Proofs.YtmbkbkfcbloafaaGreat
