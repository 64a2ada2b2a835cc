/-
  WireInside, walked: what is laid inside of another thing is laid as by itself.
  Conditions: both are laid as at most 20000000 bytes.
-/
import Derived.Test.YtmbkbkfcbloafabWireUD
import Derived.Test.YtmbkbkfcbloafabWireLG
import Derived.Test.YtmbkbkfcbloafabJbase
import Derived.Deep.Cut
import Derived.Deep.CutBlock
import Derived.Deep.DeepCutAuto
namespace Go.Proofs.Ytmbkbkfcbloafab
open Go.RowKit
set_option linter.unusedSectionVars false
set_option linter.unusedSimpArgs false
set_option linter.unusedVariables false
set_option maxRecDepth 100000

/-- A message with other entries. -/
def Msg.with (m : Msg) (l : List Ent) (a : Option Addr) (c : Nat) : Msg := { m with ents := l, entsA := a, entsC := c }
theorem Msg.with_ok {w w' : World} {m : Msg} {l : List Ent} {a : Option Addr} {c : Nat} (hm : m.ok w) (h : Mod (fun _ => False) w w') (hr : Rd w' 11 a l.length c (l.flatMap Ent.cells)) (hl : ∀ e ∈ l, Ent.ok w e) : (m.with l a c).ok w' := by
  have h1 := Msg.okmod hm h
  exact ⟨h1.kind, h1.epoch, h1.zxid, h1.number, h1.session, h1.mrd, h1.mall, hr, fun e he => Ent.okmod (hl e he) h, h1.q, h1.ird⟩
theorem flat_take_all {α : Type} (f : α → List UInt8) (L : List α) (n : Nat) : ((L.take n).flatMap f).length ≤ (L.flatMap f).length := by
  have : L.flatMap f = (L.take n).flatMap f ++ (L.drop n).flatMap f := by rw [← List.flatMap_append, List.take_append_drop]
  rw [this, List.length_append]
  omega
theorem Msg.with_len (m : Msg) (e : Ent) (n : Nat) (hn : n ≤ 100) (a : Option Addr) (c : Nat) : (m.with (m.ents.take n ++ [e]) a c).bytes.length ≤ m.bytes.length + e.bytes.length + 10 := by
  show (numsB [m.kind, m.epoch, m.zxid, m.number, m.session] ++ listB numB m.marks ++ txtB m.data ++ listB Ent.bytes (m.ents.take n ++ [e]) ++ m.q.bytes ++ listB txtB m.ids).length ≤ _
  have h1 := flat_take_all Ent.bytes m.ents n
  have h2 := listB_ge Ent.bytes m.ents
  have h3 : (listB Ent.bytes (m.ents.take n ++ [e])).length = 1 + ((m.ents.take n).flatMap Ent.bytes).length + e.bytes.length := by
    unfold listB
    have hl : (m.ents.take n ++ [e]).length < 128 := by rw [List.length_append, List.length_take]; simp; omega
    rw [sevens_small hl, flat_snoc]
    simp only [List.length_append, List.length_singleton]
    omega
  unfold Msg.bytes
  simp only [List.length_append, h3]
  omega
/-- The last entry's bytes lie in the message's. -/
theorem Msg.with_split (m : Msg) (l : List Ent) (e : Ent) (a : Option Addr) (c : Nat) : ∃ xs ys, (m.with (l ++ [e]) a c).bytes = xs ++ e.bytes ++ ys := by
  refine ⟨numsB [m.kind, m.epoch, m.zxid, m.number, m.session] ++ listB numB m.marks ++ txtB m.data ++ sevens (l ++ [e]).length ++ l.flatMap Ent.bytes, m.q.bytes ++ listB txtB m.ids, ?_⟩
  show numsB [m.kind, m.epoch, m.zxid, m.number, m.session] ++ listB numB m.marks ++ txtB m.data ++ listB Ent.bytes (l ++ [e]) ++ m.q.bytes ++ listB txtB m.ids = _
  unfold listB
  rw [flat_snoc]
  simp only [List.append_assoc]
theorem St.drop1 {w0 w : World} {a b c d : Thing} (h : St w0 w [a, b, c, d]) : St w0 w [a, c, d] := (h.perm (.swap _ _ _)).tail
theorem mk_data (xs : List UInt8) : (ByteArray.mk xs.toArray).data.toList = xs := by simp
theorem bytes_ext {A B : ByteArray} (h : A.data.toList = B.data.toList) : A = B := by
  cases A; cases B
  simp only [ByteArray.mk.injEq]
  exact Array.toList_inj.1 h
theorem part_at {A B : ByteArray} {xs ys : List UInt8} (h : B.data.toList = xs ++ A.data.toList ++ ys) : B.extract xs.length (xs.length + A.size) = A := by
  apply bytes_ext
  have : A.size = A.data.toList.length := (toList_size A).symm
  rw [this]
  simp [ByteArray.data_extract, h]
theorem set7 {C : List Value} (h : C.length = 19) (v : Value) : (C.toArray.setIfInBounds 7 v)[7]? = some v := by
  simp [h]
theorem set7c {m : Msg} {C : List Value} (hC : m.cells = C) (n : Nat) (hn : m.ents.length = n) : C.toArray.setIfInBounds 7 (.slice m.entsA n m.entsC) = C.toArray := by
  subst hC; subst hn; rfl
theorem set7d {m : Msg} {C : List Value} (hC : m.cells = C) (v : Value) (l : List Ent) (n : Nat) (hl : l.length = n) (a : Option Addr) (c : Nat) : (C.toArray.setIfInBounds 7 v).setIfInBounds 7 (.slice a n c) = (m.with l a c).cells.toArray := by
  subst hC; subst hl; rfl

theorem yields_chunk {P : Program} {ops : Array Oper} {S : World → Prop} {o : Oper} {a : Act} {ty : TypeId} {x : Operand} (k : Nat) (d : TypeDesc) (hw : Region.wanted o (yielded ops a.tmps) = true) (ho : o.op = .load ty x)
    (hu : P.underlying ty = some d) (hd : (match d with | .struct _ | .array _ _ => true | _ => false) = true) (hi : (P.info? ty).map (·.size) = some k) (b : Nat) (hx : a.eval x = .pointer (some ⟨b, 0, none⟩)) (cs : List Value) (hl : cs.length = k) (T : TypeId)
    (hS : ∀ w, S w → w.heap[b]? = some (.cells cs.toArray T (0, 0))) : YieldsIf P ops S o (.agg cs.toArray) a :=
  Or.inl ⟨hw, fun w h => by
    have hr := run_loadAt_chunk (P := P) w ty k d hu hd hi ⟨b, 0, none⟩ cs hl (box_chunk (hS w h))
    unfold execOp
    simp only [ho, hx, Sem.run_bind, Sem.run_pure, hr, Result.andThen_ok]⟩

set_option maxHeartbeats 16000000 in
theorem wireInside_walk (e : Ent) (m : Msg) (w : World) (he : e.ok w) (hm : m.ok w) (hbe : e.bytes.length ≤ 20000000) (hbm : m.bytes.length ≤ 20000000) :
    Calls Try.prog 3 #[.agg e.cells.toArray, .agg m.cells.toArray] w (ValPost (.bool true) w) := by
  obtain ⟨k, hk⟩ : ∃ k, m.ents.length = k := ⟨_, rfl⟩
  have hkl : k ≤ 20000000 := by
    have h1 := flat_pos_len Ent.bytes ent_pos' m.ents
    have h2 := listB_ge Ent.bytes m.ents
    unfold Msg.bytes at hbm
    simp only [List.length_append] at hbm
    omega
  have HE := Lib.hid he
  have HM := Lib.hid hm
  have HBE := Lib.hid hbe
  have HBM := Lib.hid hbm
  have HKK := Lib.hid hk
  have hS := ((St.start w).box1 e.cells.toArray 28).box1 m.cells.toArray 37
  rw [World.size_alloc] at hS
  obtain ⟨MC, hMC⟩ : ∃ c, m.cells = c := ⟨_, rfl⟩
  have hML : MC.length = 19 := by rw [← hMC]; rfl
  rw [hMC] at hS ⊢
  simp only [Ent.cells, Txn.cells] at hS ⊢
  obtain ⟨ip, iz, hi1, hi2, hi3, hi4, hi5⟩ := info_row infoEnt
  have HI := Lib.hid (And.intro hi1 (And.intro hi2 (And.intro hi3 (And.intro hi4 hi5))))
  have HMC := Lib.hid hMC
  have HML := Lib.hid hML
  have H7 : Hid (MC.toArray[7]? = some (.slice m.entsA k m.entsC)) := Lib.hid (by rw [← hMC, ← hk]; rfl)
  clear he hm hbe hbm hk hMC hML hi1 hi2 hi3 hi4 hi5
  go_enter Try.func3, Try.ntmps3
  go_wp2_with fail
  refine (awake_any _).mono ?_
  rintro x w1 ⟨rfl, hM⟩
  have hS := hS.mod hM
  generalize w.heap.size = eb at *
  obtain ⟨mb, hmb⟩ : ∃ b, eb + 1 = b := ⟨_, rfl⟩
  rw [hmb] at hS ⊢
  clear hM hmb
  have HS := Lib.hid hS
  clear hS
  have c7 := blk_cell (HS.out.box 0 rfl) 7 _ H7.out
  have f7 := blk_free (HS.out.box 0 rfl) 7
  have z7 := heap_lt (HS.out.box 0 rfl)
  go_upto_if 17 with fail
  go_cut [] (fun wx => ∃ n, Hid (n = min k 100) ∧ St w wx [bx mb (MC.toArray.setIfInBounds 7 (.slice m.entsA n m.entsC)) 37, bx eb #[.int .i64 e.zxid, .int .i64 e.session, .int .i64 e.xid, .int .i64 e.t.kind, .string e.t.path, .string e.t.data, .slice e.t.aclA e.t.acl.length e.t.aclC, .int .i64 e.t.owner, .int .i64 e.t.number, .int .i64 e.t.err, .slice e.t.subsA e.t.subsN e.t.subsC] 28])
  case first =>
    by_cases hlt : 100 < k
    · have hpl : m.entsA = none ∨ ∃ b off, m.entsA = some ⟨b, off, none⟩ := by
        have hx : m.ents[0]? = some (m.ents[0]'(by rw [HKK.out]; omega)) := List.getElem?_eq_getElem _
        obtain ⟨b, o, h, _⟩ := HM.out.erd.elem (k := 11) Ent.cells (fun _ => rfl) (by omega) hx
        exact .inr ⟨b, o, h⟩
      have hcap := HM.out.erd.2.1
      rw [HKK.out] at hcap
      have hmx := HM.out.erd.2.2.1
      have HP := Lib.hid (And.intro hpl (And.intro hcap hmx))
      clear hpl hcap hmx
      go_wp2_with ((with_reducible refine at_list ?_); refine wpList_upto 28 11 (by kernel_rfl) (by kernel_rfl) (by kernel_rfl) m.entsA k m.entsC 100 rfl rfl HP.out.1 (by have := HP.out.2.1; omega) HP.out.2.2 ?_)
      go_meet
      exact ⟨100, Lib.hid (by omega), HS.out.set 0 rfl 7 _⟩
    · go_wp2
      go_meet
      exact ⟨k, Lib.hid (by omega), by rw [set7c HMC.out k HKK.out]; exact HS.out⟩
  case rest =>
    obtain ⟨n, HNK, hS⟩ := hcut
    clear HS c7 f7 z7
    have hn100 : n ≤ 100 := by have := HNK.out; omega
    have hnk : n ≤ k := by have := HNK.out; omega
    obtain ⟨L, hL⟩ : ∃ L, m.ents.take n = L := ⟨_, rfl⟩
    have hLn : L.length = n := by rw [← hL, List.length_take, HKK.out]; omega
    have HL := Lib.hid (And.intro hL hLn)
    have hrd : Rd w 11 m.entsA n m.entsC (L.flatMap Ent.cells) := by
      have := HM.out.erd.upto n (by rw [HKK.out]; exact hnk)
      rw [flatk_take Ent.cells (fun _ => rfl), hL] at this
      exact this
    have HRD := Lib.hid hrd
    have hom : ∀ u ∈ L.flatMap Ent.cells, u.oneCell' = true := fun u hu => by
      obtain ⟨x, _, hx⟩ := List.mem_flatMap.1 hu
      exact Ent.one x u hx
    have HOM := Lib.hid hom
    have HM7 : Hid ((MC.toArray.setIfInBounds 7 (.slice m.entsA n m.entsC))[7]? = some (.slice m.entsA n m.entsC)) := Lib.hid (set7 HML.out _)
    have HS := Lib.hid hS
    clear hS hL hLn hrd hom
    have c7 := blk_cell (HS.out.box 0 rfl) 7 _ HM7.out
    have z7 := heap_lt (HS.out.box 0 rfl)
    apply_assumption
    go_upto_region 6 with (at_builtin; refine wpList_append 28 ip iz 11 136 (by kernel_rfl) HI.out.1 HI.out.2.1 HI.out.2.2.1 HI.out.2.2.2.1 HI.out.2.2.2.2 none 0 0 [] rfl (Sl.nil _ _ _) m.entsA n m.entsC (L.flatMap Ent.cells) rfl (HS.out.old HRD.out) HOM.out (by unfold maxLen; omega) (by omega) ?_; intro al cl w2 hS2 hM2 hF2 hN2 hR2; have hS := (HS.out.nilSlice 28 11).regrow 0 rfl hS2 hM2 hF2; simp only [List.set_cons_zero, Nat.zero_add, List.nil_append] at hS; have HSn := Lib.hid hS; clear hS HS hS2 hM2 hF2 hN2 hR2 c7 z7; have HS := HSn; clear HSn)
    go_cut [] (fun wx => ∃ (a8 : Option Addr) (cap8 : Nat), St w wx [sl 28 11 a8 (n + 1) cap8 (L.flatMap Ent.cells ++ [.int .i64 e.zxid, .int .i64 e.session, .int .i64 e.xid, .int .i64 e.t.kind, .string e.t.path, .string e.t.data, .slice e.t.aclA e.t.acl.length e.t.aclC, .int .i64 e.t.owner, .int .i64 e.t.number, .int .i64 e.t.err, .slice e.t.subsA e.t.subsN e.t.subsC]), bx mb ((MC.toArray.setIfInBounds 7 (.slice m.entsA n m.entsC)).setIfInBounds 7 (.slice a8 (n + 1) cap8)) 37, bx eb #[.int .i64 e.zxid, .int .i64 e.session, .int .i64 e.xid, .int .i64 e.t.kind, .string e.t.path, .string e.t.data, .slice e.t.aclA e.t.acl.length e.t.aclC, .int .i64 e.t.owner, .int .i64 e.t.number, .int .i64 e.t.err, .slice e.t.subsA e.t.subsN e.t.subsC] 28])
    case first =>
      have hbe := HS.out.box 2 rfl
      refine wp_region_last_held (n := 6) (S := fun w' => w'.heap[eb]? = some (.cells #[.int .i64 e.zxid, .int .i64 e.session, .int .i64 e.xid, .int .i64 e.t.kind, .string e.t.path, .string e.t.data, .slice e.t.aclA e.t.acl.length e.t.aclC, .int .i64 e.t.owner, .int .i64 e.t.number, .int .i64 e.t.err, .slice e.t.subsA e.t.subsN e.t.subsC] 28 (0, 0))) (by kernel_rfl) rfl (by simp only [List.pop_toArray, List.dropLast_cons_cons, List.dropLast_singleton]; rfl) (by kernel_rfl) (by kernel_rfl) hbe (fun hHeld => ?_)
      have hS := HS.out.drew
      generalize w2.drew = V at hS hHeld ⊢
      clear HS hbe
      have HS := Lib.hid hS
      clear hS
      refine wpAnyH_take (i := 0) (oi := _) (v := ?_) rfl (by kernel_rfl) (by kernel_rfl) (by kernel_rfl) (fun _ _ _ h => h) (Or.inl ⟨by rfl, ?_⟩) hHeld ?_
      rotate_left
      · intro wq hSw; (try dsimp only at hSw); go_simp; try with_reducible rfl
      try simp only [Act.put, Nat.zero_add, List.setIfInBounds_toArray, List.set_cons_zero, List.set_cons_succ]
      refine wpAnyH_take (i := 2) (oi := _) (v := _) rfl (by kernel_rfl) (by kernel_rfl) (by kernel_rfl) (fun _ _ _ h => h) (yields_chunk 11 _ (by rfl) rfl Try.underlying28 rfl sizeEnt eb (by rfl) [.int .i64 e.zxid, .int .i64 e.session, .int .i64 e.xid, .int .i64 e.t.kind, .string e.t.path, .string e.t.data, .slice e.t.aclA e.t.acl.length e.t.aclC, .int .i64 e.t.owner, .int .i64 e.t.number, .int .i64 e.t.err, .slice e.t.subsA e.t.subsN e.t.subsC] rfl 28 (fun _ h => h)) hHeld ?_
      try simp only [Act.put, Nat.zero_add, List.setIfInBounds_toArray, List.set_cons_zero, List.set_cons_succ]
      refine wpAnyH_ready (rs := [1, 3]) (by kernel_rfl) (by simp) ?_
      refine AllReadyH.cons (o := ⟨some 27, _, _, _, _, _⟩) rfl (fun K hK => ?_) (AllReadyH.cons (o := ⟨some 29, _, _, _, _, _⟩) rfl (fun K hK => ?_) (AllReadyH.nil))
      focus
        refine step_append rfl rfl 28 ip _ 11 136 (by kernel_rfl) HI.out.1 HI.out.2.1 HI.out.2.2.1 HI.out.2.2.2.1 HI.out.2.2.2.2 none 0 0 [] (by rfl) (Sl.nil _ _ _) al n cl (L.flatMap Ent.cells) (by rfl) (HS.out.slice 0 rfl).rd HOM.out ?h63 ?hb ?_
        case h63 => unfold maxLen; omega
        case hb => omega
        intro a7 cap7 w7 hS7 hM7 hF7 hN7 hR7
        have hS := (HS.out.nilSlice 28 11).regrow 0 rfl hS7 hM7 hF7
        simp only [List.set_cons_zero, Nat.zero_add, List.nil_append] at hS
        refine hK.out _ _ (hS.box 3 rfl) (fun hHeld => ?_)
        clear hK K
        try simp only [Act.put, Nat.zero_add, List.setIfInBounds_toArray, List.set_cons_zero, List.set_cons_succ]
        clear HS hS7 hM7 hF7 hN7 hR7
        have HS := Lib.hid hS
        clear hS
        refine wpAnyH_ready (rs := [3]) (by kernel_rfl) (by simp) ?_
        refine AllReadyH.cons (o := ⟨some 29, _, _, _, _, _⟩) rfl (fun K hK => ?_) (AllReadyH.nil)
        have hS := HS.out.slice1 #[.int .i64 e.zxid, .int .i64 e.session, .int .i64 e.xid, .int .i64 e.t.kind, .string e.t.path, .string e.t.data, .slice e.t.aclA e.t.acl.length e.t.aclC, .int .i64 e.t.owner, .int .i64 e.t.number, .int .i64 e.t.err, .slice e.t.subsA e.t.subsN e.t.subsC] 28 11 1 rfl (by unfold maxLen; omega)
        go_simp
        refine hK.out _ _ (hS.box 4 rfl) (fun hHeld => ?_)
        clear hK K
        try simp only [Act.put, Nat.zero_add, List.setIfInBounds_toArray, List.set_cons_zero, List.set_cons_succ]
        obtain ⟨V5, hV5⟩ : ∃ V6, w7.alloc (.cells #[.int .i64 e.zxid, .int .i64 e.session, .int .i64 e.xid, .int .i64 e.t.kind, .string e.t.path, .string e.t.data, .slice e.t.aclA e.t.acl.length e.t.aclC, .int .i64 e.t.owner, .int .i64 e.t.number, .int .i64 e.t.err, .slice e.t.subsA e.t.subsN e.t.subsC] 28) = V6 := ⟨_, rfl⟩
        obtain ⟨sb, hsb⟩ : ∃ b, w7.heap.size = b := ⟨_, rfl⟩
        rw [hV5] at hHeld hS ⊢
        rw [hsb] at hS ⊢
        clear HS hV5 hsb
        have HS := Lib.hid hS
        clear hS
        refine wpAnyH_ready (rs := [4]) (by kernel_rfl) (by simp) ?_
        refine AllReadyH.cons (o := ⟨some 30, _, _, _, _, _⟩) rfl (fun K hK => ?_) (AllReadyH.nil)
        refine step_append rfl rfl 28 ip _ 11 136 (by kernel_rfl) HI.out.1 HI.out.2.1 HI.out.2.2.1 HI.out.2.2.2.1 HI.out.2.2.2.2 a7 n cap7 (L.flatMap Ent.cells) (by rfl) (HS.out.slice 1 rfl) (some ⟨sb, 0, none⟩) 1 1 [.int .i64 e.zxid, .int .i64 e.session, .int .i64 e.xid, .int .i64 e.t.kind, .string e.t.path, .string e.t.data, .slice e.t.aclA e.t.acl.length e.t.aclC, .int .i64 e.t.owner, .int .i64 e.t.number, .int .i64 e.t.err, .slice e.t.subsA e.t.subsN e.t.subsC] (by rfl) (HS.out.slice 0 rfl).rd (Ent.one e) ?h63 ?hb ?_
        case h63 => unfold maxLen; omega
        case hb => omega
        intro a8 cap8 w8 hS8 hM8 hF8 hN8 hR8
        have hS := HS.out.regrow 1 rfl hS8 hM8 hF8
        simp only [List.set_cons_succ, List.set_cons_zero] at hS
        refine hK.out _ _ (hS.box 4 rfl) (fun hHeld => ?_)
        clear hK K
        try simp only [Act.put, Nat.zero_add, List.setIfInBounds_toArray, List.set_cons_zero, List.set_cons_succ]
        clear HS hS8 hM8 hF8 hN8 hR8
        have HS := Lib.hid hS
        clear hS
        refine wpAnyH_take (i := 5) (oi := _) (v := ?_) rfl (by kernel_rfl) (by kernel_rfl) (by kernel_rfl) (fun _ _ _ h => h) (Or.inl ⟨by rfl, ?_⟩) hHeld ?_
        rotate_left
        · intro wq hSw; (try dsimp only at hSw); go_simp; try with_reducible rfl
        try simp only [Act.put, Nat.zero_add, List.setIfInBounds_toArray, List.set_cons_zero, List.set_cons_succ]
        refine wpAnyH_done (by kernel_rfl) ?_ _
        have o7 := blk_cell (HS.out.box 3 rfl) 7 _ HM7.out
        have f7 := blk_free (HS.out.box 3 rfl) 7
        have z7 := heap_lt (HS.out.box 3 rfl)
        refine LastQ.step rfl rfl ?_
        go_simp
        have hS := HS.out.set 3 rfl 7 (.slice a8 (n + 1) cap8)
        simp only [List.set_cons_succ, List.set_cons_zero] at hS
        have HSZ := Lib.hid hS
        clear HS o7 f7 z7 hHeld hS
        go_wp2
        go_meet
        exact ⟨a8, cap8, (HSZ.out.tail.perm (.cons _ (.refl _))).drop1⟩
      focus
        have hS := HS.out.slice1 #[.int .i64 e.zxid, .int .i64 e.session, .int .i64 e.xid, .int .i64 e.t.kind, .string e.t.path, .string e.t.data, .slice e.t.aclA e.t.acl.length e.t.aclC, .int .i64 e.t.owner, .int .i64 e.t.number, .int .i64 e.t.err, .slice e.t.subsA e.t.subsN e.t.subsC] 28 11 1 rfl (by unfold maxLen; omega)
        go_simp
        refine hK.out _ _ (hS.box 3 rfl) (fun hHeld => ?_)
        clear hK K
        try simp only [Act.put, Nat.zero_add, List.setIfInBounds_toArray, List.set_cons_zero, List.set_cons_succ]
        obtain ⟨V5, hV5⟩ : ∃ V6, V.alloc (.cells #[.int .i64 e.zxid, .int .i64 e.session, .int .i64 e.xid, .int .i64 e.t.kind, .string e.t.path, .string e.t.data, .slice e.t.aclA e.t.acl.length e.t.aclC, .int .i64 e.t.owner, .int .i64 e.t.number, .int .i64 e.t.err, .slice e.t.subsA e.t.subsN e.t.subsC] 28) = V6 := ⟨_, rfl⟩
        obtain ⟨sb, hsb⟩ : ∃ b, V.heap.size = b := ⟨_, rfl⟩
        rw [hV5] at hHeld hS ⊢
        rw [hsb] at hS ⊢
        clear HS hV5 hsb
        have HS := Lib.hid hS
        clear hS
        refine wpAnyH_ready (rs := [1]) (by kernel_rfl) (by simp) ?_
        refine AllReadyH.cons (o := ⟨some 27, _, _, _, _, _⟩) rfl (fun K hK => ?_) (AllReadyH.nil)
        refine step_append rfl rfl 28 ip _ 11 136 (by kernel_rfl) HI.out.1 HI.out.2.1 HI.out.2.2.1 HI.out.2.2.2.1 HI.out.2.2.2.2 none 0 0 [] (by rfl) (Sl.nil _ _ _) al n cl (L.flatMap Ent.cells) (by rfl) (HS.out.slice 1 rfl).rd HOM.out ?h63 ?hb ?_
        case h63 => unfold maxLen; omega
        case hb => omega
        intro a7 cap7 w7 hS7 hM7 hF7 hN7 hR7
        have hS := (HS.out.nilSlice 28 11).regrow 0 rfl hS7 hM7 hF7
        simp only [List.set_cons_zero, Nat.zero_add, List.nil_append] at hS
        refine hK.out _ _ (hS.box 4 rfl) (fun hHeld => ?_)
        clear hK K
        try simp only [Act.put, Nat.zero_add, List.setIfInBounds_toArray, List.set_cons_zero, List.set_cons_succ]
        clear HS hS7 hM7 hF7 hN7 hR7
        have HS := Lib.hid hS
        clear hS
        refine wpAnyH_ready (rs := [4]) (by kernel_rfl) (by simp) ?_
        refine AllReadyH.cons (o := ⟨some 30, _, _, _, _, _⟩) rfl (fun K hK => ?_) (AllReadyH.nil)
        refine step_append rfl rfl 28 ip _ 11 136 (by kernel_rfl) HI.out.1 HI.out.2.1 HI.out.2.2.1 HI.out.2.2.2.1 HI.out.2.2.2.2 a7 n cap7 (L.flatMap Ent.cells) (by rfl) (HS.out.slice 0 rfl) (some ⟨sb, 0, none⟩) 1 1 [.int .i64 e.zxid, .int .i64 e.session, .int .i64 e.xid, .int .i64 e.t.kind, .string e.t.path, .string e.t.data, .slice e.t.aclA e.t.acl.length e.t.aclC, .int .i64 e.t.owner, .int .i64 e.t.number, .int .i64 e.t.err, .slice e.t.subsA e.t.subsN e.t.subsC] (by rfl) (HS.out.slice 1 rfl).rd (Ent.one e) ?h63 ?hb ?_
        case h63 => unfold maxLen; omega
        case hb => omega
        intro a8 cap8 w8 hS8 hM8 hF8 hN8 hR8
        have hS := HS.out.regrow 0 rfl hS8 hM8 hF8
        simp only [List.set_cons_succ, List.set_cons_zero] at hS
        refine hK.out _ _ (hS.box 4 rfl) (fun hHeld => ?_)
        clear hK K
        try simp only [Act.put, Nat.zero_add, List.setIfInBounds_toArray, List.set_cons_zero, List.set_cons_succ]
        clear HS hS8 hM8 hF8 hN8 hR8
        have HS := Lib.hid hS
        clear hS
        refine wpAnyH_take (i := 5) (oi := _) (v := ?_) rfl (by kernel_rfl) (by kernel_rfl) (by kernel_rfl) (fun _ _ _ h => h) (Or.inl ⟨by rfl, ?_⟩) hHeld ?_
        rotate_left
        · intro wq hSw; (try dsimp only at hSw); go_simp; try with_reducible rfl
        try simp only [Act.put, Nat.zero_add, List.setIfInBounds_toArray, List.set_cons_zero, List.set_cons_succ]
        refine wpAnyH_done (by kernel_rfl) ?_ _
        have o7 := blk_cell (HS.out.box 3 rfl) 7 _ HM7.out
        have f7 := blk_free (HS.out.box 3 rfl) 7
        have z7 := heap_lt (HS.out.box 3 rfl)
        refine LastQ.step rfl rfl ?_
        go_simp
        have hS := HS.out.set 3 rfl 7 (.slice a8 (n + 1) cap8)
        simp only [List.set_cons_succ, List.set_cons_zero] at hS
        have HSZ := Lib.hid hS
        clear HS o7 f7 z7 hHeld hS
        go_wp2
        go_meet
        exact ⟨a8, cap8, HSZ.out.tail2.drop1⟩
    case rest =>
      obtain ⟨a8, cap8, hS⟩ := hcut
      clear HS
      have hll : (L ++ [e]).length = n + 1 := by rw [List.length_append, HL.out.2]; rfl
      rw [set7d HMC.out (.slice m.entsA n m.entsC) (L ++ [e]) (n + 1) hll a8 cap8] at hS
      have hfl : L.flatMap Ent.cells ++ [.int .i64 e.zxid, .int .i64 e.session, .int .i64 e.xid, .int .i64 e.t.kind, .string e.t.path, .string e.t.data, .slice e.t.aclA e.t.acl.length e.t.aclC, .int .i64 e.t.owner, .int .i64 e.t.number, .int .i64 e.t.err, .slice e.t.subsA e.t.subsN e.t.subsC] = (L ++ [e]).flatMap Ent.cells := by rw [flat_snoc]; rfl
      rw [hfl] at hS
      obtain ⟨M3, hM3⟩ : ∃ x, m.with (L ++ [e]) a8 cap8 = x := ⟨_, rfl⟩
      have hok3 : M3.ok wc := by
        rw [← hM3]
        refine Msg.with_ok HM.out hS.1 (by rw [hll]; exact (hS.slice 0 rfl).rd) fun x hx => ?_
        rcases List.mem_append.1 hx with h | h
        · rw [← HL.out.1] at h
          exact HM.out.eall x (List.mem_of_mem_take h)
        · rw [List.mem_singleton.1 h]; exact HE.out
      have hlen3 : M3.bytes.length ≤ m.bytes.length + e.bytes.length + 10 := by
        rw [← hM3, ← HL.out.1]; exact Msg.with_len m e n hn100 a8 cap8
      have hents3 : M3.ents = L ++ [e] := by rw [← hM3]; rfl
      obtain ⟨pre, post, hsp⟩ : ∃ xs ys, M3.bytes = xs ++ e.bytes ++ ys := by rw [← hM3]; exact Msg.with_split m L e a8 cap8
      rw [hM3] at hS
      obtain ⟨MB, hMB⟩ : ∃ c, M3.cells = c := ⟨_, rfl⟩
      have hML2 : MB.length = 19 := by rw [← hMB]; rfl
      rw [hMB] at hS
      obtain ⟨Bs, hBs⟩ : ∃ B, ByteArray.mk e.bytes.toArray = B := ⟨_, rfl⟩
      obtain ⟨Bt, hBt⟩ : ∃ B, ByteArray.mk M3.bytes.toArray = B := ⟨_, rfl⟩
      have hzs : Bs.data.toList = e.bytes := by rw [← hBs]
      have hzt : Bt.data.toList = M3.bytes := by rw [← hBt]
      have hls : Bs.size = e.bytes.length := by rw [← hzs, toList_size]
      have hlt : Bt.size = M3.bytes.length := by rw [← hzt, toList_size]
      have hes := HBE.out
      have hem := HBM.out
      have CE : Hid (∀ w', Mod (fun _ => False) wc w' → Calls Try.prog 7 #[.agg #[.int .i64 e.zxid, .int .i64 e.session, .int .i64 e.xid, .int .i64 e.t.kind, .string e.t.path, .string e.t.data, .slice e.t.aclA e.t.acl.length e.t.aclC, .int .i64 e.t.owner, .int .i64 e.t.number, .int .i64 e.t.err, .slice e.t.subsA e.t.subsN e.t.subsC]] w' (fun x w'' => x = .returned (.string Bs) ∧ Mod (fun _ => False) w' w'')) := Lib.hid fun w' h => by
        have := PutEntry_any e w' (Ent.okmod HE.out (hS.1.then h (fun _ _ h => h))) (by unfold bfits; omega)
        unfold TextPost at this
        rw [hBs] at this; exact this
      have CM : Hid (∀ w', Mod (fun _ => False) wc w' → Calls Try.prog 8 #[.agg MB.toArray] w' (fun x w'' => x = .returned (.string Bt) ∧ Mod (fun _ => False) w' w'')) := Lib.hid fun w' h => by
        have := PutMessage_any M3 w' (Msg.okmod hok3 h) (by unfold bfits; omega)
        unfold TextPost at this
        rw [hBt, hMB] at this; exact this
      obtain ⟨ls, hs⟩ : ∃ z, Bs.size = z := ⟨_, rfl⟩
      obtain ⟨lt, ht⟩ : ∃ z, Bt.size = z := ⟨_, rfl⟩
      obtain ⟨pp, hpp⟩ : ∃ p, pre.length = p := ⟨_, rfl⟩
      have hfit : pp + ls ≤ lt := by
        have := congrArg List.length hsp
        simp only [List.length_append] at this
        omega
      have hat : Bt.extract pp (pp + ls) = Bs := by
        rw [← hpp, ← hs]
        exact part_at (ys := post) (by rw [hzt, hzs]; exact hsp)
      have hltb : lt ≤ 40000010 := by omega
      have HSZ : Hid (Bs.data.toList = e.bytes ∧ Bt.data.toList = M3.bytes ∧ Bs.size = ls ∧ Bt.size = lt ∧ Bt.extract pp (pp + ls) = Bs) := Lib.hid ⟨hzs, hzt, hs, ht, hat⟩
      have H3 : Hid (M3.ents = L ++ [e]) := Lib.hid hents3
      have HML2 := Lib.hid hML2
      have HS := Lib.hid hS
      have HMM := Lib.hid (Mod.refl (fun _ => False) wc)
      clear hll hfl hM3 hok3 hlen3 hents3 hsp hMB hML2 hBs hBt hzs hzt hls hlt hes hem hpp hat hS
      apply_assumption
      have TE := Lib.hid trivial
      have TM := Lib.hid trivial
      go_upto_region 9 with (first
        | ((with_reducible refine at_list ?_); clear TE; refine wpList_load_chunk 11 _ Try.underlying28 rfl sizeEnt ⟨eb, 0, none⟩ rfl [.int .i64 e.zxid, .int .i64 e.session, .int .i64 e.xid, .int .i64 e.t.kind, .string e.t.path, .string e.t.data, .slice e.t.aclA e.t.acl.length e.t.aclC, .int .i64 e.t.owner, .int .i64 e.t.number, .int .i64 e.t.err, .slice e.t.subsA e.t.subsN e.t.subsC] rfl (box_chunk (HS.out.box 2 rfl)) ?_)
        | ((with_reducible refine at_list ?_); clear TM; refine wpList_load_chunk 19 _ Try.underlying37 rfl sizeMsg ⟨mb, 0, none⟩ rfl MB HML2.out (box_chunk (HS.out.box 1 rfl)) ?_)
        | (go_at_call 7; refine (CE.out _ HMM.out).mono ?_; rintro x wz ⟨rfl, hM⟩; have hSn := HS.out.mod hM; have hMn := HMM.out.then hM (fun _ _ h => h); clear HS HMM hM CE; have HS := Lib.hid hSn; have HMM := Lib.hid hMn; clear hSn hMn)
        | (go_at_call 8; refine (CM.out _ HMM.out).mono ?_; rintro x wz ⟨rfl, hM⟩; have hSn := HS.out.mod hM; have hMn := HMM.out.then hM (fun _ _ h => h); clear HS HMM hM CM; have HS := Lib.hid hSn; have HMM := Lib.hid hMn; clear hSn hMn))
      have hSw := HS.out.1
      have HW := Lib.hid hSw
      clear HS HMM hSw
      have hls := HSZ.out.2.2.1
      have hlt := HSZ.out.2.2.2.1
      go_upto_block 0 with fail
      go_cut [9] (fun c wx => c = .bool true ∧ wx = wz)
      case first =>
        have HAT := Lib.hid HSZ.out.2.2.2.2
        have hB1 : Bs.size ≤ 9223372036854775807 := by omega
        go_wp2
        go_loopg [9, 10] (lt + 2) (fun g c y wr => ∃ (b : Bool) (i : Nat), c = .bool b ∧ y = .int .i64 i ∧ i + g = lt + 2 ∧ i ≤ pp + 1 ∧ (b = false → i ≤ pp) ∧ wr = wz)
        case atStart => exact ⟨false, 0, rfl, rfl, by omega, by omega, fun _ => Nat.zero_le _, rfl⟩
        case round =>
          obtain ⟨b, i, rfl, rfl, hig, hip, hb, rfl⟩ := hrel
          cases b with
          | true =>
            clear hb
            by_cases hc : i + ls ≤ lt
            · have hci : (i : Int) + (ls : Int) ≤ (lt : Int) := by omega
              go_wp2
              go_meet
              exact ⟨rfl, rfl⟩
            · have hci : ¬ (i : Int) + (ls : Int) ≤ (lt : Int) := by omega
              go_wp2
              go_meet
              exact ⟨rfl, rfl⟩
          | false =>
            have hi := hb rfl
            have hci : (i : Int) + (ls : Int) ≤ (lt : Int) := by omega
            obtain ⟨X, hX⟩ : ∃ X, Bt.extract i (i + ls) = X := ⟨_, rfl⟩
            obtain ⟨q, hq⟩ : ∃ q, (X.toList == Bs.toList) = q := ⟨_, rfl⟩
            have HQ : Hid (i = pp → q = true) := Lib.hid (fun h => by
              rw [← hq, ← hX, h, HAT.out]; simp)
            have ht : ((i : Int) + (ls : Int)).toNat = i + ls := by omega
            clear hb
            go_wp2
            cases q
            all_goals
              go_roundg (gk - 1)
              case measure => omega
              case rel => exact ⟨_, i + 1, rfl, rfl, by omega, by omega, fun h => by first | (cases h; done) | (exact Nat.succ_le_of_lt (Nat.lt_of_le_of_ne hi (fun hh => by have := HQ.out hh; cases this))), rfl⟩
      case rest =>
        obtain ⟨rfl, rfl⟩ := hcut
        apply_assumption
        have hft : bfits Bt.size := by unfold bfits; omega
        go_wp2_with fail
        refine (GetMessage_st Bt hft (St.begin HW.out)).mono ?_
        rintro x w5 ⟨Y, g, rfl, HY, hS⟩
        have HS := Lib.hid (hS.box1 #[.int .i64 0, .int .i64 0, .int .i64 0, .int .i64 0, .int .i64 0, .slice none 0 0, .string ⟨#[]⟩, .slice none 0 0, .int .i64 0, .int .i64 0, .string ⟨#[]⟩, .string ⟨#[]⟩, .slice none 0 0, .int .i64 0, .int .i64 0, .bool false, .slice none 0 0, .slice none 0 0, .slice none 0 0] 37)
        clear hS hft
        have hY : (g = 0 ∧ Y.bytes = M3.bytes) ∨ g = 120 := by
          rcases HY.out.2 with ⟨h1, h2, h3⟩ | ⟨h1, _⟩
          · exact .inl ⟨h1, h3.trans HSZ.out.2.1⟩
          · exact .inr h1
        have hYf := HY.out.1
        obtain ⟨YC, hYC⟩ : ∃ c, Y.cells = c := ⟨_, rfl⟩
        have hYL : YC.length = 19 := by rw [← hYC]; rfl
        have hY1 : YC.all (·.oneCell') = true := by rw [← hYC]; rfl
        have HYC := Lib.hid hYC
        have HYL := Lib.hid hYL
        have HY1 := Lib.hid hY1
        have HYF := Lib.hid hYf
        rw [hYC]
        clear hYC hYL hY1 hYf HY
        go_upto_region 15 with ((with_reducible refine at_list ?_); refine wpList_store_whole 19 sizeMsg w5.heap.size rfl _ _ (HS.out.box 0 rfl) rfl YC rfl HYL.out HY1.out ?_; intro w6 hg2 hM2 hz2; have hS := HS.out.rebox 0 rfl hg2 hM2; simp only [List.set_cons_zero] at hS; clear HS hg2 hM2 hz2; generalize w5.heap.size = yb at *)
        rcases hY with ⟨rfl, hyb⟩ | rfl
        · have hents : Y.ents.map Ent.bytes = (L ++ [e]).map Ent.bytes := by rw [← H3.out]; exact msg_ents hyb
          have hyl : Y.ents.length = n + 1 := by
            have := congrArg List.length hents
            rw [List.length_map, List.length_map, List.length_append, HL.out.2] at this
            exact this
          have hyok : Y.ok w6 := Msg.okL HYF.out (hS.lies (by simp))
          obtain ⟨y, hy⟩ : ∃ y, Y.ents[n]? = some y := ⟨_, List.getElem?_eq_getElem (by rw [hyl]; omega)⟩
          have hyy : y.bytes = e.bytes := by
            have h1 := congrArg (fun l => l[n]?) hents
            simp only [List.getElem?_map, hy] at h1
            rw [List.getElem?_append_right (by rw [HL.out.2]; exact Nat.le_refl _), HL.out.2, Nat.sub_self] at h1
            simpa using h1
          have Cy : Hid (∀ w', Mod (fun _ => False) w6 w' → Calls Try.prog 7 #[.agg y.cells.toArray] w' (fun x w'' => x = .returned (.string Bs) ∧ Mod (fun _ => False) w' w'')) := Lib.hid fun w' h => by
            have hb : y.bytes = Bs.data.toList := hyy.trans HSZ.out.1.symm
            have := PutEntry_any y w' (Ent.okmod (hyok.eall y (List.mem_of_getElem? hy)) h) (by rw [hb, toList_size]; unfold bfits; omega)
            unfold TextPost at this
            rw [hb, mk_toList] at this
            exact this
          have hrd := hyok.erd
          obtain ⟨b, o, hae, hbl, hc⟩ := hrd.elem (k := 11) Ent.cells (fun _ => rfl) (by omega) hy
          have h7 : YC.toArray[7]? = some (.slice (some ⟨b, o, none⟩) (n + 1) Y.entsC) := by
            rw [← HYC.out, ← hae, ← hyl]; rfl
          have HCy : Hid (∀ j u, (y.cells[j]? = some u) → w6.cell? ((⟨b, o + n * 11, none⟩ : Addr).add j) = some u) := Lib.hid (fun j u hj => by
            rw [add_none]; exact hc j u hj)
          have c7 := blk_cell (hS.box 0 rfl) 7 _ h7
          have z7 := heap_lt (hS.box 0 rfl)
          have HS := Lib.hid hS
          have hSS : (Bs.toList == Bs.toList) = true := by simp
          have Ty := Lib.hid trivial
          clear hS hyb hents hyl hyok hyy hy hrd hae hc h7
          go_wp2_with (first
            | ((with_reducible refine at_list ?_); clear Ty; refine wpList_load_chunkG 11 _ Try.underlying28 rfl sizeEnt ⟨b, o + n * 11, none⟩ rfl y.cells rfl HCy.out (by rfl) ?_)
            | (go_at_call 7; refine (Cy.out _ (Mod.refl _ _)).mono ?_; rintro x wz ⟨rfl, hM⟩; have HS2 := Lib.hid (HS.out.mod hM); clear HS hM Cy c7 z7))
          go_ret
          exact ⟨rfl, HS2.out.1⟩
        · have HS := Lib.hid hS
          clear hS
          go_wp2
          go_ret
          exact ⟨rfl, HS.out.1⟩
end Go.Proofs.Ytmbkbkfcbloafab
