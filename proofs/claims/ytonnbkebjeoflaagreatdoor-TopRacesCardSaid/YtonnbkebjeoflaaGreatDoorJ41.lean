/-
  Laws of PlainE.
  Conditions: each law states its own.
-/
import Derived.Test.YtonnbkebjeoflaaGreatDoorJ23
import Derived.Test.YtonnbkebjeoflaaGreatDoorJ37
import Derived.Test.YtonnbkebjeoflaaGreatDoorJ40
set_option maxHeartbeats 16000000
set_option linter.unusedSectionVars false
set_option linter.unusedSimpArgs false
set_option linter.unusedVariables false
set_option maxRecDepth 100000
namespace Go.Proofs.YtonnbkebjeoflaaGreatDoor
open Go.RowKit Go.Maps
theorem St.slRd {α β : Type} [DecidableEq α] {w0 w : World} {l : List Thing} {E K : Nat} {f : β → List Value} {R : List (α × SlR β)} (h : St w0 w l) (i : Nat) (hi : l[i]? = some (grp (R.map fun p => p.2.own E K f))) {x : α} {r : SlR β} (hr : (getK R x).getD ⟨[], none, 0⟩ = r) : Rd w K r.a r.xs.length r.cap (r.xs.flatMap f) := by
 cases hg : getK R x with
 | none => rw [hg] at hr; subst hr; exact Rd.nil w K
 | some u =>
   rw [hg] at hr
   subst hr
   exact (h.inGrp i hi (List.mem_map_of_mem (f := fun p : α × SlR β => p.2.own E K f) (getK_some_mem hg))).rd
theorem zeroStrs (w : World) : (zeroValue 22).run Tryz.prog w = .ok (.slice none 0 0) w := by kernel_rfl
theorem sizeReq : (Tryz.prog.info? 40).map (·.size) = some 10 := by kernel_rfl
theorem laidK_int (r : Rq1) (e : Int) : okInt (Svc.laidK r e) := by
 unfold Svc.laidK okInt
 split
 ·omega
 ·split
  ·omega
  ·split
   ·omega
   ·split
    ·omega
    ·split <;> omega
theorem Svc.good.trees {p : Svc} {N M : Nat} (h : p.good N M) : ∀ n ∈ p.tree.nodes, okInt n.2.st.cversion := fun n hn => (h.tree.node n hn).st.cversion
def RdsPost (pb : Nat) (R : Svc × Tree.Rp1) (w0 : World) (l : List Thing) (e : Ending) (w' : World) : Prop :=
 ∃ (oaa : Option Addr) (oac : Nat) (oka : Option Addr) (okc : Nat), e = .returned (.agg (RpC R.2 oaa oac oka okc none 0 0).toArray) ∧
   St w0 w' (svc pb R.1 :: sl 46 2 oaa R.2.acl.length oac (R.2.acl.flatMap ARow.cells) :: sl 9 1 oka R.2.kids.length okc (R.2.kids.map Value.string) :: l)
theorem readS_def (p : Svc) (s : Int) (X : Rq) (h13 : X.r.kind ≠ 13) (h14 : X.r.kind ≠ 14) (h15 : X.r.kind ≠ 15) :
 p.readS s X = if Svc.laidK X.r (p.tree.read (p.idsOf s) X.r).err = 0 then (p, p.tree.read (p.idsOf s) X.r) else
  ({ p with watches := (Watch.add p.watches s (Svc.laidK X.r (p.tree.read (p.idsOf s) X.r).err) X.r.path).1 }, if (Watch.add p.watches s (Svc.laidK X.r (p.tree.read (p.idsOf s) X.r).err) X.r.path).2 = 0 then p.tree.read (p.idsOf s) X.r else { Tree.rp0 with err := (Watch.add p.watches s (Svc.laidK X.r (p.tree.read (p.idsOf s) X.r).err) X.r.path).2 }) := by
 unfold Svc.readS
 rw [if_neg h13, if_neg h14, if_neg h15]
theorem readD_st {w0 w : World} {l : List Thing} (pb : Nat) (p : Svc) {N M : Nat} (h : St w0 w (svc pb p :: l)) (env : Env w0) (hg : p.good N M) (hN : N ≤ 1000000) (s : Int) (hs : okInt s) (t : RqR) (X : Rq) (hX : X.r = t.r) (hf : t.fit) (h13 : t.r.kind ≠ 13) (h14 : t.r.kind ≠ 14) (h15 : t.r.kind ≠ 15)
 (hin : ∀ w', St w0 w' l → Rd w' 2 t.aa t.r.acl.length t.ac (t.r.acl.flatMap ARow.cells)) :
 Calls Tryz.prog 32 #[.pointer (some ⟨pb, 0, none⟩), .int .i64 s, .agg t.cells.toArray] w (RdsPost pb (p.readS s X) w0 l) := by
 rw [readS_def p s X (by rw [hX]; exact h13) (by rw [hX]; exact h14) (by rw [hX]; exact h15), hX]
 obtain ⟨⟨kind, xid, path, data, acl, flags, version, watch⟩, aa, ac, sa, sn, sc, ra, rn, rc⟩ := t
 simp only at hX h13 h14 h15 hin ⊢
 simp only [RqR.cells]
 obtain ⟨d, hd, hS⟩ := h.openS
 obtain ⟨Ri, hRi, hRn, h1⟩ := (hS.pick 4 rfl).openMsl
 simp only [SD.things, List.cons_append, List.nil_append, List.eraseIdx_cons_zero, List.eraseIdx_cons_succ] at h1
 have h1' : St w0 w (mpl kbI d.ib (Ri.map fun p => (p.1, p.2.val)) :: grp (Ri.map fun p => p.2.own 9 1 A.strC) :: bx pb #[.pointer (some ⟨d.tb, 0, none⟩), .pointer (some ⟨d.wb, 0, none⟩), .slice d.oa d.L.length d.oc, .int .i64 p.opened, .map (some d.ib), .map (some d.eb)] 87 :: tre d.tb p.tree :: wtb d.wb p.watches :: sl 63 11 d.oa d.L.length d.oc (d.L.flatMap EnR.cells) :: msl kbI 113 3 Evt.cells d.eb p.events :: grp (d.L.map EnR.own) :: l) := h1
 obtain ⟨ri, hri⟩ : ∃ r, (getK Ri s).getD ⟨[], none, 0⟩ = r := ⟨_, rfl⟩
 have hids : p.idsOf s = ri.xs := by
  unfold Svc.idsOf
  rw [slr_get hRi s, ← hri]
  cases getK Ri s <;> rfl
 rw [hids]
 obtain ⟨r0, hr0⟩ : ∃ r0 : Rq1, (⟨kind, xid, path, data, acl, flags, version, watch⟩ : Rq1) = r0 := ⟨_, rfl⟩
 rw [hr0]
 obtain ⟨rin, hrin⟩ : ∃ n, ri.xs.length = n := ⟨_, rfl⟩
 have HLK : Hid ((getK (Ri.map fun p => (p.1, p.2.val)) s).getD (.slice none 0 0) = .slice ri.a rin ri.cap) := Lib.hid (by rw [slr_look hri, ← hrin]; rfl)
 obtain ⟨q0, hq0⟩ : ∃ q, p.tree.read ri.xs r0 = q := ⟨_, rfl⟩
 have CR : Hid (∀ w', St w0 w' (mpl kbI d.ib (Ri.map fun p => (p.1, p.2.val)) :: grp (Ri.map fun p => p.2.own 9 1 A.strC) :: bx pb #[.pointer (some ⟨d.tb, 0, none⟩), .pointer (some ⟨d.wb, 0, none⟩), .slice d.oa d.L.length d.oc, .int .i64 p.opened, .map (some d.ib), .map (some d.eb)] 87 :: tre d.tb p.tree :: wtb d.wb p.watches :: sl 63 11 d.oa d.L.length d.oc (d.L.flatMap EnR.cells) :: msl kbI 113 3 Evt.cells d.eb p.events :: grp (d.L.map EnR.own) :: l) → Calls Tryz.prog 65 #[.pointer (some ⟨d.tb, 0, none⟩), .slice ri.a rin ri.cap, .agg #[.int .i64 kind, .int .i64 xid, .string path, .string data, .slice aa acl.length ac, .int .i64 flags, .int .i64 version, .bool watch, .slice sa sn sc, .slice ra rn rc]] w' (RdPost q0 w')) := Lib.hid (fun w' h' => by
  have hm : Mod (fun _ => False) w0 w' := h'.1
  have := read_any ⟨d.tb, p.tree, 0, ri.xs, ri.a, ri.cap, r0, aa, ac, sa, sn, sc, ra, rn, rc⟩ w' ⟨h'.treeAt 3 rfl, h'.slRd 1 rfl hri, by rw [← hr0]; exact hin w' h'.tail.tail.tail.tail.tail.tail.tail.tail, env.old hm⟩ ⟨hg.tree.fit, by rw [← hr0]; exact hf.path, by rw [← hr0]; exact hf.acl, by rw [← hr0]; exact hf.rows, by rw [← hr0]; exact hf.flags, hg.trees⟩ rfl
  rw [← hr0] at this
  simp only [WishR.rcells] at this
  rw [hr0, hq0, hrin] at this
  exact this)
 rw [hq0]
 obtain ⟨oxid, ozx, oer, opa, oda, ⟨o1, o2, o3, o4, o5, o6, o7⟩, oln, okn, oacl, okids⟩ := q0
 have CL := Lib.hid (fun w' => laid_any ⟨r0, aa, ac, sa, sn, sc, ra, rn, rc⟩ oer w')
 have hlk := laidK_int r0 oer
 obtain ⟨lk, hlkk⟩ : ∃ lk, Svc.laidK r0 oer = lk := ⟨_, rfl⟩
 have CL2 : Hid (∀ w', Calls Tryz.prog 66 #[.agg #[.int .i64 kind, .int .i64 xid, .string path, .string data, .slice aa acl.length ac, .int .i64 flags, .int .i64 version, .bool watch, .slice sa sn sc, .slice ra rn rc], .int .i64 oer] w' (CpPost (.int .i64 lk) w')) := Lib.hid (fun w' => by
  have := CL.out w'
  rw [hlkk, ← hr0] at this
  exact this)
 simp only [hlkk] at hlk ⊢
 obtain ⟨A0, hA0⟩ : ∃ A, Watch.add p.watches s lk path = A := ⟨_, rfl⟩
 rw [hA0]
 have CA : Hid (∀ w' (G : List Thing), St w0 w' (wtb d.wb p.watches :: G) → Calls Tryz.prog 67 #[.pointer (some ⟨d.wb, 0, none⟩), .int .i64 s, .int .i64 lk, .string path] w' (StPost (.int .i64 A0.2) w0 (wtb d.wb A0.1 :: G))) := Lib.hid (fun w' G h' => by
  have := add_st d.wb p.watches h' s lk hs hlk path (by have := hf.path; simp only at this; omega) env.rdy (by have := hg.wlen; omega)
  rw [hA0] at this
  exact this)
 obtain ⟨RES, hRES⟩ : ∃ R : Svc × Tree.Rp1, (if lk = 0 then (p, (⟨oxid, ozx, oer, opa, oda, ⟨o1, o2, o3, o4, o5, o6, o7⟩, oln, okn, oacl, okids⟩ : Tree.Rp1)) else ({ p with watches := A0.1 }, if A0.2 = 0 then (⟨oxid, ozx, oer, opa, oda, ⟨o1, o2, o3, o4, o5, o6, o7⟩, oln, okn, oacl, okids⟩ : Tree.Rp1) else { Tree.rp0 with err := A0.2 })) = R := ⟨_, rfl⟩
 rw [hRES]
 have HRES := Lib.hid hRES
 clear hRES
 have e13 : (kind == 13) = false := by simpa using h13
 have e14 : (kind == 14) = false := by simpa using h14
 have e15 : (kind == 15) = false := by simpa using h15
 have hS2 := ((h1'.box1 #[.int .i64 kind, .int .i64 xid, .string path, .string data, .slice aa acl.length ac, .int .i64 flags, .int .i64 version, .bool watch, .slice sa sn sc, .slice ra rn rc] 40).box1 #[.int .i64 0, .int .i64 0, .int .i64 0, .string ⟨#[]⟩, .string ⟨#[]⟩, .int .i64 0, .int .i64 0, .int .i64 0, .int .i64 0, .int .i64 0, .int .i64 0, .int .i64 0, .int .i64 0, .int .i64 0, .slice none 0 0, .slice none 0 0, .slice none 0 0] 33).box1 #[.int .i64 0, .int .i64 0, .int .i64 0, .string ⟨#[]⟩, .string ⟨#[]⟩, .int .i64 0, .int .i64 0, .int .i64 0, .int .i64 0, .int .i64 0, .int .i64 0, .int .i64 0, .int .i64 0, .int .i64 0, .slice none 0 0, .slice none 0 0, .slice none 0 0] 33
 simp only [World.size_alloc] at hS2
 have HS2 := Lib.hid hS2
 have HSO : Hid (okInt s) := Lib.hid hs
 have HD := Lib.hid (And.intro hd hRi)
 have EQ13 := Lib.hid (And.intro e13 (And.intro e14 e15))
 clear hS h1 h1' hS2 h hd hRi hRn hri hids hr0 hrin hq0 CL hlk hlkk hA0 hg hf hin h13 h14 h15 hX hs
 go_enter Tryz.func32, Tryz.ntmps32
 go_upto_block 0 with (fail)
 generalize World.alloc (World.alloc (World.alloc w _) _) _ = W1 at HS2 ⊢
 generalize w.heap.size = xb at HS2 ⊢
 go_cut [] (fun wx => ∃ (qxid qzx qer : Int) (qpa qda : ByteArray) (q1 q2 q3 q4 q5 q6 q7 qln qkn : Int) (qacl : List ARow) (qkids : List ByteArray) (qaa : Option Addr) (qac : Nat) (qka : Option Addr) (qkc : Nat) (W' : List Wt), Hid ((({ p with watches := W' } : Svc), (⟨qxid, qzx, qer, qpa, qda, ⟨q1, q2, q3, q4, q5, q6, q7⟩, qln, qkn, qacl, qkids⟩ : Tree.Rp1)) = RES) ∧ St w0 wx (sl 46 2 qaa qacl.length qac (qacl.flatMap ARow.cells) :: sl 9 1 qka qkids.length qkc (qkids.map Value.string) :: bx (xb + 1 + 1) #[.int .i64 qxid, .int .i64 qzx, .int .i64 qer, .string qpa, .string qda, .int .i64 q1, .int .i64 q2, .int .i64 q3, .int .i64 q4, .int .i64 q5, .int .i64 q6, .int .i64 q7, .int .i64 qln, .int .i64 qkn, .slice qaa qacl.length qac, .slice qka qkids.length qkc, .slice none 0 0] 33 :: bx (xb + 1) #[.int .i64 0, .int .i64 0, .int .i64 0, .string ⟨#[]⟩, .string ⟨#[]⟩, .int .i64 0, .int .i64 0, .int .i64 0, .int .i64 0, .int .i64 0, .int .i64 0, .int .i64 0, .int .i64 0, .int .i64 0, .slice none 0 0, .slice none 0 0, .slice none 0 0] 33 :: bx xb #[.int .i64 kind, .int .i64 xid, .string path, .string data, .slice aa acl.length ac, .int .i64 flags, .int .i64 version, .bool watch, .slice sa sn sc, .slice ra rn rc] 40 :: mpl kbI d.ib (Ri.map fun p => (p.1, p.2.val)) :: grp (Ri.map fun p => p.2.own 9 1 A.strC) :: bx pb #[.pointer (some ⟨d.tb, 0, none⟩), .pointer (some ⟨d.wb, 0, none⟩), .slice d.oa d.L.length d.oc, .int .i64 p.opened, .map (some d.ib), .map (some d.eb)] 87 :: tre d.tb p.tree :: wtb d.wb W' :: sl 63 11 d.oa d.L.length d.oc (d.L.flatMap EnR.cells) :: msl kbI 113 3 Evt.cells d.eb p.events :: grp (d.L.map EnR.own) :: l))
 case first =>
  go_upto_region 3 with (fail)
  clear e13 e14 e15
  have HA := Lib.hid HS2.out.drew
  have KP : Hid (∀ (w' : World) (T1 T2 : Thing) (G : List Thing), St w0 w' (T1 :: T2 :: bx xb #[.int .i64 kind, .int .i64 xid, .string path, .string data, .slice aa acl.length ac, .int .i64 flags, .int .i64 version, .bool watch, .slice sa sn sc, .slice ra rn rc] 40 :: mpl kbI d.ib (Ri.map fun p => (p.1, p.2.val)) :: grp (Ri.map fun p => p.2.own 9 1 A.strC) :: bx pb #[.pointer (some ⟨d.tb, 0, none⟩), .pointer (some ⟨d.wb, 0, none⟩), .slice d.oa d.L.length d.oc, .int .i64 p.opened, .map (some d.ib), .map (some d.eb)] 87 :: G) → w'.cell? ⟨pb, 0, none⟩ = some (.pointer (some ⟨d.tb, 0, none⟩)) ∧ w'.cell? ⟨pb, 4, none⟩ = some (.map (some d.ib)) ∧ w'.heap[xb]? = some (.cells #[.int .i64 kind, .int .i64 xid, .string path, .string data, .slice aa acl.length ac, .int .i64 flags, .int .i64 version, .bool watch, .slice sa sn sc, .slice ra rn rc] 40 (0, 0)) ∧ MapL kbI w' d.ib (Ri.map fun p => (p.1, p.2.val))) := Lib.hid fun w' T1 T2 G h => ⟨blk_cell (h.box 5 rfl) 0 _ rfl, blk_cell (h.box 5 rfl) 4 _ rfl, h.box 2 rfl, h.mapL 3 rfl⟩
  have zp := heap_lt (HA.out.box 5 rfl)
  clear HS2
  refine wp_region_last_held (n := 13) (S := fun w' => w'.cell? ⟨pb, 0, none⟩ = some (.pointer (some ⟨d.tb, 0, none⟩)) ∧ w'.cell? ⟨pb, 4, none⟩ = some (.map (some d.ib)) ∧ w'.heap[xb]? = some (.cells #[.int .i64 kind, .int .i64 xid, .string path, .string data, .slice aa acl.length ac, .int .i64 flags, .int .i64 version, .bool watch, .slice sa sn sc, .slice ra rn rc] 40 (0, 0)) ∧ MapL kbI w' d.ib (Ri.map fun p => (p.1, p.2.val))) (by kernel_rfl) rfl (by simp only [List.pop_toArray, List.dropLast_cons_cons, List.dropLast_singleton]; rfl) (by kernel_rfl) (by kernel_rfl) (KP.out _ _ _ _ HA.out) (fun hHeld => ?_)
  generalize W1.drew = V at HA hHeld ⊢
  refine tk 0 (some 15) ?_ rfl rfl hHeld ?_ ?_
  rotate_left
  ·intro wq hSw; (try dsimp only at hSw); go_simp; try with_reducible rfl
  refine tk 1 (some 16) ?_ rfl rfl hHeld ?_ ?_
  rotate_left
  ·intro wq hSw; (try dsimp only at hSw); go_simp; try with_reducible rfl
  refine tk 2 (some 17) ?_ rfl rfl hHeld ?_ ?_
  rotate_left
  ·intro wq hSw; (try dsimp only at hSw); go_simp; try with_reducible rfl
  refine tk 3 (some 18) ?_ rfl rfl hHeld ?_ ?_
  rotate_left
  ·intro wq hSw; (try dsimp only at hSw); go_simp; try with_reducible rfl
  refine tk 4 (some 19) ?_ rfl rfl hHeld ?_ ?_
  rotate_left
  ·intro wq hSw; (try dsimp only at hSw); go_simp; try with_reducible rfl
  refine tk 5 (some 20) ?_ rfl rfl hHeld ?_ ?_
  rotate_left
  ·intro wq hSw; (try dsimp only at hSw); go_simp; try with_reducible rfl
  refine tk 6 (some 21) ?_ rfl rfl hHeld ?_ ?_
  rotate_left
  ·intro wq hSw; (try dsimp only at hSw); go_simp; try with_reducible rfl
  refine tk 7 (some 22) ?_ rfl rfl hHeld ?_ ?_
  rotate_left
  ·intro wq hSw; (try dsimp only at hSw); go_simp; try with_reducible rfl
  refine tk 8 (some 23) ?_ rfl rfl hHeld ?_ ?_
  rotate_left
  ·intro wq hSw; (try dsimp only at hSw); go_simp; try with_reducible rfl
  refine tk 9 (some 24) ?_ rfl rfl hHeld ?_ ?_
  rotate_left
  ·intro wq hSw; (try dsimp only at hSw); go_simp; try with_reducible rfl
  try simp only [Act.put, Nat.zero_add, zA, zB, zC]
  refine wpAnyH_take (i := 10) (oi := ⟨some 25, _, _, _, _, _⟩) (v := _) rfl (by kernel_rfl) (by kernel_rfl) (by kernel_rfl) (fun _ _ _ h => h) (yieldsLookL Tryz.underlying84 (by rfl) rfl d.ib (by rfl) (Ri.map fun p => (p.1, p.2.val)) zeroStrs s (by rfl) HSO.out _ HLK.out (fun _ h => h.2.2.2)) hHeld ?_
  try simp only [Act.put, Nat.zero_add, zA, zB, zC]
  refine wpAnyH_take (i := 11) (oi := ⟨some 26, _, _, _, _, _⟩) (v := _) rfl (by kernel_rfl) (by kernel_rfl) (by kernel_rfl) (fun _ _ _ h => h) (yieldsT 10 _ (by rfl) rfl Tryz.underlying40 rfl sizeReq xb (by rfl) ([.int .i64 kind, .int .i64 xid, .string path, .string data, .slice aa acl.length ac, .int .i64 flags, .int .i64 version, .bool watch, .slice sa sn sc, .slice ra rn rc] : List Value) rfl 40 (fun _ h => h.2.2.1)) hHeld ?_
  try simp only [Act.put, Nat.zero_add, zA, zB, zC]
  refine wpAnyH_ready (rs := [12]) (by kernel_rfl) (by simp) ?_
  refine (AllReadyH.cons (o := ⟨some 27, _, _, _, _, _⟩) rfl (fun K hK => ?_) AllReadyH.nil)
  go_simp
  refine (CR.out _ HA.out.tail.tail.tail).mono ?_
  rintro e w5 ⟨oaa, oac, oka, okc, rfl, hSR⟩
  have HB := Lib.hid (HA.out.join hSR)
  clear hSR
  refine hK.out _ _ (KP.out _ _ _ _ HB.out.tail.tail) (fun hHeld => ?_)
  clear hK K
  try simp only [Act.put, Nat.zero_add, zA, zB, zC]
  refine wpAnyH_done (by kernel_rfl) ?_ _
  refine LastQ.listP rfl ?_
  refine wpList_store_whole 17 sizeRp (xb + 1 + 1) rfl _ _ (HB.out.box 2 rfl) rfl ([.int .i64 oxid, .int .i64 ozx, .int .i64 oer, .string opa, .string oda, .int .i64 o1, .int .i64 o2, .int .i64 o3, .int .i64 o4, .int .i64 o5, .int .i64 o6, .int .i64 o7, .int .i64 oln, .int .i64 okn, .slice oaa oacl.length oac, .slice oka okids.length okc, .slice none 0 0] : List Value) rfl rfl rfl ?_
  intro w6 hg6 hM6 hz6
  have H6 := HB.out.rebox 2 rfl hg6 hM6
  simp only [List.cons_append, List.nil_append, zB, zC] at H6
  have HC : Hid (St w0 w6 (sl 46 2 oaa oacl.length oac (oacl.flatMap ARow.cells) :: sl 9 1 oka okids.length okc (okids.map Value.string) :: bx (xb + 1 + 1) #[.int .i64 oxid, .int .i64 ozx, .int .i64 oer, .string opa, .string oda, .int .i64 o1, .int .i64 o2, .int .i64 o3, .int .i64 o4, .int .i64 o5, .int .i64 o6, .int .i64 o7, .int .i64 oln, .int .i64 okn, .slice oaa oacl.length oac, .slice oka okids.length okc, .slice none 0 0] 33 :: bx (xb + 1) #[.int .i64 0, .int .i64 0, .int .i64 0, .string ⟨#[]⟩, .string ⟨#[]⟩, .int .i64 0, .int .i64 0, .int .i64 0, .int .i64 0, .int .i64 0, .int .i64 0, .int .i64 0, .int .i64 0, .int .i64 0, .slice none 0 0, .slice none 0 0, .slice none 0 0] 33 :: bx xb #[.int .i64 kind, .int .i64 xid, .string path, .string data, .slice aa acl.length ac, .int .i64 flags, .int .i64 version, .bool watch, .slice sa sn sc, .slice ra rn rc] 40 :: mpl kbI d.ib (Ri.map fun p => (p.1, p.2.val)) :: grp (Ri.map fun p => p.2.own 9 1 A.strC) :: bx pb #[.pointer (some ⟨d.tb, 0, none⟩), .pointer (some ⟨d.wb, 0, none⟩), .slice d.oa d.L.length d.oc, .int .i64 p.opened, .map (some d.ib), .map (some d.eb)] 87 :: tre d.tb p.tree :: wtb d.wb p.watches :: sl 63 11 d.oa d.L.length d.oc (d.L.flatMap EnR.cells) :: msl kbI 113 3 Evt.cells d.eb p.events :: grp (d.L.map EnR.own) :: l)) := Lib.hid H6
  clear H6 hg6 hM6 hz6 HB HA hHeld KP CR zp
  have HCC : Hid (∀ j u, ([.int .i64 kind, .int .i64 xid, .string path, .string data, .slice aa acl.length ac, .int .i64 flags, .int .i64 version, .bool watch, .slice sa sn sc, .slice ra rn rc] : List Value)[j]? = some u → w6.cell? ((⟨xb, 0, none⟩ : Addr).add j) = some u) := Lib.hid (fun j u hj => by rw [add_none, Nat.zero_add]; exact blk_cell (HC.out.box 4 rfl) j u (by rw [← hj]; exact List.getElem?_toArray))
  have c2 := blk_cell (HC.out.box 2 rfl) 2 (.int .i64 oer) rfl
  have zo := heap_lt (HC.out.box 2 rfl)
  go_upto_if 33 with (first
   | ((with_reducible refine at_list ?_); refine wpList_load_chunk 10 _ Tryz.underlying40 rfl sizeReq ⟨xb, 0, none⟩ rfl ([.int .i64 kind, .int .i64 xid, .string path, .string data, .slice aa acl.length ac, .int .i64 flags, .int .i64 version, .bool watch, .slice sa sn sc, .slice ra rn rc] : List Value) rfl HCC.out ?_)
   | (go_at_call 66; refine (CL2.out _).mono ?_; rintro e7 w7 ⟨rfl, hM7⟩; have H7 := Lib.hid (HC.out.mod hM7); clear hM7))
  clear HC HCC c2 zo CL2
  by_cases hk0 : lk = 0
  ·have hb0 : (lk != 0) = false := by simp [hk0]
   have hb1 : (lk == 0) = true := by simp [hk0]
   have HR2 := Lib.hid hk0
   clear hk0
   go_wp2
   go_meet
   case rel =>
    refine ⟨oxid, ozx, oer, opa, oda, o1, o2, o3, o4, o5, o6, o7, oln, okn, oacl, okids, oaa, oac, oka, okc, p.watches, Lib.hid ?_, H7.out⟩
    rw [← HRES.out, if_pos HR2.out]
  ·have hb0 : (lk != 0) = true := by simp [hk0]
   have hb1 : (lk == 0) = false := by simp [hk0]
   have HR2 := Lib.hid hk0
   clear hk0
   go_upto_region 6 with (fail)
   have HA := Lib.hid (H7.out.pick 9 rfl).drew
   have KP : Hid (∀ (w' : World) (T1 T2 T3 T4 T5 T6 T7 : Thing) (G : List Thing), St w0 w' (T1 :: T2 :: T3 :: T4 :: T5 :: bx xb #[.int .i64 kind, .int .i64 xid, .string path, .string data, .slice aa acl.length ac, .int .i64 flags, .int .i64 version, .bool watch, .slice sa sn sc, .slice ra rn rc] 40 :: T6 :: T7 :: bx pb #[.pointer (some ⟨d.tb, 0, none⟩), .pointer (some ⟨d.wb, 0, none⟩), .slice d.oa d.L.length d.oc, .int .i64 p.opened, .map (some d.ib), .map (some d.eb)] 87 :: G) → w'.cell? ⟨pb, 1, none⟩ = some (.pointer (some ⟨d.wb, 0, none⟩)) ∧ w'.cell? ⟨xb, 2, none⟩ = some (.string path)) := Lib.hid fun w' T1 T2 T3 T4 T5 T6 T7 G h => ⟨blk_cell (h.box 8 rfl) 1 _ rfl, blk_cell (h.box 5 rfl) 2 _ rfl⟩
   have zp := heap_lt (HA.out.box 8 rfl)
   have zx := heap_lt (HA.out.box 5 rfl)
   clear H7
   go_region_held3 (fun w' => w'.cell? ⟨pb, 1, none⟩ = some (.pointer (some ⟨d.wb, 0, none⟩)) ∧ w'.cell? ⟨xb, 2, none⟩ = some (.string path))
    (first | exact KP.out _ _ _ _ _ _ _ _ _ HA.out | exact KP.out _ _ _ _ _ _ _ _ _ HB.out)
    ((go_at_call 67; refine (CA.out _ _ HA.out).mono ?_; rintro e w8 ⟨rfl, hS8⟩; have HB := Lib.hid hS8; clear hS8))
   by_cases he : A0.2 = 0
   ·have hc0 : (A0.2 != 0) = false := by simp [he]
    have hc1 : (A0.2 == 0) = true := by simp [he]
    have HE := Lib.hid he
    clear he
    go_wp2
    go_meet
    case rel =>
     refine ⟨oxid, ozx, oer, opa, oda, o1, o2, o3, o4, o5, o6, o7, oln, okn, oacl, okids, oaa, oac, oka, okc, A0.1, Lib.hid ?_, ?_⟩
     ·rw [← HRES.out, if_neg HR2.out, if_pos HE.out]
     ·exact HB.out.perm (List.perm_append_comm_assoc [_] [_, _, _, _, _, _, _, _, _] _)
   ·have hc0 : (A0.2 != 0) = true := by simp [he]
    have hc1 : (A0.2 == 0) = false := by simp [he]
    have HE := Lib.hid he
    have HB2 : Hid (St w0 w8 (wtb d.wb A0.1 :: sl 46 2 oaa oacl.length oac (oacl.flatMap ARow.cells) :: sl 9 1 oka okids.length okc (okids.map Value.string) :: bx (xb + 1 + 1) #[.int .i64 oxid, .int .i64 ozx, .int .i64 oer, .string opa, .string oda, .int .i64 o1, .int .i64 o2, .int .i64 o3, .int .i64 o4, .int .i64 o5, .int .i64 o6, .int .i64 o7, .int .i64 oln, .int .i64 okn, .slice oaa oacl.length oac, .slice oka okids.length okc, .slice none 0 0] 33 :: bx (xb + 1) #[.int .i64 0, .int .i64 0, .int .i64 0, .string ⟨#[]⟩, .string ⟨#[]⟩, .int .i64 0, .int .i64 0, .int .i64 0, .int .i64 0, .int .i64 0, .int .i64 0, .int .i64 0, .int .i64 0, .int .i64 0, .slice none 0 0, .slice none 0 0, .slice none 0 0] 33 :: bx xb #[.int .i64 kind, .int .i64 xid, .string path, .string data, .slice aa acl.length ac, .int .i64 flags, .int .i64 version, .bool watch, .slice sa sn sc, .slice ra rn rc] 40 :: mpl kbI d.ib (Ri.map fun p => (p.1, p.2.val)) :: grp (Ri.map fun p => p.2.own 9 1 A.strC) :: bx pb #[.pointer (some ⟨d.tb, 0, none⟩), .pointer (some ⟨d.wb, 0, none⟩), .slice d.oa d.L.length d.oc, .int .i64 p.opened, .map (some d.ib), .map (some d.eb)] 87 :: tre d.tb p.tree :: sl 63 11 d.oa d.L.length d.oc (d.L.flatMap EnR.cells) :: msl kbI 113 3 Evt.cells d.eb p.events :: grp (d.L.map EnR.own) :: l)) := Lib.hid HB.out
    clear he HB
    go_wp2_with ((with_reducible refine at_list ?_); refine wpList_store_whole 17 sizeRp (xb + 1 + 1) rfl _ _ (HB2.out.box 3 rfl) rfl ([.int .i64 0, .int .i64 0, .int .i64 A0.2, .string ⟨#[]⟩, .string ⟨#[]⟩, .int .i64 0, .int .i64 0, .int .i64 0, .int .i64 0, .int .i64 0, .int .i64 0, .int .i64 0, .int .i64 0, .int .i64 0, .slice none 0 0, .slice none 0 0, .slice none 0 0] : List Value) rfl rfl rfl ?_; intro w9 hg9 hM9 hz9; have HC := Lib.hid (HB2.out.rebox 3 rfl hg9 hM9); clear hg9 hM9 hz9)
    go_meet
    case rel =>
     have h9 := HC.out
     simp only [zB, zC] at h9
     refine ⟨0, 0, A0.2, ⟨#[]⟩, ⟨#[]⟩, 0, 0, 0, 0, 0, 0, 0, 0, 0, [], [], none, 0, none, 0, A0.1, Lib.hid ?_, ?_⟩
     ·rw [← HRES.out, if_neg HR2.out, if_neg HE.out]; rfl
     ·have h10 := ((h9.tail.tail.tail).perm (List.Perm.refl _))
      have h11 := ((h9.perm (List.perm_append_comm_assoc [_] [_, _, _, _, _, _, _, _, _] _)).tail.tail)
      exact ((h11.nilSlice 9 1).nilSlice 46 2)
 case rest =>
  clear HS2 CA CR CL2
  obtain ⟨qxid, qzx, qer, qpa, qda, q1, q2, q3, q4, q5, q6, q7, qln, qkn, qacl, qkids, qaa, qac, qka, qkc, W', HRQ, hS⟩ := hcut
  have HS := Lib.hid hS
  clear hS
  have HCC : Hid (∀ j u, ([.int .i64 qxid, .int .i64 qzx, .int .i64 qer, .string qpa, .string qda, .int .i64 q1, .int .i64 q2, .int .i64 q3, .int .i64 q4, .int .i64 q5, .int .i64 q6, .int .i64 q7, .int .i64 qln, .int .i64 qkn, .slice qaa qacl.length qac, .slice qka qkids.length qkc, .slice none 0 0] : List Value)[j]? = some u → wc.cell? ((⟨xb + 1 + 1, 0, none⟩ : Addr).add j) = some u) := Lib.hid (fun j u hj => by rw [add_none, Nat.zero_add]; exact blk_cell (HS.out.box 2 rfl) j u (by rw [← hj]; exact List.getElem?_toArray))
  go_wp2_with (first
   | ((with_reducible refine at_list ?_); refine wpList_load_chunk 17 _ Tryz.underlying33 rfl sizeRp ⟨xb + 1 + 1, 0, none⟩ rfl ([.int .i64 qxid, .int .i64 qzx, .int .i64 qer, .string qpa, .string qda, .int .i64 q1, .int .i64 q2, .int .i64 q3, .int .i64 q4, .int .i64 q5, .int .i64 q6, .int .i64 q7, .int .i64 qln, .int .i64 qkn, .slice qaa qacl.length qac, .slice qka qkids.length qkc, .slice none 0 0] : List Value) rfl HCC.out ?_)
   | ((with_reducible refine at_list ?_); refine wpList_store_whole 17 sizeRp (xb + 1) rfl _ _ (HS.out.box 3 rfl) rfl ([.int .i64 qxid, .int .i64 qzx, .int .i64 qer, .string qpa, .string qda, .int .i64 q1, .int .i64 q2, .int .i64 q3, .int .i64 q4, .int .i64 q5, .int .i64 q6, .int .i64 q7, .int .i64 qln, .int .i64 qkn, .slice qaa qacl.length qac, .slice qka qkids.length qkc, .slice none 0 0] : List Value) rfl rfl rfl ?_; intro w9 hg9 hM9 hz9; have HC := Lib.hid (HS.out.rebox 3 rfl hg9 hM9); clear hg9 hM9 hz9))
  refine bodyPost_ret (results_c1 rfl _ w9 (xb + 1) _ _ _ _ rfl (HC.out.box 3 rfl) Tryz.underlying33 rfl sizeRp) rfl ?_
  have h9 := HC.out
  simp only [zB, zC] at h9
  have h10 := ((h9.perm (List.perm_append_comm_assoc [_, _] [_, _, _, _, _, _, _, _, _, _, _] _)).tail.tail.tail)
  have h11 := (St.shutMsl Ri HD.out.2 h10).perm (List.perm_append_comm_assoc [_] [_, _, _, _] _)
  rw [← HRQ.out]
  exact ⟨qaa, qac, qka, qkc, rfl, St.shutS d ⟨HD.out.1.order, HD.out.1.subs⟩ h11⟩
end Go.Proofs.YtonnbkebjeoflaaGreatDoor
