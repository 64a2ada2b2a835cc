/-
  A voter: hears (a note of one that looks, of its round or a later one).
  Conditions: at most 1000 servers; what is heard is from servers that there are.
-/
import Derived.Test.YtmikenagaihoiaaVoteD
namespace Go.Proofs.Ytmikenagaihoiaa
open Go.RowKit
set_option linter.unusedSectionVars false
set_option linter.unusedSimpArgs false
set_option linter.unusedVariables false

theorem St.swap2 {w0 w : World} {a b : Thing} {l : List Thing} (h : St w0 w (a :: b :: l)) : St w0 w (b :: a :: l) := h.perm (.swap _ _ _)

def Vr.turn (V : Vr) (r : Int) : Vr := { V with round := r, heard := fun _ => none, hn := 0 }
def Vr.chosen (V : Vr) (n : No) : Vr :=
  if V.round < n.ro then (V.turn n.ro).take (if n.of.better V.own then n.of else V.own) else if n.of.better V.vote then V.take n.of else V
def Vr.answer (V : Vr) (n : No) : List Cs := if V.round < n.ro then (V.chosen n).casts else if n.of.better V.vote then (V.chosen n).casts else []
def Vr.hear1 (V : Vr) (n : No) : Vr := if (match V.heard n.fr with | none => true | some o => !o.better n.of) then { V with heard := put1 V.heard n.fr n.of, hn := V.hn + 1 } else V

/-- In hears: the note and the vote in their blocks, the voter taken apart. -/
def HrSt (w0 : World) (nb xb pb : Nat) (n : No) (x : Vt) (V : Vr) (l : List Thing) (w : World) : Prop :=
  ∃ hb sb, St w0 w (bx nb n.cells.toArray 23 :: bx xb x.cells.toArray 45 :: bx pb (V.cells (some hb) (some sb)) 51 :: mp Try.prog 3 hb V.hn (vmap V.heard) :: mp Try.prog 3 sb V.sn (nmap V.settled) :: l)
theorem HrSt.link {w0 : World} {nb xb pb : Nat} {n : No} {x : Vt} {V : Vr} {l : List Thing} {w : World} (h : HrSt w0 nb xb pb n x V l w) : St w0 w (vr pb V :: bx nb n.cells.toArray 23 :: bx xb x.cells.toArray 45 :: l) := by
  obtain ⟨hb, sb, h⟩ := h
  exact St.revr V (h.perm (List.perm_append_comm_assoc [_, _] [_, _, _] l))
theorem HrSt.back {w0 : World} {nb xb pb : Nat} {n : No} {x : Vt} {V : Vr} {l : List Thing} {w : World} (h : St w0 w (vr pb V :: bx nb n.cells.toArray 23 :: bx xb x.cells.toArray 45 :: l)) : HrSt w0 nb xb pb n x V l w := by
  obtain ⟨hb, sb, h⟩ := h.unvr
  exact ⟨hb, sb, h.perm (List.perm_append_comm_assoc [_, _, _] [_, _] l)⟩
theorem HrSt.drewN {w0 : World} {nb xb pb : Nat} {n : No} {x : Vt} {V : Vr} {l : List Thing} {w : World} (h : HrSt w0 nb xb pb n x V l w) (d : Nat) : HrSt w0 nb xb pb n x V l (w.drewN d) := by
  obtain ⟨hb, sb, h⟩ := h; exact ⟨hb, sb, h.drewN d⟩

theorem chosen_ok (V : Vr) (n : No) (hd : ∀ i x, V.heard i = some x → 1 ≤ i ∧ i ≤ V.servers) (hm1 : 1 ≤ V.me ∧ V.me ≤ V.servers) : (V.chosen n).servers = V.servers ∧ (V.chosen n).hn ≤ V.hn + 1 ∧ ∀ i x, (V.chosen n).heard i = some x → 1 ≤ i ∧ i ≤ V.servers := by
  unfold Vr.chosen
  split
  · refine ⟨rfl, by show 0 + 1 ≤ V.hn + 1; omega, fun i x hx => ?_⟩
    have hx' : put1 (fun _ => none) V.me _ i = some x := hx
    unfold put1 at hx'
    split at hx'
    · omega
    · cases hx'
  · split
    · refine ⟨rfl, Nat.le_refl _, fun i x hx => ?_⟩
      have hx' : put1 V.heard V.me _ i = some x := hx
      unfold put1 at hx'
      split at hx'
      · omega
      · exact hd i x hx'
    · exact ⟨rfl, by omega, hd⟩

theorem hear1_ok (V : Vr) (n : No) (S : Int) (hd : ∀ i x, V.heard i = some x → 1 ≤ i ∧ i ≤ S) (hf1 : 1 ≤ n.fr ∧ n.fr ≤ S) : (V.hear1 n).servers = V.servers ∧ ∀ i x, (V.hear1 n).heard i = some x → 1 ≤ i ∧ i ≤ S := by
  unfold Vr.hear1
  generalize (match V.heard n.fr with | none => true | some o => !o.better n.of) = g
  cases g
  · exact ⟨rfl, hd⟩
  · refine ⟨rfl, fun i x hx => ?_⟩
    have hx' : put1 V.heard n.fr _ i = some x := hx
    unfold put1 at hx'
    split at hx'
    · omega
    · exact hd i x hx'

theorem HrSt.mod {w0 : World} {nb xb pb : Nat} {n : No} {x : Vt} {V : Vr} {l : List Thing} {w w' : World} (h : HrSt w0 nb xb pb n x V l w) (hm : Mod (fun _ => False) w w') : HrSt w0 nb xb pb n x V l w' := by
  obtain ⟨hb, sb, h⟩ := h; exact ⟨hb, sb, h.mod hm⟩

set_option maxRecDepth 100000 in
set_option maxHeartbeats 4000000 in
theorem hears_st {w0 w : World} {pb : Nat} {V : Vr} {l : List Thing} (h : St w0 w (vr pb V :: l)) (n : No) (hr : V.round ≤ n.ro) (hs0 : 0 ≤ V.servers) (hs1 : V.servers ≤ 1000) (hme : wf64 V.me) (hfr : wf64 n.fr) (hn : V.hn + 2 < maxLen)
    (hd : ∀ i x, V.heard i = some x → 1 ≤ i ∧ i ≤ V.servers) (hm1 : 1 ≤ V.me ∧ V.me ≤ V.servers) (hf1 : 1 ≤ n.fr ∧ n.fr ≤ V.servers) :
    Calls Try.prog 22 #[.pointer (some ⟨pb, 0, none⟩), n.agg] w (StCs w0 (V.answer n) (vr pb ((V.chosen n).hear1 n).counted :: l)) := by
  obtain ⟨hb, sb, hS⟩ := h.unvr
  have hT := hS.box1 n.cells.toArray 23
  have HT := Lib.hid hT
  have HR := Lib.hid hr
  clear h hS hT hr
  simp only [No.agg]
  go_enter Try.func22, Try.ntmps22
  go_upto_region 2 with (fail)
  change Code.wp _ _ _ _ (w.alloc (.cells n.cells.toArray 23))
  generalize w.alloc (.cells n.cells.toArray 23) = W at HT ⊢
  generalize w.heap.size = nb at HT ⊢
  have hbx := HT.out.box 0 rfl
  have n0 := blk_cell hbx 0 (.int .i64 n.fr) rfl
  have n1 := blk_cell hbx 1 (.int .i64 n.st) rfl
  have n2 := blk_cell hbx 2 (.int .i64 n.ro) rfl
  have n3 := blk_cell hbx 3 (.int .i64 n.le) rfl
  have n4 := blk_cell hbx 4 (.int .i64 n.ep) rfl
  have n5 := blk_cell hbx 5 (.int .i64 n.zx) rfl
  have hnb := heap_lt hbx
  clear hbx
  go_wp2_with fail
  refine (of_any n W).mono ?_
  rintro e w2 ⟨rfl, hm2⟩
  have hS2 := (HT.out.mod hm2).box1 n.of.cells.toArray 45
  have HS2 : Hid (HrSt w0 nb w2.heap.size pb n n.of V l (w2.alloc (.cells n.of.cells.toArray 45))) := Lib.hid ⟨hb, sb, hS2.swap2⟩
  clear HT n0 n1 n2 n3 n4 n5 hnb hS2 hm2
  go_upto_block 0 with (fail)
  change Code.wp _ _ _ _ (w2.alloc (.cells n.of.cells.toArray 45))
  generalize w2.alloc (.cells n.of.cells.toArray 45) = W3 at HS2 ⊢
  generalize w2.heap.size = xb at HS2 ⊢
  go_cut [5] (fun v wx => ∃ a5 cap5 x, v = .slice a5 (V.answer n).length cap5 ∧ HrSt w0 nb xb pb n x (V.chosen n) (sl 41 7 a5 (V.answer n).length cap5 ((V.answer n).flatMap Cs.cells) :: l) wx)
  case first =>
    by_cases hre : V.round < n.ro
    · have g1 : decide (n.ro < V.round) = false := by have := HR.out; simp; omega
      have g2 : decide (V.round < n.ro) = true := by have := hre; simp; omega
      have HRE := Lib.hid hre
      have hmm := @run_makeMap Try.prog
      clear hre
      obtain ⟨hb, sb, hS⟩ := HS2.out
      have n2 := blk_cell (hS.box 0 rfl) 2 (.int .i64 n.ro) rfl
      have x0 := blk_cell (hS.box 1 rfl) 0 (.int .i64 n.of.e) rfl
      have x1 := blk_cell (hS.box 1 rfl) 1 (.int .i64 n.of.z) rfl
      have x2 := blk_cell (hS.box 1 rfl) 2 (.int .i64 n.of.l) rfl
      have c3 := blk_cell (hS.box 2 rfl) 3 (.int .i64 V.round) rfl
      have hnb := heap_lt (hS.box 0 rfl)
      have hxb := heap_lt (hS.box 1 rfl)
      have hpb := heap_lt (hS.box 2 rfl)
      clear hS
      go_wp2_with fail
      go_quiet (fail)
      have HS3 := Lib.hid (HS2.out.drewN nq)
      clear n2 x0 x1 x2 c3 hnb hxb hpb HS2
      generalize W3.drewN nq = W4 at HS3 ⊢
      obtain ⟨hb, sb, hS⟩ := HS3.out
      have n2 := blk_cell (hS.box 0 rfl) 2 (.int .i64 n.ro) rfl
      have x0 := blk_cell (hS.box 1 rfl) 0 (.int .i64 n.of.e) rfl
      have x1 := blk_cell (hS.box 1 rfl) 1 (.int .i64 n.of.z) rfl
      have x2 := blk_cell (hS.box 1 rfl) 2 (.int .i64 n.of.l) rfl
      have c3 := blk_cell (hS.box 2 rfl) 3 (.int .i64 V.round) rfl
      have hnb := heap_lt (hS.box 0 rfl)
      have hxb := heap_lt (hS.box 1 rfl)
      have hpb := heap_lt (hS.box 2 rfl)
      clear hS
      go_wp2_with fail
      go_quiet (fail)
      have HS4 := Lib.hid (HS3.out.drewN nq)
      clear n2 x0 x1 x2 c3 hnb hxb hpb HS3
      generalize W4.drewN nq = W5 at HS4 ⊢
      obtain ⟨hb, sb, hS⟩ := HS4.out
      have n2 := blk_cell (hS.box 0 rfl) 2 (.int .i64 n.ro) rfl
      have x0 := blk_cell (hS.box 1 rfl) 0 (.int .i64 n.of.e) rfl
      have x1 := blk_cell (hS.box 1 rfl) 1 (.int .i64 n.of.z) rfl
      have x2 := blk_cell (hS.box 1 rfl) 2 (.int .i64 n.of.l) rfl
      have c3 := blk_cell (hS.box 2 rfl) 3 (.int .i64 V.round) rfl
      have hnb := heap_lt (hS.box 0 rfl)
      have hxb := heap_lt (hS.box 1 rfl)
      have hpb := heap_lt (hS.box 2 rfl)
      have c11 := blk_cell (hS.box 2 rfl) 11 (.map (some hb)) rfl
      have f3 := blk_free (hS.box 2 rfl) 3
      have f11 := blk_free (hS.box 2 rfl) 11
      have H5 : Hid (HrSt w0 nb xb pb n n.of (V.turn n.ro) l (((W5.setCell ⟨pb, 3, none⟩ (.int .i64 n.ro)).setCell ⟨pb, 11, none⟩ (.map (some W5.heap.size))).alloc (.map #[] 0))) := by
        have h2 := ((hS.set 2 rfl 3 (.int .i64 n.ro)).set 2 rfl 11 (.map (some W5.heap.size))).map1 Try.prog 3
        rw [World.size_setCell, World.size_setCell] at h2
        have h3 := h2.perm (List.perm_append_comm_assoc [_] [_, _, _] _)
        have h4 := (h3.perm (List.perm_append_comm_assoc [_, _, _, _] [_] _)).tail
        exact Lib.hid ⟨_, sb, h4⟩
      clear hS HS4
      go_upto_region 8 with (fail)
      generalize ((W5.setCell ⟨pb, 3, none⟩ (.int .i64 n.ro)).setCell ⟨pb, 11, none⟩ (.map (some W5.heap.size))).alloc (.map #[] 0) = W6 at H5 ⊢
      clear n2 x0 x1 x2 c3 hnb hxb hpb c11 f3 f11 hmm
      obtain ⟨hb, sb, hS⟩ := H5.out
      have n2 := blk_cell (hS.box 0 rfl) 2 (.int .i64 n.ro) rfl
      have x0 := blk_cell (hS.box 1 rfl) 0 (.int .i64 n.of.e) rfl
      have x1 := blk_cell (hS.box 1 rfl) 1 (.int .i64 n.of.z) rfl
      have x2 := blk_cell (hS.box 1 rfl) 2 (.int .i64 n.of.l) rfl
      have c5 := blk_cell (hS.box 2 rfl) 5 (.int .i64 V.own.e) rfl
      have c6 := blk_cell (hS.box 2 rfl) 6 (.int .i64 V.own.z) rfl
      have c7 := blk_cell (hS.box 2 rfl) 7 (.int .i64 V.own.l) rfl
      have hnb := heap_lt (hS.box 0 rfl)
      have hxb := heap_lt (hS.box 1 rfl)
      have hpb := heap_lt (hS.box 2 rfl)
      clear hS
      go_still_tail 5, (by kernel_rfl)
      change wpList _ _ _ _ _ W6.drew
      by_cases hbt : n.of.better V.own = true
      · have HC : Hid (V.chosen n = (V.turn n.ro).take n.of ∧ V.answer n = ((V.turn n.ro).take n.of).casts) := Lib.hid (by rw [Vr.answer, Vr.chosen, if_pos HRE.out, if_pos HRE.out, if_pos hbt]; exact ⟨rfl, rfl⟩)
        have HB := Lib.hid hbt
        clear hbt
        go_wp2_with fail
        refine (better_any n.of V.own W6.drew).mono ?_
        rw [HB.out]
        rintro e w6 ⟨rfl, hm6⟩
        have HS6 : Hid (HrSt w0 nb xb pb n n.of (V.turn n.ro) l w6) := Lib.hid ((H5.out.drewN 1).mod hm6)
        clear n2 x0 x1 x2 c5 c6 c7 hnb hxb hpb H5 hm6
        obtain ⟨hb, sb, hS⟩ := HS6.out
        have n2 := blk_cell (hS.box 0 rfl) 2 (.int .i64 n.ro) rfl
        have x0 := blk_cell (hS.box 1 rfl) 0 (.int .i64 n.of.e) rfl
        have x1 := blk_cell (hS.box 1 rfl) 1 (.int .i64 n.of.z) rfl
        have x2 := blk_cell (hS.box 1 rfl) 2 (.int .i64 n.of.l) rfl
        have c5 := blk_cell (hS.box 2 rfl) 5 (.int .i64 V.own.e) rfl
        have c6 := blk_cell (hS.box 2 rfl) 6 (.int .i64 V.own.z) rfl
        have c7 := blk_cell (hS.box 2 rfl) 7 (.int .i64 V.own.l) rfl
        have hnb := heap_lt (hS.box 0 rfl)
        have hxb := heap_lt (hS.box 1 rfl)
        have hpb := heap_lt (hS.box 2 rfl)
        clear hS
        go_wp2_with fail
        refine (takes_st HS6.out.link n.of hme (by show 0 < maxLen; unfold maxLen; decide)).mono ?_
        rintro e w7 ⟨rfl, hS7⟩
        obtain ⟨hb7, sb7, hS8⟩ := HrSt.back hS7
        have HS8 := Lib.hid hS8
        clear n2 x0 x1 x2 c5 c6 c7 hnb hxb hpb HS6 hS7 hS8
        go_wp2_with fail
        refine (casts_bx HS8.out 2 rfl (by exact hs0) (by exact hs1)).mono ?_
        rintro e w8 ⟨a8, cap8, rfl, hS9⟩
        go_wp2_with fail
        go_meet
        rw [HC.out.1, HC.out.2]
        exact ⟨a8, cap8, n.of, rfl, hb7, sb7, hS9.perm (List.perm_append_comm_assoc [_] [_, _, _, _, _] l)⟩
      · have hbt : n.of.better V.own = false := by simpa using hbt
        have HC : Hid (V.chosen n = (V.turn n.ro).take V.own ∧ V.answer n = ((V.turn n.ro).take V.own).casts) := Lib.hid (by rw [Vr.answer, Vr.chosen, if_pos HRE.out, if_pos HRE.out, if_neg (by rw [hbt]; simp)]; exact ⟨rfl, rfl⟩)
        have HB := Lib.hid hbt
        clear hbt
        go_wp2_with fail
        refine (better_any n.of V.own W6.drew).mono ?_
        rw [HB.out]
        rintro e w6 ⟨rfl, hm6⟩
        have HS6 : Hid (HrSt w0 nb xb pb n n.of (V.turn n.ro) l w6) := Lib.hid ((H5.out.drewN 1).mod hm6)
        clear n2 x0 x1 x2 c5 c6 c7 hnb hxb hpb H5 hm6
        obtain ⟨hb, sb, hS⟩ := HS6.out
        have n2 := blk_cell (hS.box 0 rfl) 2 (.int .i64 n.ro) rfl
        have x0 := blk_cell (hS.box 1 rfl) 0 (.int .i64 n.of.e) rfl
        have x1 := blk_cell (hS.box 1 rfl) 1 (.int .i64 n.of.z) rfl
        have x2 := blk_cell (hS.box 1 rfl) 2 (.int .i64 n.of.l) rfl
        have c5 := blk_cell (hS.box 2 rfl) 5 (.int .i64 V.own.e) rfl
        have c6 := blk_cell (hS.box 2 rfl) 6 (.int .i64 V.own.z) rfl
        have c7 := blk_cell (hS.box 2 rfl) 7 (.int .i64 V.own.l) rfl
        have hnb := heap_lt (hS.box 0 rfl)
        have hxb := heap_lt (hS.box 1 rfl)
        have hpb := heap_lt (hS.box 2 rfl)
        have y0 := blk_free (hS.box 1 rfl) 0
        have y1 := blk_free (hS.box 1 rfl) 1
        have y2 := blk_free (hS.box 1 rfl) 2
        have H6 : Hid (HrSt w0 nb xb pb n V.own (V.turn n.ro) l (((w6.setCell ⟨xb, 0, none⟩ (.int .i64 V.own.e)).setCell ⟨xb, 1, none⟩ (.int .i64 V.own.z)).setCell ⟨xb, 2, none⟩ (.int .i64 V.own.l))) :=
          Lib.hid ⟨hb, sb, ((hS.set 1 rfl 0 (.int .i64 V.own.e)).set 1 rfl 1 (.int .i64 V.own.z)).set 1 rfl 2 (.int .i64 V.own.l)⟩
        clear hS
        go_upto_region 10 with (fail)
        generalize ((w6.setCell ⟨xb, 0, none⟩ (.int .i64 V.own.e)).setCell ⟨xb, 1, none⟩ (.int .i64 V.own.z)).setCell ⟨xb, 2, none⟩ (.int .i64 V.own.l) = W7 at H6 ⊢
        clear n2 x0 x1 x2 c5 c6 c7 hnb hxb hpb HS6 y0 y1 y2
        obtain ⟨hb, sb, hS⟩ := H6.out
        have n2 := blk_cell (hS.box 0 rfl) 2 (.int .i64 n.ro) rfl
        have x0 := blk_cell (hS.box 1 rfl) 0 (.int .i64 V.own.e) rfl
        have x1 := blk_cell (hS.box 1 rfl) 1 (.int .i64 V.own.z) rfl
        have x2 := blk_cell (hS.box 1 rfl) 2 (.int .i64 V.own.l) rfl
        have c5 := blk_cell (hS.box 2 rfl) 5 (.int .i64 V.own.e) rfl
        have c6 := blk_cell (hS.box 2 rfl) 6 (.int .i64 V.own.z) rfl
        have c7 := blk_cell (hS.box 2 rfl) 7 (.int .i64 V.own.l) rfl
        have hnb := heap_lt (hS.box 0 rfl)
        have hxb := heap_lt (hS.box 1 rfl)
        have hpb := heap_lt (hS.box 2 rfl)
        clear hS
        go_wp2_with fail
        refine (takes_st H6.out.link V.own hme (by show 0 < maxLen; unfold maxLen; decide)).mono ?_
        rintro e w7 ⟨rfl, hS7⟩
        obtain ⟨hb7, sb7, hS8⟩ := HrSt.back hS7
        have HS8 := Lib.hid hS8
        clear n2 x0 x1 x2 c5 c6 c7 hnb hxb hpb H6 hS7 hS8
        go_wp2_with fail
        refine (casts_bx HS8.out 2 rfl (by exact hs0) (by exact hs1)).mono ?_
        rintro e w8 ⟨a8, cap8, rfl, hS9⟩
        go_wp2_with fail
        go_meet
        rw [HC.out.1, HC.out.2]
        exact ⟨a8, cap8, V.own, rfl, hb7, sb7, hS9.perm (List.perm_append_comm_assoc [_] [_, _, _, _, _] l)⟩
    · have HRE : Hid (n.ro = V.round) := Lib.hid (by have := HR.out; omega)
      have g1 : decide (n.ro < V.round) = false := by have := HR.out; simp; omega
      have g2 : decide (V.round < n.ro) = false := by have := hre; simp; omega
      clear hre
      have HR := HRE
      obtain ⟨hb, sb, hS⟩ := HS2.out
      have n2 := blk_cell (hS.box 0 rfl) 2 (.int .i64 n.ro) rfl
      have x0 := blk_cell (hS.box 1 rfl) 0 (.int .i64 n.of.e) rfl
      have x1 := blk_cell (hS.box 1 rfl) 1 (.int .i64 n.of.z) rfl
      have x2 := blk_cell (hS.box 1 rfl) 2 (.int .i64 n.of.l) rfl
      have c3 := blk_cell (hS.box 2 rfl) 3 (.int .i64 V.round) rfl
      have c8 := blk_cell (hS.box 2 rfl) 8 (.int .i64 V.vote.e) rfl
      have c9 := blk_cell (hS.box 2 rfl) 9 (.int .i64 V.vote.z) rfl
      have c10 := blk_cell (hS.box 2 rfl) 10 (.int .i64 V.vote.l) rfl
      have hnb := heap_lt (hS.box 0 rfl)
      have hxb := heap_lt (hS.box 1 rfl)
      have hpb := heap_lt (hS.box 2 rfl)
      clear hS
      go_wp2_with fail
      go_quiet (fail)
      have HS3 := Lib.hid (HS2.out.drewN nq)
      clear n2 x0 x1 x2 c3 c8 c9 c10 hnb hxb hpb HS2
      generalize W3.drewN nq = W4 at HS3 ⊢
      obtain ⟨hb, sb, hS⟩ := HS3.out
      have n2 := blk_cell (hS.box 0 rfl) 2 (.int .i64 n.ro) rfl
      have x0 := blk_cell (hS.box 1 rfl) 0 (.int .i64 n.of.e) rfl
      have x1 := blk_cell (hS.box 1 rfl) 1 (.int .i64 n.of.z) rfl
      have x2 := blk_cell (hS.box 1 rfl) 2 (.int .i64 n.of.l) rfl
      have c3 := blk_cell (hS.box 2 rfl) 3 (.int .i64 V.round) rfl
      have c8 := blk_cell (hS.box 2 rfl) 8 (.int .i64 V.vote.e) rfl
      have c9 := blk_cell (hS.box 2 rfl) 9 (.int .i64 V.vote.z) rfl
      have c10 := blk_cell (hS.box 2 rfl) 10 (.int .i64 V.vote.l) rfl
      have hnb := heap_lt (hS.box 0 rfl)
      have hxb := heap_lt (hS.box 1 rfl)
      have hpb := heap_lt (hS.box 2 rfl)
      clear hS
      go_wp2_with fail
      go_quiet (fail)
      have HS4 := Lib.hid (HS3.out.drewN nq)
      clear n2 x0 x1 x2 c3 c8 c9 c10 hnb hxb hpb HS3
      generalize W4.drewN nq = W5 at HS4 ⊢
      obtain ⟨hb, sb, hS⟩ := HS4.out
      have n2 := blk_cell (hS.box 0 rfl) 2 (.int .i64 n.ro) rfl
      have x0 := blk_cell (hS.box 1 rfl) 0 (.int .i64 n.of.e) rfl
      have x1 := blk_cell (hS.box 1 rfl) 1 (.int .i64 n.of.z) rfl
      have x2 := blk_cell (hS.box 1 rfl) 2 (.int .i64 n.of.l) rfl
      have c3 := blk_cell (hS.box 2 rfl) 3 (.int .i64 V.round) rfl
      have c8 := blk_cell (hS.box 2 rfl) 8 (.int .i64 V.vote.e) rfl
      have c9 := blk_cell (hS.box 2 rfl) 9 (.int .i64 V.vote.z) rfl
      have c10 := blk_cell (hS.box 2 rfl) 10 (.int .i64 V.vote.l) rfl
      have hnb := heap_lt (hS.box 0 rfl)
      have hxb := heap_lt (hS.box 1 rfl)
      have hpb := heap_lt (hS.box 2 rfl)
      clear hS
      go_wp2_with fail
      go_still_tail 5, (by kernel_rfl)
      change wpList _ _ _ _ _ W5.drew
      by_cases hbt : n.of.better V.vote = true
      · have HC : Hid (V.chosen n = V.take n.of ∧ V.answer n = (V.take n.of).casts) := Lib.hid ⟨by rw [Vr.chosen, if_neg (show ¬ V.round < n.ro by have := HR.out; omega), if_pos hbt], by rw [Vr.answer, if_neg (show ¬ V.round < n.ro by have := HR.out; omega), if_pos hbt, Vr.chosen, if_neg (show ¬ V.round < n.ro by have := HR.out; omega), if_pos hbt]⟩
        have HB := Lib.hid hbt
        clear hbt
        go_wp2_with fail
        refine (better_any n.of V.vote W5.drew).mono ?_
        rw [HB.out]
        rintro e w6 ⟨rfl, hm6⟩
        have HS6 : Hid (HrSt w0 nb xb pb n n.of V l w6) := Lib.hid ((HS4.out.drewN 1).mod hm6)
        clear n2 x0 x1 x2 c3 c8 c9 c10 hnb hxb hpb HS4 hm6
        obtain ⟨hb, sb, hS⟩ := HS6.out
        have n2 := blk_cell (hS.box 0 rfl) 2 (.int .i64 n.ro) rfl
        have x0 := blk_cell (hS.box 1 rfl) 0 (.int .i64 n.of.e) rfl
        have x1 := blk_cell (hS.box 1 rfl) 1 (.int .i64 n.of.z) rfl
        have x2 := blk_cell (hS.box 1 rfl) 2 (.int .i64 n.of.l) rfl
        have c3 := blk_cell (hS.box 2 rfl) 3 (.int .i64 V.round) rfl
        have c8 := blk_cell (hS.box 2 rfl) 8 (.int .i64 V.vote.e) rfl
        have c9 := blk_cell (hS.box 2 rfl) 9 (.int .i64 V.vote.z) rfl
        have c10 := blk_cell (hS.box 2 rfl) 10 (.int .i64 V.vote.l) rfl
        have hnb := heap_lt (hS.box 0 rfl)
        have hxb := heap_lt (hS.box 1 rfl)
        have hpb := heap_lt (hS.box 2 rfl)
        clear hS
        go_wp2_with fail
        refine (takes_st HS6.out.link n.of hme (by omega)).mono ?_
        rintro e w7 ⟨rfl, hS7⟩
        obtain ⟨hb7, sb7, hS8⟩ := HrSt.back hS7
        have HS8 := Lib.hid hS8
        clear n2 x0 x1 x2 c3 c8 c9 c10 hnb hxb hpb HS6 hS7 hS8
        go_wp2_with fail
        refine (casts_bx HS8.out 2 rfl (by exact hs0) (by exact hs1)).mono ?_
        rintro e w8 ⟨a8, cap8, rfl, hS9⟩
        go_wp2_with fail
        go_meet
        rw [HC.out.1, HC.out.2]
        exact ⟨a8, cap8, n.of, rfl, hb7, sb7, hS9.perm (List.perm_append_comm_assoc [_] [_, _, _, _, _] l)⟩
      · have hbt : n.of.better V.vote = false := by simpa using hbt
        have HC : Hid (V.chosen n = V ∧ V.answer n = []) := Lib.hid ⟨by rw [Vr.chosen, if_neg (show ¬ V.round < n.ro by have := HR.out; omega), if_neg (by rw [hbt]; simp)], by rw [Vr.answer, if_neg (show ¬ V.round < n.ro by have := HR.out; omega), if_neg (by rw [hbt]; simp)]⟩
        have HB := Lib.hid hbt
        clear hbt
        go_wp2_with fail
        refine (better_any n.of V.vote W5.drew).mono ?_
        rw [HB.out]
        rintro e w6 ⟨rfl, hm6⟩
        have HS6 : Hid (HrSt w0 nb xb pb n n.of V l w6) := Lib.hid ((HS4.out.drewN 1).mod hm6)
        clear n2 x0 x1 x2 c3 c8 c9 c10 hnb hxb hpb HS4 hm6
        go_wp2_with fail
        go_meet
        rw [HC.out.1, HC.out.2]
        obtain ⟨hb7, sb7, hS8⟩ := HS6.out
        exact ⟨none, 0, n.of, rfl, hb7, sb7, (hS8.nilSlice 41 7).perm (List.perm_append_comm_assoc [_] [_, _, _, _, _] l)⟩
  case rest =>
    clear HS2
    obtain ⟨a5, cap5, x, rfl, hS⟩ := hcut
    obtain ⟨h2s, h2n, h2d⟩ := chosen_ok V n hd hm1
    obtain ⟨V2, hV2⟩ : ∃ V2, V.chosen n = V2 := ⟨_, rfl⟩
    rw [hV2] at hS h2s h2n h2d
    have HV2 := Lib.hid hV2
    obtain ⟨xs, hxs⟩ : ∃ xs, V.answer n = xs := ⟨_, rfl⟩
    rw [hxs] at hS ⊢
    obtain ⟨m, hm⟩ : ∃ m, xs.length = m := ⟨_, rfl⟩
    rw [hm] at hS ⊢
    have HXS := Lib.hid hxs
    have HM := Lib.hid hm
    have HS := Lib.hid hS
    have H2D := Lib.hid h2d
    have H2S := Lib.hid h2s
    obtain ⟨k1, hk1⟩ : ∃ k1, V2.heard n.fr = k1 := ⟨_, rfl⟩
    have HK1 := Lib.hid hk1
    clear hS hV2 hxs hm h2d h2s hk1
    go_upto_region 15 with (fail)
    go_cut [7, 8] (fun q r wx => ∃ ob, q = .pointer (some ⟨ob, 0, none⟩) ∧ r = .bool k1.isSome ∧ ∃ hb sb, St w0 wx (bx ob (k1.getD ⟨0, 0, 0⟩).cells.toArray 45 :: bx nb n.cells.toArray 23 :: bx xb x.cells.toArray 45 :: bx pb (V2.cells (some hb) (some sb)) 51 :: mp Try.prog 3 hb V2.hn (vmap V2.heard) :: mp Try.prog 3 sb V2.sn (nmap V2.settled) :: sl 41 7 a5 m cap5 (xs.flatMap Cs.cells) :: l))
    case first =>
      obtain ⟨hb, sb, hS⟩ := HS.out
      have n0 := blk_cell (hS.box 0 rfl) 0 (.int .i64 n.fr) rfl
      have c11 := blk_cell (hS.box 2 rfl) 11 (.map (some hb)) rfl
      have hnb := heap_lt (hS.box 0 rfl)
      have hpb := heap_lt (hS.box 2 rfl)
      have look : ∀ wx : World, MapAt Try.prog 3 wx hb V2.hn (vmap V2.heard) → (Instr.lookup 48 (.map (some hb)) (.int .i64 n.fr) true).run Try.prog wx = .ok (.tuple #[.agg #[.int .i64 (k1.getD ⟨0, 0, 0⟩).e, .int .i64 (k1.getD ⟨0, 0, 0⟩).z, .int .i64 (k1.getD ⟨0, 0, 0⟩).l], .bool k1.isSome]) wx := fun wx hmp => by
        have h := hmp.look keyI mapV true (zeroV _) hfr.1 hfr.2
        rw [h]
        unfold vmap
        rw [HK1.out]
        cases k1 <;> rfl
      have l0 := look _ (hS.mapAt 3 rfl)
      have l1 := look _ (hS.drew.mapAt 3 rfl)
      have hA := hS.box1 #[.int .i64 0, .int .i64 0, .int .i64 0] 45
      have l2 := look _ (hA.mapAt 4 rfl)
      have l3 := look _ (hA.drew.mapAt 4 rfl)
      have HSS := Lib.hid hS
      clear look hA hS
      go_region
      all_goals
        (try go_wp2_with fail)
        go_meet
        exact ⟨wc.heap.size, rfl, rfl, hb, sb, (HSS.out.box1 (k1.getD ⟨0, 0, 0⟩).cells.toArray _).drew⟩
    case rest =>
      clear HS
      obtain ⟨ob, rfl, rfl, hb, sb, hS⟩ := hcut
      obtain ⟨g, hg⟩ : ∃ g, (match k1 with | none => true | some o => !o.better n.of) = g := ⟨_, rfl⟩
      have HG := Lib.hid hg
      have HS := Lib.hid hS
      clear hg hS
      go_upto_region 16 with (fail)
      go_cut [88] (fun v wx => v = .bool g ∧ St w0 wx (bx ob (k1.getD ⟨0, 0, 0⟩).cells.toArray 45 :: bx nb n.cells.toArray 23 :: bx xb x.cells.toArray 45 :: bx pb (V2.cells (some hb) (some sb)) 51 :: mp Try.prog 3 hb V2.hn (vmap V2.heard) :: mp Try.prog 3 sb V2.sn (nmap V2.settled) :: sl 41 7 a5 m cap5 (xs.flatMap Cs.cells) :: l))
      case first =>
        obtain - | o := k1
        · have HGT : Hid (g = true) := Lib.hid HG.out.symm
          clear HG
          go_quiet (fail)
          all_goals
            (try go_wp2_with fail)
            go_meet
            exact ⟨by rw [HGT.out], HS.out.drewN nq⟩
        · have HGT : Hid (g = !o.better n.of) := Lib.hid HG.out.symm
          clear HG
          have hbx := HS.out.box 0 rfl
          have o0 := blk_cell hbx 0 (.int .i64 o.e) rfl
          have o1 := blk_cell hbx 1 (.int .i64 o.z) rfl
          have o2 := blk_cell hbx 2 (.int .i64 o.l) rfl
          have hob := heap_lt hbx
          have hbx := HS.out.box 1 rfl
          have n0 := blk_cell hbx 0 (.int .i64 n.fr) rfl
          have n1 := blk_cell hbx 1 (.int .i64 n.st) rfl
          have n2 := blk_cell hbx 2 (.int .i64 n.ro) rfl
          have n3 := blk_cell hbx 3 (.int .i64 n.le) rfl
          have n4 := blk_cell hbx 4 (.int .i64 n.ep) rfl
          have n5 := blk_cell hbx 5 (.int .i64 n.zx) rfl
          have hnb := heap_lt hbx
          clear hbx
          go_region_held3 (fun w' => w'.cell? ⟨ob, 0, none⟩ = some (.int .i64 o.e) ∧ w'.cell? ⟨ob, 1, none⟩ = some (.int .i64 o.z) ∧ w'.cell? ⟨ob, 2, none⟩ = some (.int .i64 o.l) ∧ w'.cell? ⟨nb, 0, none⟩ = some (.int .i64 n.fr) ∧ w'.cell? ⟨nb, 1, none⟩ = some (.int .i64 n.st) ∧ w'.cell? ⟨nb, 2, none⟩ = some (.int .i64 n.ro) ∧ w'.cell? ⟨nb, 3, none⟩ = some (.int .i64 n.le) ∧ w'.cell? ⟨nb, 4, none⟩ = some (.int .i64 n.ep) ∧ w'.cell? ⟨nb, 5, none⟩ = some (.int .i64 n.zx))
            (first | exact ⟨o0, o1, o2, n0, n1, n2, n3, n4, n5⟩ | exact ⟨r0, r1, r2, r3, r4, r5, r6, r7, r8⟩ | exact ⟨s0, s1, s2, s3, s4, s5, s6, s7, s8⟩ | go_keep)
            ((first
              | (go_at_call 15; refine (of_any n _).mono ?_; rintro e w2 ⟨rfl, hm2⟩; have r0 := hm2.cell o0 id; have r1 := hm2.cell o1 id; have r2 := hm2.cell o2 id; have r3 := hm2.cell n0 id; have r4 := hm2.cell n1 id; have r5 := hm2.cell n2 id; have r6 := hm2.cell n3 id; have r7 := hm2.cell n4 id; have r8 := hm2.cell n5 id)
              | (go_at_call 16; refine (better_any o n.of _).mono ?_; rintro e w4 ⟨rfl, hm4⟩; have s0 := hm4.cell r0 id; have s1 := hm4.cell r1 id; have s2 := hm4.cell r2 id; have s3 := hm4.cell r3 id; have s4 := hm4.cell r4 id; have s5 := hm4.cell r5 id; have s6 := hm4.cell r6 id; have s7 := hm4.cell r7 id; have s8 := hm4.cell r8 id)))
          all_goals
            (try go_wp2_with fail)
            go_meet
            exact ⟨by rw [HGT.out], (HS.out.drew.mod hm2).mod hm4⟩
      case rest =>
        clear HS
        obtain ⟨rfl, hS⟩ := hcut
        have HS := Lib.hid hS
        clear hS
        go_upto_if 88 with (fail)
        go_cut [] (fun wx => ∃ hb sb, St w0 wx (bx ob (k1.getD ⟨0, 0, 0⟩).cells.toArray 45 :: bx nb n.cells.toArray 23 :: bx xb x.cells.toArray 45 :: bx pb ((V2.hear1 n).cells (some hb) (some sb)) 51 :: mp Try.prog 3 hb (V2.hear1 n).hn (vmap (V2.hear1 n).heard) :: mp Try.prog 3 sb (V2.hear1 n).sn (nmap (V2.hear1 n).settled) :: sl 41 7 a5 m cap5 (xs.flatMap Cs.cells) :: l))
        case first =>
          obtain - | - := g
          · have HV3 : Hid (V2.hear1 n = V2) := Lib.hid (by rw [Vr.hear1, HK1.out, HG.out]; rfl)
            clear HG
            go_wp2_with fail
            go_meet
            rw [HV3.out]
            exact ⟨hb, sb, HS.out⟩
          · have HV3 : Hid (V2.hear1 n = { V2 with heard := put1 V2.heard n.fr n.of, hn := V2.hn + 1 }) := Lib.hid (by rw [Vr.hear1, HK1.out, HG.out]; rfl)
            clear HG
            have hbx := HS.out.box 1 rfl
            have n0 := blk_cell hbx 0 (.int .i64 n.fr) rfl
            have n1 := blk_cell hbx 1 (.int .i64 n.st) rfl
            have n2 := blk_cell hbx 2 (.int .i64 n.ro) rfl
            have n3 := blk_cell hbx 3 (.int .i64 n.le) rfl
            have n4 := blk_cell hbx 4 (.int .i64 n.ep) rfl
            have n5 := blk_cell hbx 5 (.int .i64 n.zx) rfl
            have hnb := heap_lt hbx
            have hbx := HS.out.box 3 rfl
            have c11 := blk_cell hbx 11 (.map (some hb)) rfl
            have hpb := heap_lt hbx
            clear hbx
            go_wp2_with fail
            go_region_held3 (fun w' => w'.cell? ⟨nb, 0, none⟩ = some (.int .i64 n.fr) ∧ w'.cell? ⟨nb, 1, none⟩ = some (.int .i64 n.st) ∧ w'.cell? ⟨nb, 2, none⟩ = some (.int .i64 n.ro) ∧ w'.cell? ⟨nb, 3, none⟩ = some (.int .i64 n.le) ∧ w'.cell? ⟨nb, 4, none⟩ = some (.int .i64 n.ep) ∧ w'.cell? ⟨nb, 5, none⟩ = some (.int .i64 n.zx) ∧ w'.cell? ⟨pb, 11, none⟩ = some (.map (some hb)))
              (first | exact ⟨n0, n1, n2, n3, n4, n5, c11⟩ | exact ⟨r0, r1, r2, r3, r4, r5, r6⟩ | exact ⟨s0, s1, s2, s3, s4, s5, s6⟩ | go_keep)
              ((first
                | (go_at_call 15; refine (of_any n _).mono ?_; rintro e w2 ⟨rfl, hm2⟩; have r0 := hm2.cell n0 id; have r1 := hm2.cell n1 id; have r2 := hm2.cell n2 id; have r3 := hm2.cell n3 id; have r4 := hm2.cell n4 id; have r5 := hm2.cell n5 id; have r6 := hm2.cell c11 id; obtain ⟨w9, hup, hmp, hmod⟩ := ((HS.out.drew.mod hm2).mapAt 4 rfl).store keyI mapV (by omega) hfr.1 hfr.2 n.of.agg; have hSd := Lib.hid ((HS.out.drew.mod hm2).remap 4 rfl hmp hmod); clear hmp hmod; simp only [Vt.agg] at hup; have hbs := hSd.out.box 1 rfl; have s0 := blk_cell hbs 0 (.int .i64 n.fr) rfl; have s1 := blk_cell hbs 1 (.int .i64 n.st) rfl; have s2 := blk_cell hbs 2 (.int .i64 n.ro) rfl; have s3 := blk_cell hbs 3 (.int .i64 n.le) rfl; have s4 := blk_cell hbs 4 (.int .i64 n.ep) rfl; have s5 := blk_cell hbs 5 (.int .i64 n.zx) rfl; clear hbs; have hbs := hSd.out.box 3 rfl; have s6 := blk_cell hbs 11 (.map (some hb)) rfl; clear hbs)))
            all_goals
              (try go_wp2_with fail)
              go_meet
              rw [HV3.out]
              have h := hSd.out
              rw [show upd (vmap V2.heard) n.fr (some n.of.agg) = vmap (put1 V2.heard n.fr n.of) from vmap_put _ _ _] at h
              exact ⟨hb, sb, h⟩
        case rest =>
          clear HS
          obtain ⟨hb, sb, hS⟩ := hcut
          have HS := Lib.hid (St.revr (V2.hear1 n) (hS.perm (List.perm_append_comm_assoc [_, _, _] [_, _, _] _)))
          clear hS
          go_wp2_with fail
          have hk := hear1_ok V2 n V.servers H2D.out hf1
          refine (counts_st HS.out (by rw [hk.1, H2S.out]; exact hs0) (by rw [hk.1, H2S.out]; exact hs1) (by rw [hk.1, H2S.out]; exact hk.2)).mono ?_
          clear hk
          rintro e w7 ⟨rfl, hS8⟩
          go_wp2
          go_ret
          rw [HV2.out, HXS.out]
          refine ⟨a5, cap5, by rw [HM.out]; rfl, ?_⟩
          rw [HM.out]
          exact (hS8.perm (List.perm_append_comm_assoc [_] [_, _, _] _)).tail.tail.tail.perm (.swap _ _ _)
end Go.Proofs.Ytmikenagaihoiaa
