/-
  A voter: hears (a note of an older round); Hear's closure.
  No condition beyond the contracts' own.
-/
import Derived.Test.YtmikenagaihoiaaVoteE
namespace Go.Proofs.Ytmikenagaihoiaa
open Go.RowKit
set_option linter.unusedSectionVars false
set_option linter.unusedSimpArgs false
set_option linter.unusedVariables false

theorem one_slice {w0 w : World} {l : List Thing} (h : St w0 w l) (c : Cs) : St w0 (w.alloc (.cells c.cells.toArray 41)) (sl 41 7 (some ⟨w.heap.size, 0, none⟩) 1 1 ([c].flatMap Cs.cells) :: l) := by
  have hbx := (h.box1 c.cells.toArray 41).box 0 rfl
  have hs := Sl.new (E := 41) (k := 7) (n := 1) (c := c.cells.toArray) hbx rfl (by unfold maxLen; omega)
  have h2 := h.newSlice ((Mod.refl _ w).alloc _) hs (fun b hb => by simp [own] at hb; omega)
  rw [show [c].flatMap Cs.cells = c.cells.toArray.toList by simp]
  exact h2
theorem one_back {w0 w : World} {pb nb xb hb sb : Nat} {V : Vr} {n x : Array Value} {l : List Thing} {N X : TypeId} (h : St w0 w (bx nb n N :: bx xb x X :: bx pb (V.cells (some hb) (some sb)) 51 :: mp Try.prog 3 hb V.hn (vmap V.heard) :: mp Try.prog 3 sb V.sn (nmap V.settled) :: l)) (c : Cs) :
    St w0 (w.alloc (.cells c.cells.toArray 41)) (sl 41 7 (some ⟨w.heap.size, 0, none⟩) 1 1 ([c].flatMap Cs.cells) :: vr pb V :: l) :=
  (St.revr V (((one_slice h c).perm (List.perm_append_comm_assoc [_] [_, _] _)).tail.tail.perm (List.perm_append_comm_assoc [_] [_, _, _] l))).perm (.swap _ _ _)

set_option maxRecDepth 100000 in
set_option maxHeartbeats 4000000 in
theorem hears_less {w0 w : World} {pb : Nat} {V : Vr} {l : List Thing} (h : St w0 w (vr pb V :: l)) (n : No) (hr : n.ro < V.round) :
    Calls Try.prog 22 #[.pointer (some ⟨pb, 0, none⟩), n.agg] w (StCs w0 [⟨n.fr, V.note⟩] (vr pb V :: l)) := by
  obtain ⟨hb, sb, hS⟩ := h.unvr
  have hT := hS.box1 n.cells.toArray 23
  have HT := Lib.hid hT
  have HR := Lib.hid hr
  clear h hS hT hr
  simp only [No.agg]
  go_enter Try.func22, Try.ntmps22
  go_upto_region 2 with (fail)
  change Code.wp _ _ _ _ (w.alloc (.cells n.cells.toArray 23))
  generalize w.alloc (.cells n.cells.toArray 23) = W at HT ⊢
  generalize w.heap.size = nb at HT ⊢
  have hbx := HT.out.box 0 rfl
  have n0 := blk_cell hbx 0 (.int .i64 n.fr) rfl
  have n1 := blk_cell hbx 1 (.int .i64 n.st) rfl
  have n2 := blk_cell hbx 2 (.int .i64 n.ro) rfl
  have n3 := blk_cell hbx 3 (.int .i64 n.le) rfl
  have n4 := blk_cell hbx 4 (.int .i64 n.ep) rfl
  have n5 := blk_cell hbx 5 (.int .i64 n.zx) rfl
  have hnb := heap_lt hbx
  clear hbx
  go_wp2_with fail
  refine (of_any n W).mono ?_
  rintro e w2 ⟨rfl, hm2⟩
  have hS2 := (HT.out.mod hm2).box1 n.of.cells.toArray 45
  have HS2 : Hid (HrSt w0 nb w2.heap.size pb n n.of V l (w2.alloc (.cells n.of.cells.toArray 45))) := Lib.hid ⟨hb, sb, hS2.swap2⟩
  clear HT n0 n1 n2 n3 n4 n5 hnb hS2 hm2
  go_upto_region 3 with (fail)
  change Code.wp _ _ _ _ (w2.alloc (.cells n.of.cells.toArray 45))
  generalize w2.alloc (.cells n.of.cells.toArray 45) = W3 at HS2 ⊢
  generalize w2.heap.size = xb at HS2 ⊢
  have g1 : decide (n.ro < V.round) = true := by have := HR.out; simp; omega
  obtain ⟨hb, sb, hS⟩ := HS2.out
  have n2 := blk_cell (hS.box 0 rfl) 2 (.int .i64 n.ro) rfl
  have c3 := blk_cell (hS.box 2 rfl) 3 (.int .i64 V.round) rfl
  have hnb := heap_lt (hS.box 0 rfl)
  have hpb := heap_lt (hS.box 2 rfl)
  clear hS
  go_quiet (fail)
  have HS3 := Lib.hid (HS2.out.drewN nq)
  clear n2 c3 hnb hpb HS2
  generalize W3.drewN nq = W4 at HS3 ⊢
  obtain ⟨hb, sb, hS⟩ := HS3.out
  have n0 := blk_cell (hS.box 0 rfl) 0 (.int .i64 n.fr) rfl
  have hnb := heap_lt (hS.box 0 rfl)
  have HS4 := Lib.hid hS
  clear hS HS3
  go_wp2_with fail
  go_region_held3 (fun w' => w'.cell? ⟨nb, 0, none⟩ = some (.int .i64 n.fr))
    (first | exact n0 | exact r0 | go_keep)
    ((first
      | (go_at_call 21; refine (note_bx HS4.out.drew 2 rfl).mono ?_; rintro e w5 ⟨rfl, hS5⟩; have r0 := blk_cell (hS5.box 0 rfl) 0 (.int .i64 n.fr) rfl)))
  all_goals
    (try go_wp2)
    go_ret
    exact ⟨_, 1, rfl, one_back hS5 ⟨n.fr, V.note⟩⟩

/-- The closure of Hear. -/
def Vr.knows (V : Vr) (i : Int) : Bool := decide (1 ≤ i) && decide (i ≤ V.servers)
theorem is_any (i : Int) (tb pb : Nat) (V : Vr) (hb sb : Option Nat) (w : World) (ht : w.heap[tb]? = some (.cells #[.pointer (some ⟨pb, 0, none⟩)] 29 (0, 0))) (hv : w.heap[pb]? = some (.cells (V.cells hb sb) 51 (0, 0))) :
    Calls Try.prog 20 #[.int .i64 i, .pointer (some ⟨tb, 0, none⟩)] w (RetPost (.bool (V.knows i)) w) := by
  have t0 := blk_cell ht 0 (.pointer (some ⟨pb, 0, none⟩)) rfl
  have c1 := blk_cell hv 1 (.int .i64 V.servers) rfl
  have htb := heap_lt ht
  have hpb := heap_lt hv
  clear ht hv
  obtain ⟨v, hv⟩ : ∃ v, V.knows i = v := ⟨_, rfl⟩
  rw [hv]
  have HE := Lib.hid hv
  clear hv
  by_cases h1 : 1 ≤ i
  · have g1 : decide (1 ≤ i) = true := by simpa using h1
    by_cases h2 : i ≤ V.servers
    · have g2 : decide (i ≤ V.servers) = true := by simpa using h2
      have HV : Hid (v = true) := Lib.hid (by rw [← HE.out]; simp [Vr.knows, h1, h2])
      clear h1 h2 HE
      go_enter Try.func20, Try.ntmps20
      go_wp2
      go_ret
      rw [HV.out]
      exact ⟨rfl, rfl⟩
    · have g2 : decide (i ≤ V.servers) = false := by simpa using h2
      have HV : Hid (v = false) := Lib.hid (by rw [← HE.out]; simp [Vr.knows, h1, h2])
      clear h1 h2 HE
      go_enter Try.func20, Try.ntmps20
      go_wp2
      go_ret
      rw [HV.out]
      exact ⟨rfl, rfl⟩
  · have g1 : decide (1 ≤ i) = false := by simpa using h1
    have HV : Hid (v = false) := Lib.hid (by rw [← HE.out]; simp [Vr.knows, h1])
    clear h1 HE
    go_enter Try.func20, Try.ntmps20
    go_wp2
    go_ret
    rw [HV.out]
    exact ⟨rfl, rfl⟩
end Go.Proofs.Ytmikenagaihoiaa
