/-
  Contracts and plain laws of WatchC.
  Conditions: each law states its own.
-/
import Derived.Test.YtonnbkebjeoflaaGreatDoorJ21
set_option linter.unusedSectionVars false
set_option linter.unusedSimpArgs false
set_option linter.unusedVariables false
set_option maxRecDepth 100000
namespace Go.Proofs.YtonnbkebjeoflaaGreatDoor
open Go.RowKit Go.Maps
theorem perm_take {W : List Wt} (hn : W.Nodup) {x : Wt} (hx : x ∈ W) : W.Perm (x :: W.filter fun y => decide (y ≠ x)) := by
 induction W with
 | nil => cases hx
 | cons a W ih =>
   rw [List.nodup_cons] at hn
   by_cases ha : a = x
   ·subst ha
    have : (W.filter fun y => decide (y ≠ a)) = W := List.filter_eq_self.2 fun y hy => by
     simp only [decide_eq_true_eq]
     intro e
     exact hn.1 (e ▸ hy)
    rw [List.filter_cons, this]
    simp
   ·have hx' : x ∈ W := by
     rcases List.mem_cons.1 hx with h | h
     ·exact absurd h.symm ha
     ·exact h
    rw [List.filter_cons, if_pos (by simpa using ha)]
    exact ((ih hn.2 hx').cons a).trans (.swap _ _ _)
theorem count_perm {W V : List Wt} (h : W.Perm V) (s : Int) : Watch.count W s = Watch.count V s := (h.filter _).length_eq
theorem count_cons (x : Wt) (W : List Wt) (s : Int) : Watch.count (x :: W) s = Watch.count W s + (if x.who = s then 1 else 0) := by
 unfold Watch.count
 rw [List.filter_cons]
 by_cases h : x.who = s
 ·simp [h]
 ·simp [h]
theorem count_less {W : List Wt} (hn : W.Nodup) {x : Wt} (hx : x ∈ W) (s : Int) : Watch.count W s = Watch.count (W.filter fun y => decide (y ≠ x)) s + (if x.who = s then 1 else 0) := by
 rw [count_perm (perm_take hn hx) s, count_cons]
theorem wlist_cons (s : Spot) (r : WR) (R : List (Spot × WR)) : wlist ((s, r) :: R) = (r.l.map fun i => ⟨s.kind, s.path, i⟩) ++ wlist R := by unfold wlist; rw [List.flatMap_cons]
theorem wlist_perm {R Q : List (Spot × WR)} (h : R.Perm Q) : (wlist R).Perm (wlist Q) := h.flatMap_right _
theorem wlist_less {R : List (Spot × WR)} (hn : (R.map (·.1)).Nodup) {s : Spot} {r : WR} (hr : getK R s = some r) (i : Int) :
 ((wlist R).filter fun y => decide (y ≠ ⟨s.kind, s.path, i⟩)).Perm (wlist ((s, { r with l := r.l.filter fun j => decide (j ≠ i) }) :: delK R s)) := by
 refine ((wlist_perm (perm_delK hn hr)).filter _).trans ?_
 rw [wlist_cons, wlist_cons, List.filter_append]
 have h1 : ((r.l.map fun i => (⟨s.kind, s.path, i⟩ : Wt)).filter fun y => decide (y ≠ ⟨s.kind, s.path, i⟩)) = ((r.l.filter fun j => decide (j ≠ i)).map fun i => ⟨s.kind, s.path, i⟩) := by
  rw [List.filter_map]
  congr 1
  refine List.filter_congr fun j _ => ?_
  simp [Function.comp]
 have h2 : ((wlist (delK R s)).filter fun y => decide (y ≠ ⟨s.kind, s.path, i⟩)) = wlist (delK R s) := List.filter_eq_self.2 fun y hy => by
  simp only [decide_eq_true_eq]
  rintro rfl
  obtain ⟨p, hp, h3, _⟩ := mem_wlist.1 hy
  have := (List.mem_filter.1 hp).2
  simp [h3] at this
 rw [h1, h2]
theorem wlist_nil (s : Spot) (r : WR) (R : List (Spot × WR)) (h : r.l = []) : wlist ((s, r) :: R) = wlist R := by rw [wlist_cons, h]; rfl
theorem WD.tells.manyLen {d : WD} {W : List Wt} (h : d.tells W) (hn : (d.many.map (·.1)).Nodup) : d.many.length ≤ W.length := by
 have h1 : d.many.map (·.1) ⊆ W.map Wt.who := by
  intro k hk
  cases hg : getK d.many k with
  | none => exact absurd hk (getK_none.1 hg)
  | some v =>
    rw [h.many k] at hg
    by_cases hc : Watch.count W k = 0
    ·rw [if_pos hc] at hg; cases hg
    ·have : 0 < (W.filter fun x => decide (x.who = k)).length := Nat.pos_of_ne_zero hc
     obtain ⟨x, hx⟩ := List.exists_mem_of_length_pos this
     rw [List.mem_filter] at hx
     exact List.mem_map.2 ⟨x, hx.1, by simpa using hx.2⟩
 have := List.Nodup.length_le_of_subset hn h1
 rwa [List.length_map, List.length_map] at this
theorem WD.tells.less {d : WD} {W : List Wt} (h : d.tells W) (hn : (d.recs.map (·.1)).Nodup) {s : Spot} {r : WR} (hr : getK d.recs s = Option.some r) {i : Int} (hi : (⟨s.kind, s.path, i⟩ : Wt) ∈ W) {R : List (Spot × WR)} {M : List (Int × Int)}
 (hR : R = if (r.l.filter fun j => decide (j ≠ i)) = [] then delK d.recs s else (s, { r with l := r.l.filter fun j => decide (j ≠ i) }) :: delK d.recs s)
 (hM : ∀ z, getK M z = if z = i then (if Watch.count W i = 1 then none else Option.some ((Watch.count W i : Int) - 1)) else getK d.many z) {bb mb : Nat} :
 (⟨bb, mb, R, M⟩ : WD).tells (W.filter fun y => decide (y ≠ ⟨s.kind, s.path, i⟩)) := by
 have hc := fun z => count_less h.nodup hi z
 refine ⟨?_, ?_, fun z => ?_, fun z => ?_, h.nodup.sublist List.filter_sublist⟩
 ·refine (h.perm.filter _).trans ((wlist_less hn hr i).trans ?_)
  show (wlist _).Perm (wlist R)
  rw [hR]
  split
  ·rename_i h0
   rw [wlist_nil _ _ _ h0]
  ·exact .refl _
 ·intro p hp
  show p.2.l ≠ []
  change p ∈ R at hp
  rw [hR] at hp
  split at hp
  ·exact h.some p ((delK_sub _ _).subset hp)
  ·rename_i h0
   rcases List.mem_cons.1 hp with rfl | hp
   ·exact h0
   ·exact h.some p ((delK_sub _ _).subset hp)
 ·show getK M z = _
  rw [hM z]
  have hz := hc z
  by_cases hzi : z = i
  ·subst hzi
   rw [if_pos rfl]
   simp only [if_pos] at hz ⊢
   rw [hz]
   by_cases h1 : Watch.count (W.filter fun y => decide (y ≠ ⟨s.kind, s.path, z⟩)) z = 0
   ·rw [if_pos (by omega), if_pos h1]
   ·rw [if_neg (by omega), if_neg h1]
    congr 1
    push_cast
    omega
  ·rw [if_neg hzi, h.many z, hz]
   have : ¬ (i = z) := fun e => hzi e.symm
   simp only [if_neg this, Nat.add_zero]
 ·have := h.few z
  have := hc z
  omega
set_option maxHeartbeats 8000000 in
theorem gone_st {w0 w : World} {l : List Thing} (wb : Nat) (W : List Wt) (h : St w0 w (wtb wb W :: l)) (s : Spot) (i : Int) (hi : okInt i) (hin : (⟨s.kind, s.path, i⟩ : Wt) ∈ W) (hWl : W.length ≤ 1000000) :
 Calls Tryz.prog 109 #[.pointer (some ⟨wb, 0, none⟩), .agg #[.int .i64 s.kind, .string s.path], .int .i64 i] w (StPost (.tuple #[]) w0 (wtb wb (W.filter fun y => decide (y ≠ ⟨s.kind, s.path, i⟩)) :: l)) := by
 obtain ⟨d, ht, hn, hS⟩ := h.openW
 obtain ⟨r, hr, hil⟩ := (mem_recs hn).1 (ht.perm.mem_iff.1 hin)
 have h0 : St w0 w (r.own :: grp ((delK d.recs s).map fun p => p.2.own) :: bx wb #[.map (some d.bb), .map (some d.mb)] 181 :: mpl kbSpot d.bb (d.recs.map fun p => (p.1, .map (some p.2.b))) :: mpl kbI d.mb (d.many.map fun p => (p.1, .int .i64 p.2)) :: l) :=
  ((hS.perm (List.perm_append_comm_assoc [_, _, _] [_] l)).wOut hn hr)
 obtain ⟨c, hc⟩ : ∃ c, Watch.count W i = c := ⟨_, rfl⟩
 have hc1 : 1 ≤ c := by have := count_less ht.nodup hin i; rw [hc] at this; simp at this; omega
 have hc64 : c ≤ 64 := by rw [← hc]; exact ht.few i
 have hmany : getK d.many i = some (c : Int) := by rw [ht.many i, hc, if_neg (by omega)]
 have hmn : (d.many.map (·.1)).Nodup := by
  have := (hS.mapL 2 rfl).nodup
  rw [List.map_map] at this
  exact this
 have HML : Hid ((d.many.map fun p => (p.1, Value.int .i64 p.2)).length < maxLen) := Lib.hid (by rw [List.length_map]; have := ht.manyLen hmn; unfold maxLen; omega)
 have HB := Lib.hid (h0.box1 #[.int .i64 s.kind, .string s.path] 206)
 have HT := Lib.hid ht
 have HN := Lib.hid hn
 have HR := Lib.hid hr
 have HI := Lib.hid hi
 have HIN := Lib.hid hin
 have HC := Lib.hid (And.intro hc (And.intro hmany (And.intro hc1 hc64)))
 have hlb : (getK (d.recs.map fun p => (p.1, Value.map (some p.2.b))) s).getD (.map none) = .map (some r.b) := by
  have e := getK_map (fun q : WR => Value.map (some q.b)) d.recs s
  rw [hr] at e
  simp only [Option.map_some] at e
  rw [e]; rfl
 have HLB := Lib.hid hlb
 clear h ht hn hS hr hil h0 hc hmany hi hin hlb hmn hWl
 go_enter Tryz.func109, Tryz.ntmps109
 go_upto_region 1 with (fail)
 generalize hW : w.alloc _ = V at HB ⊢
 generalize w.heap.size = xb at HB ⊢
 clear hW
 have KP : Hid (∀ (w' : World) (A B C D : Thing) (G : List Thing), St w0 w' (bx xb #[.int .i64 s.kind, .string s.path] 206 :: A :: B :: bx wb #[.map (some d.bb), .map (some d.mb)] 181 :: G) → w'.cell? ⟨wb, 0, none⟩ = some (.map (some d.bb)) ∧ w'.cell? ⟨xb, 0, none⟩ = some (.int .i64 s.kind) ∧ w'.cell? ⟨xb, 1, none⟩ = some (.string s.path)) := Lib.hid fun w' A B C D G h => ⟨blk_cell (h.box 3 rfl) 0 _ rfl, blk_cell (h.box 0 rfl) 0 _ rfl, blk_cell (h.box 0 rfl) 1 _ rfl⟩
 have HA := Lib.hid HB.out.drew
 have zw := heap_lt (HB.out.box 3 rfl)
 have zx := heap_lt (HB.out.box 0 rfl)
 have hL : (Instr.lookup 178 (.map (some d.bb)) (.agg #[.int .i64 s.kind, .string s.path]) false).run Tryz.prog V.drew = .ok (.map (some r.b)) V.drew := by
  have := (HA.out.mapL 4 rfl).look mapBy false (zeroMapI V.drew) (x := s) trivial
  rw [HLB.out] at this
  exact this
 obtain ⟨w2, hD, hm2, hM2⟩ := (HA.out.mapL 1 rfl).del mapInts (x := i) HI.out 0
 rw [show kbI.inj i = Value.int .i64 i from rfl] at hD
 have hl2 : delK r.ents i = WR.ents { r with l := r.l.filter fun j => decide (j ≠ i) } := by
  unfold delK WR.ents
  rw [List.filter_map]
  rfl
 rw [hl2] at hm2
 have H2 := Lib.hid (HA.out.remapL 1 rfl hm2 hM2)
 clear hm2 hM2 hl2 HB
 go_region_held3 (fun w' => w'.cell? ⟨wb, 0, none⟩ = some (.map (some d.bb)) ∧ w'.cell? ⟨xb, 0, none⟩ = some (.int .i64 s.kind) ∧ w'.cell? ⟨xb, 1, none⟩ = some (.string s.path))
  (first | exact KP.out _ _ _ no no _ HA.out | exact KP.out _ _ _ no no _ H2.out)
  (fail)
 obtain ⟨r2, hr2⟩ : ∃ r2 : WR, ({ r with l := r.l.filter fun j => decide (j ≠ i) } : WR) = r2 := ⟨_, rfl⟩
 have H3 : Hid (St w0 w2 (bx xb #[.int .i64 s.kind, .string s.path] 206 :: r2.own :: grp ((delK d.recs s).map fun p => p.2.own) :: bx wb #[.map (some d.bb), .map (some d.mb)] 181 :: mpl kbSpot d.bb (d.recs.map fun p => (p.1, .map (some p.2.b))) :: mpl kbI d.mb (d.many.map fun p => (p.1, .int .i64 p.2)) :: l)) := by rw [← hr2]; exact H2
 have HR2 := Lib.hid hr2
 clear H2 HA hL hD hr2 zw zx
 have HA := Lib.hid H3.out.drew
 have zw := heap_lt (H3.out.box 3 rfl)
 have zx := heap_lt (H3.out.box 0 rfl)
 have hL : (Instr.lookup 178 (.map (some d.bb)) (.agg #[.int .i64 s.kind, .string s.path]) false).run Tryz.prog w2.drew = .ok (.map (some r2.b)) w2.drew := by
  have := (HA.out.mapL 4 rfl).look mapBy false (zeroMapI w2.drew) (x := s) trivial
  rw [HLB.out] at this
  rw [← HR2.out]
  exact this
 have hlen : r2.ents.length = r2.l.length := List.length_map _
 have hLn : ∀ W : World, MapL kbI W r2.b r2.ents → (Builtin.len_ #[179] 3 #[.map (some r2.b)]).run Tryz.prog W = .ok (.int .i64 r2.l.length) W := by
  intro W hW
  have := hW.len mapInts 3
  rw [hlen] at this
  exact this
 clear hlen
 go_wp2
 go_region_held3 (fun w' => MapL kbI w' r2.b r2.ents ∧ w'.cell? ⟨wb, 0, none⟩ = some (.map (some d.bb)) ∧ w'.cell? ⟨xb, 0, none⟩ = some (.int .i64 s.kind) ∧ w'.cell? ⟨xb, 1, none⟩ = some (.string s.path))
  (exact ⟨HA.out.mapL 1 rfl, KP.out _ _ _ no no _ HA.out⟩)
  (fail)
 clear hL hLn H3
 generalize w2.drew = W2 at HA ⊢
 by_cases h0 : r2.l = []
 ·have hl0 : r2.l.length = 0 := by rw [h0]; rfl
  have H0 := Lib.hid h0
  rw [hl0]
  clear h0 hl0
  go_upto_region 3 with (fail)
  have HB2 := Lib.hid HA.out.drew
  have zw := heap_lt (HA.out.box 3 rfl)
  have zx := heap_lt (HA.out.box 0 rfl)
  obtain ⟨w5, hD, hm5, hM5⟩ := (HB2.out.mapL 4 rfl).del mapBy (x := s) trivial 0
  rw [show kbSpot.inj s = Value.agg #[.int .i64 s.kind, .string s.path] from rfl] at hD
  have hdk := delK_map (fun q : WR => Value.map (some q.b)) d.recs s
  rw [hdk] at hm5
  have H4 : Hid (St w0 w5 (bx xb #[.int .i64 s.kind, .string s.path] 206 :: r2.own :: grp ((delK d.recs s).map fun p => p.2.own) :: bx wb #[.map (some d.bb), .map (some d.mb)] 181 :: mpl kbSpot d.bb ((delK d.recs s).map fun p => (p.1, .map (some p.2.b))) :: mpl kbI d.mb (d.many.map fun p => (p.1, .int .i64 p.2)) :: l)) := Lib.hid (HB2.out.remapL 4 rfl hm5 hM5)
  clear hm5 hM5 hdk
  go_region_held3 (fun w' => w'.cell? ⟨wb, 0, none⟩ = some (.map (some d.bb)) ∧ w'.cell? ⟨xb, 0, none⟩ = some (.int .i64 s.kind) ∧ w'.cell? ⟨xb, 1, none⟩ = some (.string s.path))
   (first | exact KP.out _ _ _ no no _ HB2.out | exact KP.out _ _ _ no no _ H4.out)
   (fail)
  clear HB2 HA hD zw zx KP
  have HMN := Lib.hid (show (getK (d.many.map fun p => (p.1, Value.int .i64 p.2)) i).getD (.int .i64 0) = .int .i64 c by
   have e := getK_map (fun q : Int => Value.int .i64 q) d.many i
   rw [HC.out.2.1] at e
   simp only [Option.map_some] at e
   rw [e]; rfl)
  have hw1 : IntKind.i64.wrap ((c : Int) - 1) = (c : Int) - 1 := by simp [IntKind.wrap, IntKind.bits, IntKind.signed]; omega
  have w1 := blk_cell (H4.out.box 3 rfl) 1 (.map (some d.mb)) rfl
  have zw := heap_lt (H4.out.box 3 rfl)
  have TX := Lib.hid trivial
  go_upto_region 5 with (first
   | (clear TX; (with_reducible refine at_list ?_); refine wpList_lookL (B := kbI) mapInts d.mb _ (H4.out.mapL 5 rfl) rfl (zeroInt _) i rfl HI.out _ HMN.out ?_)
   | ((with_reducible refine at_list ?_); refine wpList_putL (B := kbI) mapInts d.mb _ (H4.out.mapL 5 rfl) rfl HML.out i rfl HI.out (.int .i64 ((c : Int) - 1)) rfl ?_; intro w6 hm6 hM6; have H6 : Hid (St w0 w6 (bx xb #[.int .i64 s.kind, .string s.path] 206 :: r2.own :: grp ((delK d.recs s).map fun p => p.2.own) :: bx wb #[.map (some d.bb), .map (some d.mb)] 181 :: mpl kbSpot d.bb ((delK d.recs s).map fun p => (p.1, .map (some p.2.b))) :: mpl kbI d.mb (putK (d.many.map fun p => (p.1, Value.int .i64 p.2)) i (.int .i64 ((c : Int) - 1))) :: l)) := Lib.hid (H4.out.remapL 5 rfl hm6 hM6); clear hm6 hM6))
  clear H4 HMN hw1 w1 zw
  by_cases hc2 : c = 1
  ·subst hc2
   have HMN2 := Lib.hid (show (getK (putK (d.many.map fun p => (p.1, Value.int .i64 p.2)) i (.int .i64 (((1 : Nat) : Int) - 1))) i).getD (.int .i64 0) = .int .i64 0 by rw [getK_putK, if_pos rfl]; rfl)
   have w1 := blk_cell (H6.out.box 3 rfl) 1 (.map (some d.mb)) rfl
   have zw := heap_lt (H6.out.box 3 rfl)
   go_wp2_with (first
    | ((with_reducible refine at_list ?_); refine wpList_lookL (B := kbI) mapInts d.mb _ (H6.out.mapL 5 rfl) rfl (zeroInt _) i rfl HI.out _ HMN2.out ?_)
    | ((with_reducible refine at_list ?_); refine wpList_delL (B := kbI) mapInts d.mb _ (H6.out.mapL 5 rfl) rfl i rfl HI.out ?_; intro w7 hm7 hM7; have H7 := Lib.hid (H6.out.remapL 5 rfl hm7 hM7); clear hm7 hM7))
   go_end0
   refine ⟨rfl, ?_⟩
   have h7 := H7.out
   simp only [List.set_cons_succ, List.set_cons_zero] at h7
   have hmm : delK (putK (d.many.map fun p => (p.1, Value.int .i64 p.2)) i (.int .i64 (((1 : Nat) : Int) - 1))) i = (delK d.many i).map fun p => (p.1, Value.int .i64 p.2) := by
    have e1 : delK (putK (d.many.map fun p => (p.1, Value.int .i64 p.2)) i (.int .i64 (((1 : Nat) : Int) - 1))) i = delK (d.many.map fun p => (p.1, Value.int .i64 p.2)) i := by
     unfold putK delK
     rw [List.filter_append, List.filter_filter]
     simp
    rw [e1]
    exact delK_map (fun q : Int => Value.int .i64 q) d.many i
   rw [hmm] at h7
   refine St.shutW ⟨d.bb, d.mb, delK d.recs s, delK d.many i⟩ (HT.out.less HN.out HR.out HIN.out (by rw [if_pos (by rw [← H0.out, ← HR2.out])]) (fun z => ?_)) ?_
   ·rw [getK_delK, HC.out.1]
    by_cases hz : z = i
    ·rw [if_pos hz, if_pos hz, if_pos rfl]
    ·rw [if_neg hz, if_neg hz]
   ·exact h7.tail.tail.perm (List.perm_append_comm_assoc [_] [_, _, _] l)
  ·have hc3 : ((c : Int) - 1 == 0) = false := by simp; omega
   have HMN2 := Lib.hid (show (getK (putK (d.many.map fun p => (p.1, Value.int .i64 p.2)) i (.int .i64 ((c : Int) - 1))) i).getD (.int .i64 0) = .int .i64 ((c : Int) - 1) by rw [getK_putK, if_pos rfl]; rfl)
   have w1 := blk_cell (H6.out.box 3 rfl) 1 (.map (some d.mb)) rfl
   have zw := heap_lt (H6.out.box 3 rfl)
   have HC2 := Lib.hid hc2
   clear hc2
   go_wp2_with ((with_reducible refine at_list ?_); refine wpList_lookL (B := kbI) mapInts d.mb _ (H6.out.mapL 5 rfl) rfl (zeroInt _) i rfl HI.out _ HMN2.out ?_)
   go_end0
   refine ⟨rfl, ?_⟩
   have h7 := H6.out
   have hmm : putK (d.many.map fun p => (p.1, Value.int .i64 p.2)) i (.int .i64 ((c : Int) - 1)) = (putK d.many i ((c : Int) - 1)).map fun p => (p.1, Value.int .i64 p.2) := putK_map (fun q : Int => Value.int .i64 q) d.many i _
   rw [hmm] at h7
   refine St.shutW ⟨d.bb, d.mb, delK d.recs s, putK d.many i ((c : Int) - 1)⟩ (HT.out.less HN.out HR.out HIN.out (by rw [if_pos (by rw [← H0.out, ← HR2.out])]) (fun z => ?_)) ?_
   ·rw [getK_putK, HC.out.1]
    by_cases hz : z = i
    ·rw [if_pos hz, if_pos hz, if_neg HC2.out]
    ·rw [if_neg hz, if_neg hz]
   ·exact h7.tail.tail.perm (List.perm_append_comm_assoc [_] [_, _, _] l)
 ·have hl0 : ((r2.l.length : Int) == 0) = false := by
   have : r2.l.length ≠ 0 := fun h => h0 (List.eq_nil_of_length_eq_zero h)
   simp; omega
  have H0 := Lib.hid h0
  clear h0
  go_upto_region 4 with (fail)
  have HMN := Lib.hid (show (getK (d.many.map fun p => (p.1, Value.int .i64 p.2)) i).getD (.int .i64 0) = .int .i64 c by
   have e := getK_map (fun q : Int => Value.int .i64 q) d.many i
   rw [HC.out.2.1] at e
   simp only [Option.map_some] at e
   rw [e]; rfl)
  have hw1 : IntKind.i64.wrap ((c : Int) - 1) = (c : Int) - 1 := by simp [IntKind.wrap, IntKind.bits, IntKind.signed]; omega
  have w1 := blk_cell (HA.out.box 3 rfl) 1 (.map (some d.mb)) rfl
  have zw := heap_lt (HA.out.box 3 rfl)
  have TX := Lib.hid trivial
  go_upto_region 5 with (first
   | (clear TX; (with_reducible refine at_list ?_); refine wpList_lookL (B := kbI) mapInts d.mb _ (HA.out.mapL 5 rfl) rfl (zeroInt _) i rfl HI.out _ HMN.out ?_)
   | ((with_reducible refine at_list ?_); refine wpList_putL (B := kbI) mapInts d.mb _ (HA.out.mapL 5 rfl) rfl HML.out i rfl HI.out (.int .i64 ((c : Int) - 1)) rfl ?_; intro w6 hm6 hM6; have H6 : Hid (St w0 w6 (bx xb #[.int .i64 s.kind, .string s.path] 206 :: r2.own :: grp ((delK d.recs s).map fun p => p.2.own) :: bx wb #[.map (some d.bb), .map (some d.mb)] 181 :: mpl kbSpot d.bb (d.recs.map fun p => (p.1, .map (some p.2.b))) :: mpl kbI d.mb (putK (d.many.map fun p => (p.1, Value.int .i64 p.2)) i (.int .i64 ((c : Int) - 1))) :: l)) := Lib.hid (HA.out.remapL 5 rfl hm6 hM6); clear hm6 hM6))
  clear HA HMN hw1 w1 zw
  by_cases hc2 : c = 1
  ·subst hc2
   have HMN2 := Lib.hid (show (getK (putK (d.many.map fun p => (p.1, Value.int .i64 p.2)) i (.int .i64 (((1 : Nat) : Int) - 1))) i).getD (.int .i64 0) = .int .i64 0 by rw [getK_putK, if_pos rfl]; rfl)
   have w1 := blk_cell (H6.out.box 3 rfl) 1 (.map (some d.mb)) rfl
   have zw := heap_lt (H6.out.box 3 rfl)
   go_wp2_with (first
    | ((with_reducible refine at_list ?_); refine wpList_lookL (B := kbI) mapInts d.mb _ (H6.out.mapL 5 rfl) rfl (zeroInt _) i rfl HI.out _ HMN2.out ?_)
    | ((with_reducible refine at_list ?_); refine wpList_delL (B := kbI) mapInts d.mb _ (H6.out.mapL 5 rfl) rfl i rfl HI.out ?_; intro w7 hm7 hM7; have H7 := Lib.hid (H6.out.remapL 5 rfl hm7 hM7); clear hm7 hM7))
   go_end0
   refine ⟨rfl, ?_⟩
   have h7 := H7.out
   simp only [List.set_cons_succ, List.set_cons_zero] at h7
   have hmm : delK (putK (d.many.map fun p => (p.1, Value.int .i64 p.2)) i (.int .i64 (((1 : Nat) : Int) - 1))) i = (delK d.many i).map fun p => (p.1, Value.int .i64 p.2) := by
    have e1 : delK (putK (d.many.map fun p => (p.1, Value.int .i64 p.2)) i (.int .i64 (((1 : Nat) : Int) - 1))) i = delK (d.many.map fun p => (p.1, Value.int .i64 p.2)) i := by
     unfold putK delK
     rw [List.filter_append, List.filter_filter]
     simp
    rw [e1]
    exact delK_map (fun q : Int => Value.int .i64 q) d.many i
   rw [hmm] at h7
   refine St.shutW ⟨d.bb, d.mb, (s, r2) :: delK d.recs s, delK d.many i⟩ (HT.out.less HN.out HR.out HIN.out (by rw [if_neg (fun e => H0.out (by rw [← HR2.out]; exact e)), HR2.out]) (fun z => ?_)) ?_
   ·rw [getK_delK, HC.out.1]
    by_cases hz : z = i
    ·rw [if_pos hz, if_pos hz, if_pos rfl]
    ·rw [if_neg hz, if_neg hz]
   ·have hpm := h7.permL 4 rfl (N := ((s, r2) :: delK d.recs s).map fun p => (p.1, .map (some p.2.b))) (by
     have h8 := (perm_delK HN.out HR.out).map (fun p : Spot × WR => (p.1, Value.map (some p.2.b)))
     rw [List.map_cons] at h8 ⊢
     rw [show r2.b = r.b by rw [← HR2.out]]
     exact h8)
    simp only [List.set_cons_succ, List.set_cons_zero] at hpm
    exact (St.wIn s hpm.tail).perm (List.perm_append_comm_assoc [_] [_, _, _] l)
  ·have hc3 : ((c : Int) - 1 == 0) = false := by simp; omega
   have HMN2 := Lib.hid (show (getK (putK (d.many.map fun p => (p.1, Value.int .i64 p.2)) i (.int .i64 ((c : Int) - 1))) i).getD (.int .i64 0) = .int .i64 ((c : Int) - 1) by rw [getK_putK, if_pos rfl]; rfl)
   have w1 := blk_cell (H6.out.box 3 rfl) 1 (.map (some d.mb)) rfl
   have zw := heap_lt (H6.out.box 3 rfl)
   have HC2 := Lib.hid hc2
   clear hc2
   go_wp2_with ((with_reducible refine at_list ?_); refine wpList_lookL (B := kbI) mapInts d.mb _ (H6.out.mapL 5 rfl) rfl (zeroInt _) i rfl HI.out _ HMN2.out ?_)
   go_end0
   refine ⟨rfl, ?_⟩
   have h7 := H6.out
   have hmm : putK (d.many.map fun p => (p.1, Value.int .i64 p.2)) i (.int .i64 ((c : Int) - 1)) = (putK d.many i ((c : Int) - 1)).map fun p => (p.1, Value.int .i64 p.2) := putK_map (fun q : Int => Value.int .i64 q) d.many i _
   rw [hmm] at h7
   refine St.shutW ⟨d.bb, d.mb, (s, r2) :: delK d.recs s, putK d.many i ((c : Int) - 1)⟩ (HT.out.less HN.out HR.out HIN.out (by rw [if_neg (fun e => H0.out (by rw [← HR2.out]; exact e)), HR2.out]) (fun z => ?_)) ?_
   ·rw [getK_putK, HC.out.1]
    by_cases hz : z = i
    ·rw [if_pos hz, if_pos hz, if_neg HC2.out]
    ·rw [if_neg hz, if_neg hz]
   ·have hpm := h7.permL 4 rfl (N := ((s, r2) :: delK d.recs s).map fun p => (p.1, .map (some p.2.b))) (by
     have h8 := (perm_delK HN.out HR.out).map (fun p : Spot × WR => (p.1, Value.map (some p.2.b)))
     rw [List.map_cons] at h8 ⊢
     rw [show r2.b = r.b by rw [← HR2.out]]
     exact h8)
    simp only [List.set_cons_succ, List.set_cons_zero] at hpm
    exact (St.wIn s hpm.tail).perm (List.perm_append_comm_assoc [_] [_, _, _] l)
end Go.Proofs.YtonnbkebjeoflaaGreatDoor
