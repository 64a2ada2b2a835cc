/-
  Laws of WatchE, WatchF.
  Conditions: each law states its own.
-/
import Derived.Laws.IdiomRangeMap
import Derived.Test.YtonnbkebjeoflaaGreatDoorJ23
set_option linter.unusedSectionVars false
set_option linter.unusedSimpArgs false
set_option linter.unusedVariables false
set_option maxRecDepth 100000
namespace Go.Proofs.YtonnbkebjeoflaaGreatDoor
open Go.RowKit Go.Maps Go.Sort
theorem fire_snoc : ∀ (l : List Evt) (W : List Wt) (e : Evt), Watch.fire W (l ++ [e]) = (Watch.left (Watch.fire W l).1 e, (Watch.fire W l).2 ++ (Watch.who (Watch.fire W l).1 e).map (fun s => (s, e)))
 | [], W, e => by
   show Watch.fire W [e] = _
   unfold Watch.fire
   simp [Watch.fire]
 | a :: l, W, e => by
   have ih := fire_snoc l (Watch.left W a) e
   rw [List.cons_append, Watch.fire, ih, Watch.fire, List.append_assoc]
def atK (k : Int) (p : ByteArray) (x : Wt) : Bool := decide (x.kind = k) && decide (x.path = p)
def atKs (ks : List Int) (p : ByteArray) (x : Wt) : Bool := decide (x.path = p) && ks.contains x.kind
theorem atKs_nil (p : ByteArray) (x : Wt) : atKs [] p x = false := by simp [atKs]
theorem kinds_nodup (e : Int) : (kindsE e).Nodup ∧ (kindsE e).length ≤ 3 ∧ ∀ k ∈ kindsE e, 1 ≤ k ∧ k ≤ 3 := by
 unfold kindsE
 split
 ·decide
 ·split
  ·decide
  ·split
   ·decide
   ·split <;> decide
theorem atKs_snoc {ks : List Int} {k : Int} (p : ByteArray) (x : Wt) : atKs (ks ++ [k]) p x = (atKs ks p x || atK k p x) := by
 unfold atKs atK
 by_cases h1 : x.path = p
 ·by_cases h2 : x.kind = k
  ·simp [h1, h2]
  ·simp [h1, h2]
 ·simp [h1]
theorem perm_parts {W : List Wt} (a b : Wt → Bool) (hd : ∀ x, a x = true → b x = false) : (W.filter fun x => a x || b x).Perm (W.filter a ++ W.filter b) := by
 induction W with
 | nil => exact .refl _
 | cons x W ih =>
   simp only [List.filter_cons]
   cases ha : a x with
   | true =>
     rw [hd x ha]
     simp only [Bool.true_or, if_true, Bool.false_eq_true, if_false]
     exact ih.cons x
   | false =>
     cases hb : b x with
     | true =>
       simp only [Bool.or_true, if_true, Bool.false_eq_true, if_false]
       exact (ih.cons x).trans List.perm_middle.symm
     | false =>
       simp only [Bool.or_self, Bool.false_eq_true, if_false]
       exact ih
def toldC (x : Int × Evt) : List Value := [.int .i64 x.1, .int .i64 x.2.kind, .string x.2.path, .int .i64 x.2.zxid]
theorem sizeEvtT : (Tryz.prog.info? 113).map (·.size) = some 3 := by kernel_rfl
theorem infoIntR : (Tryz.prog.info? 3).map (fun i => (i.zero.map (·.cells.size), i.size, i.bytes)) = some (some 1, 1, 8) := by kernel_rfl
theorem infoTold : (Tryz.prog.info? 140).map (fun i => (i.zero.map (·.cells.size), i.size, i.bytes)) = some (some 4, 4, 40) := by kernel_rfl
theorem left_le (W : List Wt) (e : Evt) : (Watch.left W e).length ≤ W.length := List.length_filter_le _ _
theorem fire_le : ∀ (l : List Evt) (W : List Wt), (Watch.fire W l).1.length ≤ W.length
 | [], W => Nat.le_refl _
 | e :: l, W => Nat.le_trans (fire_le l _) (left_le W e)
theorem compact_le : ∀ l : List Int, (compactL l).length ≤ l.length
 | [] => Nat.le_refl _
 | [x] => Nat.le_refl _
 | x :: y :: l => by
   unfold compactL
   have := compact_le (y :: l)
   simp only [List.length_cons] at this ⊢
   split
   ·omega
   ·rw [List.length_cons]; omega
theorem who_le (W : List Wt) (e : Evt) : (Watch.who W e).length ≤ W.length := by
 unfold Watch.who
 refine Nat.le_trans (compact_le _) ?_
 rw [List.length_mergeSort, List.length_map]
 exact List.length_filter_le _ _
theorem fire_told : ∀ (l : List Evt) (W : List Wt), (Watch.fire W l).2.length ≤ l.length * W.length
 | [], W => Nat.zero_le _
 | e :: l, W => by
   have h1 := fire_told l (Watch.left W e)
   have h2 := left_le W e
   have h3 := who_le W e
   have h4 : l.length * (Watch.left W e).length ≤ l.length * W.length := Nat.mul_le_mul_left _ h2
   show ((Watch.who W e).map _ ++ _).length ≤ (l.length + 1) * W.length
   rw [List.length_append, List.length_map, Nat.add_mul]
   omega
theorem take_putI (cur : Array Value) (off : Nat) (ts : List Int) (h : off + ts.length ≤ cur.size) : ((putCells (Value.int .i64) off ts.toArray cur).toList.drop off).take ts.length = ts.map (Value.int .i64) := by
 apply List.ext_getElem?
 intro j
 by_cases hj : j < ts.length
 ·rw [List.getElem?_take_of_lt hj, List.getElem?_drop, Array.getElem?_toList]
  simp [putCells, hj, show off + j < cur.size by omega]
 ·rw [List.getElem?_take_eq_none (by omega), List.getElem?_eq_none (by simp; omega)]
theorem heap_sortedI {w : World} {g n off : Nat} {os : Array Obj} {cur : Array Value} {e : TypeId} {fr : Nat × Nat} (d : Array Int) (hb : w.heap[g]? = some (.cells cur e fr)) :
 (grow (putRow (Value.int .i64) (Sort.ahead w n) g off d) os).heap[g]? = some (.cells (putCells (Value.int .i64) off d cur) e fr) := by
 have hg : g < w.heap.size := (Array.getElem?_eq_some_iff.1 hb).1
 rw [heap_grow_old _ _ (by simpa using hg)]
 simp [putRow, mapBlock, Sort.ahead, Array.getElem?_modify, hb, onCells]
theorem mod_sortedI {w : World} {g n off : Nat} {os : Array Obj} (d : Array Int) : Mod (fun x => x = g) w (grow (putRow (Value.int .i64) (Sort.ahead w n) g off d) os) := by
 refine ⟨rfl, rfl, rfl, by simp, fun k hk hne => ?_⟩
 rw [heap_grow_old _ _ (by simpa using hk)]
 have : g ≠ k := fun e => hne e.symm
 simp [putRow, mapBlock, Sort.ahead, Array.getElem?_modify, this]
theorem holdsI {w : World} {b off n : Nat} {l : List Int} {c : Array Value} (hb : w.heap[b]? = some (.cells c 3 (0, 0))) (hl : l.length = n) (htake : (c.toList.drop off).take (n * 1) = l.map (Value.int .i64)) : Holds (Value.int .i64) w b off l.toArray := fun j hj => by
 have hj' : j < l.length := by simpa using hj
 refine ⟨?_, frozen_of_row w b (off + j) c _ hb⟩
 have h5 : (l.map (Value.int .i64))[j]? = some (.int .i64 l[j]) := by simp [hj']
 rw [← htake, List.getElem?_take_of_lt (by omega), List.getElem?_drop] at h5
 rw [cell_of_row w b (off + j) c _ (0, 0) hb, ← Array.getElem?_toList, h5]
 simp [hj']
theorem sortInt_any (w : World) (a : Option Addr) (n cap : Nat) (l : List Int) (hs : Sl w 3 1 a n cap (l.map (Value.int .i64))) (hn : n ≤ 1000000) :
 Calls Tryz.prog 110 #[.slice a n cap] w (fun e w' => e = .returned (.tuple #[]) ∧ Sl w' 3 1 a n cap ((l.mergeSort leI).map (Value.int .i64)) ∧ Mod (fun b => own a = some b) w w') := by
 have hl : l.length = n := by have := hs.1; rw [List.length_map] at this; omega
 by_cases h0 : n = 0
 ·subst h0
  have hl0 : l = [] := List.eq_nil_of_length_eq_zero hl
  subst hl0
  refine (Tryz.slices_Sort_int_none a cap w).mono ?_
  rintro e w' ⟨rfl, rfl⟩
  exact ⟨rfl, by simpa using hs, Mod.refl _ _⟩
 ·obtain ⟨h1, h2, h3, ⟨rfl, hc⟩ | ⟨b, off, c, rfl, hb, hfit, htake⟩⟩ := id hs
  ·omega
  ·have hz := heap_lt hb
   have hc := Tryz.slices_Sort_int b off cap l w (holdsI hb hl htake) hz (by omega)
   rw [hl] at hc
   refine hc.mono ?_
   rintro e w' ⟨rfl, k, os, rfl⟩
   have hts : (l.mergeSort leI).length = n := by rw [List.length_mergeSort, hl]
   refine ⟨rfl, ⟨by rw [List.length_map, hts, Nat.mul_one], h2, h3, .inr ⟨b, off, _, rfl, heap_sortedI _ hb, by simp [putCells]; omega, ?_⟩⟩, (mod_sortedI _).mono fun x _ hx => by rw [hx]; rfl⟩
   have := take_putI c off (l.mergeSort leI) (by rw [hts]; omega)
   rw [hts] at this
   rw [Nat.mul_one]
   exact this
theorem compactL_snoc (x : Int) : ∀ l : List Int, compactL (l ++ [x]) = compactL l ++ (if l.getLast? = some x then [] else [x])
 | [] => rfl
 | [y] => by
   show (if y = x then compactL [x] else y :: compactL [x]) = _
   by_cases h : y = x
   ·subst h; simp [compactL]
   ·simp [compactL, h]
 | y :: z :: l => by
   have ih := compactL_snoc x (z :: l)
   show (if y = z then compactL ((z :: l) ++ [x]) else y :: compactL ((z :: l) ++ [x])) = _
   rw [ih, List.getLast?_cons_cons]
   show _ = (if y = z then compactL (z :: l) else y :: compactL (z :: l)) ++ _
   by_cases h : y = z
   ·rw [if_pos h, if_pos h]
   ·rw [if_neg h, if_neg h]; rfl
theorem compactUpTo_eq (zs : List Int) : ∀ m, m ≤ zs.length → Go.Lib.compactUpTo zs.toArray m = compactL (zs.take m)
 | 0, _ => by simp [Go.Lib.compactUpTo, compactL]
 | m + 1, h => by
   have hx : zs[m]? = some (zs[m]'(by omega)) := List.getElem?_eq_getElem _
   rw [Go.Lib.compactUpTo_succ, compactUpTo_eq zs m (by omega), List.take_add_one, hx]
   show _ = compactL (zs.take m ++ [zs[m]'(by omega)])
   rw [compactL_snoc]
   congr 1
   have e1 : zs.toArray[m]! = zs[m]'(by omega) := by simp [getElem!_pos, show m < zs.length by omega]
   rw [e1]
   cases m with
   | zero => simp [Go.Lib.keeps]
   | succ m =>
     have e2 : zs.toArray[m + 1 - 1]! = zs[m]'(by omega) := by simp [getElem!_pos, show m < zs.length by omega]
     have e3 : (zs.take (m + 1)).getLast? = some (zs[m]'(by omega)) := by
      rw [List.getLast?_eq_getElem?, List.length_take, show min (m + 1) zs.length - 1 = m by omega, List.getElem?_take_of_lt (by omega)]
      exact List.getElem?_eq_getElem _
     rw [e3]
     unfold Go.Lib.keeps
     rw [e1, e2]
     by_cases he : zs[m]'(by omega) = zs[m + 1]'(by omega)
     ·simp [he]
     ·simp [he, Ne.symm he]
theorem compact_eq (zs : List Int) : Go.Lib.compact zs = compactL zs := by
 unfold Go.Lib.compact
 rw [compactUpTo_eq zs _ (Nat.le_refl _), List.take_length]
theorem compactInt_any (w : World) (a : Option Addr) (n cap : Nat) (l : List Int) (hs : Sl w 3 1 a n cap (l.map (Value.int .i64))) (hn : n ≤ 1000000) :
 Calls Tryz.prog 111 #[.slice a n cap] w (fun e w' => e = .returned (.slice a (compactL l).length cap) ∧ Sl w' 3 1 a (compactL l).length cap ((compactL l).map (Value.int .i64)) ∧ Mod (fun b => own a = some b) w w') := by
 have hl : l.length = n := by have := hs.1; rw [List.length_map] at this; omega
 by_cases h0 : n = 0
 ·subst h0
  have hl0 : l = [] := List.eq_nil_of_length_eq_zero hl
  subst hl0
  refine (Tryz.slices_Compact_int_empty a cap w).mono ?_
  rintro e w' ⟨rfl, rfl⟩
  exact ⟨rfl, hs, Mod.refl _ _⟩
 ·obtain ⟨h1, h2, h3, ⟨rfl, hc⟩ | ⟨b, off, c, rfl, hb, hfit, htake⟩⟩ := id hs
  ·omega
  ·have hc := Tryz.slices_Compact_int b off cap l w (holdsI hb hl htake) (by omega) (by omega)
   rw [hl, compact_eq] at hc
   refine hc.mono ?_
   rintro e w' ⟨rfl, q, rfl⟩
   have hle : (compactL l).length ≤ n := by rw [← hl]; exact compact_le l
   rw [← grow_empty (putRow _ _ _ _ _)]
   have hts : (compactL l ++ List.replicate (n - (compactL l).length) 0).length = n := by rw [List.length_append, List.length_replicate]; omega
   refine ⟨rfl, ⟨by rw [List.length_map, Nat.mul_one], by omega, h3, .inr ⟨b, off, _, rfl, heap_sortedI _ hb, by simp [putCells]; omega, ?_⟩⟩, (mod_sortedI _).mono fun x _ hx => by rw [hx]; rfl⟩
   have := take_putI c off (compactL l ++ List.replicate (n - (compactL l).length) 0) (by rw [hts]; omega)
   rw [hts] at this
   have h9 := congrArg (List.take (compactL l).length) this
   rw [List.take_take, show min (compactL l).length n = (compactL l).length by omega, List.map_append, List.take_left' (by rw [List.length_map])] at h9
   rw [Nat.mul_one]
   exact h9
section
variable {P : Program} {ops : Array Oper} {rest : List Oper} {dst : Option Tmp} {ty0 : TypeId} {pos : String} {after : Array Edge} {a : Act} {w : World} {Q : Exit → Act → World → Prop} {k e t : TypeId}
theorem wpList_rangeN (ht : P.underlying t = some (.map k e)) {m : Operand} (hm : a.eval m = .map none)
 (hn : wpList P ops Q rest (a.put dst (.pointer (some ⟨w.heap.size, 0, none⟩))) (w.alloc (.mapIter none 0 #[] 0))) :
 wpList P ops Q (⟨dst, .range t m, ty0, pos, after, none⟩ :: rest) a w :=
 wpList_plain rfl fun K hK => by
  unfold Oper.wp execOp
  simp only [hm, Sem.run_bind, Sem.run_pure, run_range_nilMap w t k e ht, Result.andThen_ok]
  exact hK _ _ hn
theorem run_next_nilAt {r : Nat} {x y : Nat} {z : Array Nat} (h : w.heap[r]? = some (.mapIter none x z y)) :
 (Instr.next (.pointer (some ⟨r, 0, none⟩)) false ty0).run P w = .ok (.tuple #[.bool false]) w := by
 simp only [Instr.next, getObj, Sem.run_bind, Sem.run, h, Result.andThen]
 rfl
theorem wpList_nextN {r : Nat} {x y : Nat} {z : Array Nat} (h : w.heap[r]? = some (.mapIter none x z y)) {it : Operand} (hit : a.eval it = .pointer (some ⟨r, 0, none⟩))
 (hDone : wpList P ops Q rest (a.put dst (.tuple #[.bool false])) w) : wpList P ops Q (⟨dst, .next it false, ty0, pos, after, none⟩ :: rest) a w :=
 wpList_plain rfl fun K hK => by
  unfold Oper.wp execOp
  simp only [hit, Sem.run_bind, Sem.run_pure, run_next_nilAt h, Result.andThen_ok]
  exact hK _ _ hDone
end
theorem ents_keys (r : WR) : r.ents.map (·.1) = r.l := by unfold WR.ents; rw [List.map_map]; exact List.map_id _
theorem wlist_apart {R : List (Spot × WR)} {s : Spot} (h : ∀ p ∈ R, p.1 ≠ s) : (wlist R).filter (atK s.kind s.path) = [] := by
 refine List.filter_eq_nil_iff.2 fun x hx hb => ?_
 obtain ⟨kx, px, ix⟩ := x
 have hb1 : kx = s.kind ∧ px = s.path := by simpa [atK] using hb
 obtain ⟨rfl, rfl⟩ := hb1
 obtain ⟨p, hp, he, _⟩ := mem_wlist.1 hx
 exact h p hp he
theorem who_none {d : WD} {W : List Wt} {s : Spot} (h : d.tells W) (hs : getK d.recs s = none) : (W.filter (atK s.kind s.path)).map Wt.who = [] := by
 have h1 := h.perm.filter (atK s.kind s.path)
 rw [wlist_apart (fun p hp he => getK_none.1 hs (by rw [← he]; exact List.mem_map_of_mem (f := (·.1)) hp))] at h1
 rw [List.Perm.eq_nil h1]
 rfl
theorem who_some {d : WD} {W : List Wt} {s : Spot} {r : WR} (h : d.tells W) (hn : (d.recs.map (·.1)).Nodup) (hs : getK d.recs s = some r) : ((W.filter (atK s.kind s.path)).map Wt.who).Perm r.l := by
 have h1 := ((h.perm.trans (wlist_perm (perm_delK hn hs))).filter (atK s.kind s.path)).map Wt.who
 have h2 : ((r.l.map fun i => (⟨s.kind, s.path, i⟩ : Wt)).filter (atK s.kind s.path)) = r.l.map fun i => (⟨s.kind, s.path, i⟩ : Wt) := List.filter_eq_self.2 (fun x hx => by
  obtain ⟨i, _, rfl⟩ := List.mem_map.1 hx
  simp [atK])
 rw [wlist_cons, List.filter_append, wlist_apart (R := delK d.recs s) (fun p hp he => by
  have := List.mem_filter.1 hp
  simp [he] at this), List.append_nil, h2, List.map_map] at h1
 rw [show (Wt.who ∘ fun i => (⟨s.kind, s.path, i⟩ : Wt)) = id from rfl, List.map_id] at h1
 exact h1
def ItAt (w0 w : World) (d : WD) (s : Spot) (it : Nat) (out : List Int) (la : Option Addr) (lc cnt : Nat) (G : List Thing) : Prop :=
 (getK d.recs s = none ∧ out = [] ∧ St w0 w (ob it (.mapIter none 0 #[] 0) :: sl 3 1 la out.length lc (out.map (Value.int .i64)) :: grp (d.recs.map fun p => p.2.own) :: G)) ∨
 ∃ (r : WR) (left : Int → Bool), getK d.recs s = some r ∧ out.Perm (r.l.filter fun i => !left i) ∧ St w0 w (rnl kbI r.b it r.ents left cnt :: sl 3 1 la out.length lc (out.map (Value.int .i64)) :: grp ((delK d.recs s).map fun p => p.2.own) :: G)
def FoundAt (w0 w : World) (wb : Nat) (W : List Wt) (s : Spot) (out : List Int) (la : Option Addr) (lc : Nat) (G : List Thing) : Prop :=
 out.Perm ((W.filter (atK s.kind s.path)).map Wt.who) ∧ (∀ i ∈ out, okInt i) ∧ out.Nodup ∧ St w0 w (wtb wb W :: sl 3 1 la out.length lc (out.map (Value.int .i64)) :: G)
theorem found_none {w0 w : World} {wb : Nat} {W : List Wt} {d : WD} {s : Spot} {it : Nat} {la : Option Addr} {lc : Nat} {G : List Thing} (hd : d.tells W) (hs : getK d.recs s = none)
 (h : St w0 w (ob it (.mapIter none 0 #[] 0) :: sl 3 1 la 0 lc [] :: grp (d.recs.map fun p => p.2.own) :: bx wb #[.map (some d.bb), .map (some d.mb)] 181 :: mpl kbSpot d.bb (d.recs.map fun p => (p.1, .map (some p.2.b))) :: mpl kbI d.mb (d.many.map fun p => (p.1, .int .i64 p.2)) :: G)) :
 FoundAt w0 w wb W s [] la lc G := by
 refine ⟨by rw [who_none hd hs], fun i hi => (by cases hi), List.nodup_nil, ?_⟩
 have h1 := h.tail
 have h2 : St w0 w (bx wb #[.map (some d.bb), .map (some d.mb)] 181 :: mpl kbSpot d.bb (d.recs.map fun p => (p.1, .map (some p.2.b))) :: mpl kbI d.mb (d.many.map fun p => (p.1, .int .i64 p.2)) :: grp (d.recs.map fun p => p.2.own) :: sl 3 1 la 0 lc [] :: G) :=
  (h1.perm (List.Perm.swap _ _ _)).perm (List.perm_append_comm_assoc [_, _] [_, _, _] G)
 exact St.shutW d hd h2
theorem found_some {w0 w : World} {wb : Nat} {W : List Wt} {d : WD} {s : Spot} {r : WR} {it cnt : Nat} {left : Int → Bool} {out : List Int} {la : Option Addr} {lc : Nat} {G : List Thing} (hd : d.tells W) (hn : (d.recs.map (·.1)).Nodup) (hs : getK d.recs s = some r) (hl : ∀ x, left x = false) (ho : out.Perm (r.l.filter fun i => !left i))
 (h : St w0 w (rnl kbI r.b it r.ents left cnt :: sl 3 1 la out.length lc (out.map (Value.int .i64)) :: grp ((delK d.recs s).map fun p => p.2.own) :: bx wb #[.map (some d.bb), .map (some d.mb)] 181 :: mpl kbSpot d.bb (d.recs.map fun p => (p.1, .map (some p.2.b))) :: mpl kbI d.mb (d.many.map fun p => (p.1, .int .i64 p.2)) :: G)) :
 FoundAt w0 w wb W s out la lc G := by
 have h1 : St w0 w (r.own :: sl 3 1 la out.length lc (out.map (Value.int .i64)) :: grp ((delK d.recs s).map fun p => p.2.own) :: bx wb #[.map (some d.bb), .map (some d.mb)] 181 :: mpl kbSpot d.bb (d.recs.map fun p => (p.1, .map (some p.2.b))) :: mpl kbI d.mb (d.many.map fun p => (p.1, .int .i64 p.2)) :: G) := h.rangedL 0 rfl
 have hok : ∀ i ∈ r.l, okInt i := fun i hi => by
  have := (h1.mapL 0 rfl).oks (i, .int .i64 i) (List.mem_map_of_mem (f := fun i => (i, Value.int .i64 i)) hi)
  exact this
 have ho2 : out.Perm r.l := by rwa [List.filter_eq_self.2 (fun i _ => by rw [hl i]; rfl)] at ho
 have h2 := (h1.perm ((List.Perm.swap _ _ _).cons _ : List.Perm (_ :: _ :: _ :: _) _)).wIn s
 have h3 := h2.grpPerm ((perm_delK hn hs).map (fun p : Spot × WR => p.2.own)).symm
 refine ⟨ho2.trans (who_some hd hn hs).symm, fun i hi => hok i (ho2.mem_iff.1 hi), ho2.nodup_iff.2 (by have := (h1.mapL 0 rfl).nodup; rwa [ents_keys] at this), ?_⟩
 exact St.shutW d hd (h3.perm (List.perm_append_comm_assoc [_, _] [_, _, _] G))
theorem ids_start (r : WR) : (r.l.filter fun i => !(getK r.ents i).isSome) = [] := List.filter_eq_nil_iff.2 fun i hi => by
 cases hx : getK r.ents i with
 | none =>
   have h1 := getK_none.1 hx
   rw [ents_keys] at h1
   exact absurd hi h1
 | some v => simp
theorem ids_step {r : WR} {left : Int → Bool} {x : Int} {v : Value} (hn : (r.ents.map (·.1)).Nodup) (hg : getK r.ents x = some v) (hl : left x = true) :
 (r.l.filter fun z => !(left z && decide (z ≠ x))).Perm ((r.l.filter fun z => !left z) ++ [x]) := by
 have h := (left_step hn (getK_some_mem hg) hl).map (·.1)
 rw [List.map_append] at h
 have e : ∀ f : Int → Bool, (r.ents.filter fun n => f n.1).map (·.1) = r.l.filter f := fun f => by rw [← ents_keys, List.filter_map]; rfl
 rw [e (fun z => !(left z && decide (z ≠ x))), e (fun z => !left z)] at h
 exact h
def cutW (W : List Wt) (k : Int) (p : ByteArray) (out : List Int) (i : Nat) : List Wt := W.filter fun x => !(atK k p x && (out.take i).contains x.who)
theorem cutW_zero (W : List Wt) (k : Int) (p : ByteArray) (out : List Int) : cutW W k p out 0 = W := by
 unfold cutW
 exact List.filter_eq_self.2 fun x _ => by simp
theorem cutW_snoc (W : List Wt) (k : Int) (p : ByteArray) {out : List Int} {i : Nat} {id : Int} (h : out[i]? = some id) : (cutW W k p out i).filter (fun y => decide (y ≠ ⟨k, p, id⟩)) = cutW W k p out (i + 1) := by
 unfold cutW
 rw [List.filter_filter]
 refine List.filter_congr fun x _ => ?_
 rw [List.take_add_one, h]
 obtain ⟨kx, px, ix⟩ := x
 unfold atK
 by_cases h1 : kx = k
 ·by_cases h2 : px = p
  ·by_cases h3 : ix = id
   ·simp [h1, h2, h3]
   ·simp [h1, h2, h3]
  ·simp [h1, h2]
 ·simp [h1]
theorem cutW_mem {W : List Wt} {k : Int} {p : ByteArray} {out : List Int} {i : Nat} {id : Int} (h : out[i]? = some id) (hn : out.Nodup) (hp : out.Perm ((W.filter (atK k p)).map Wt.who)) : (⟨k, p, id⟩ : Wt) ∈ cutW W k p out i := by
 have h1 := hp.mem_iff.1 (List.mem_of_getElem? h)
 obtain ⟨x, hx, hxi⟩ := List.mem_map.1 h1
 obtain ⟨hxW, hxa⟩ := List.mem_filter.1 hx
 have hxe : x = ⟨k, p, id⟩ := by
  obtain ⟨kx, px, ix⟩ := x
  have h2 : kx = k ∧ px = p := by simpa [atK] using hxa
  obtain ⟨rfl, rfl⟩ := h2
  simp at hxi
  rw [hxi]
 rw [hxe] at hxW
 refine List.mem_filter.2 ⟨hxW, ?_⟩
 have h3 : id ∉ out.take i := fun hm => by
  obtain ⟨j, hj, he⟩ := List.mem_iff_getElem.1 hm
  rw [List.length_take] at hj
  rw [List.getElem_take] at he
  obtain ⟨hi, he2⟩ := List.getElem?_eq_some_iff.1 h
  have := (List.getElem?_inj (i := j) (j := i) (show j < out.length by omega) hn).1 (by rw [List.getElem?_eq_getElem (by omega), he, h])
  omega
 simp [h3]
theorem cutW_all {W : List Wt} {k : Int} {p : ByteArray} {out : List Int} (hp : out.Perm ((W.filter (atK k p)).map Wt.who)) : cutW W k p out out.length = W.filter fun x => !atK k p x := by
 unfold cutW
 refine List.filter_congr fun x hx => ?_
 rw [List.take_length]
 cases h : atK k p x with
 | false => rfl
 | true =>
   have : x.who ∈ out := hp.mem_iff.2 (List.mem_map_of_mem (f := Wt.who) (List.mem_filter.2 ⟨hx, h⟩))
   simp [this]
theorem cutW_le (W : List Wt) (k : Int) (p : ByteArray) (out : List Int) (i : Nat) : (cutW W k p out i).length ≤ W.length := List.length_filter_le _ _
theorem gone_kind (W : List Wt) {ks : List Int} {j : Nat} {k : Int} (p : ByteArray) (h : ks[j]? = some k) : ((W.filter fun x => !atKs (ks.take j) p x).filter fun x => !atK k p x) = W.filter fun x => !atKs (ks.take (j + 1)) p x := by
 rw [List.filter_filter, List.take_add_one, h]
 refine List.filter_congr fun x _ => ?_
 show _ = !atKs (ks.take j ++ [k]) p x
 rw [atKs_snoc]
 cases atKs (ks.take j) p x <;> cases atK k p x <;> rfl
theorem told_kind (W : List Wt) {ks : List Int} {j : Nat} {k : Int} (p : ByteArray) (h : ks[j]? = some k) (hn : ks.Nodup) {who out : List Int} (h1 : who.Perm ((W.filter (atKs (ks.take j) p)).map Wt.who))
 (h2 : out.Perm (((W.filter fun x => !atKs (ks.take j) p x).filter (atK k p)).map Wt.who)) : (who ++ out).Perm ((W.filter (atKs (ks.take (j + 1)) p)).map Wt.who) := by
 have hd : ∀ x, atKs (ks.take j) p x = true → atK k p x = false := fun x hx => by
  have hx1 : x.path = p ∧ x.kind ∈ ks.take j := by simpa [atKs] using hx
  have h3 : k ∉ ks.take j := fun hm => by
   obtain ⟨i, hi, he⟩ := List.mem_iff_getElem.1 hm
   rw [List.length_take] at hi
   rw [List.getElem_take] at he
   obtain ⟨hj, he2⟩ := List.getElem?_eq_some_iff.1 h
   have := (List.getElem?_inj (i := i) (j := j) (show i < ks.length by omega) hn).1 (by rw [List.getElem?_eq_getElem (by omega), he, h])
   omega
  have h4 : x.kind ≠ k := fun e => h3 (by rw [← e]; exact hx1.2)
  simp [atK, h4]
 have e1 : (W.filter (atKs (ks.take (j + 1)) p)) = W.filter fun x => atKs (ks.take j) p x || atK k p x := by
  rw [List.take_add_one, h]
  exact List.filter_congr fun x _ => atKs_snoc p x
 have e2 : ((W.filter fun x => !atKs (ks.take j) p x).filter (atK k p)) = W.filter (atK k p) := by
  rw [List.filter_filter]
  refine List.filter_congr fun x _ => ?_
  cases hx : atKs (ks.take j) p x with
  | false => simp
  | true => rw [hd x hx]; rfl
 rw [e1]
 rw [e2] at h2
 refine (h1.append h2).trans ?_
 rw [← List.map_append]
 exact (perm_parts _ _ hd).symm.map _
end Go.Proofs.YtonnbkebjeoflaaGreatDoor
