/-
  Laws of WatchD, TreeT.
  Conditions: each law states its own.
-/
import Derived.Test.YtonnbkebjeoflaaGreatDoorJ1
import Derived.Test.YtonnbkebjeoflaaGreatDoorJ10
import Derived.Test.YtonnbkebjeoflaaGreatDoorJ22
set_option maxHeartbeats 16000000
set_option linter.unusedSectionVars false
set_option linter.unusedSimpArgs false
set_option linter.unusedVariables false
set_option maxRecDepth 100000
namespace Go.Proofs
open Go.RowKit Go.Maps Go.Sort Go.Shelf


theorem Tryz.sortsI (m : Nat) : AnyZI.SortsIn Tryz.prog Tryz.sortedI_ren Fence.wide m :=
  ⟨fun blk off cap ss W hH hblk hsz => callsIn_wide.2 (AnyM.slices_Sort_int Tryz.sortI blk off cap ss W hH hblk hsz),
   fun p cap W => callsIn_wide.2 (AnyM.slices_Sort_int_none Tryz.sortI p cap W)⟩
theorem Tryz.maps_KeysI (mb : Option Nat) (W : World) : CallsIn Fence.wide 5 Tryz.prog 104 #[.map mb] W fun e w' => e = .returned (.func (.func 177) #[] #[.pointer (some ⟨W.heap.size, 0, none⟩)]) ∧ w' = W.alloc (.cells #[.map mb] 103) :=
  AnyZI.keys_in Tryz.keysI Fence.wide 5 trivial rfl mb W
theorem Tryz.slices_Sorted_keysI {H : Type} (b nn : Nat) (D0 : DataW H) (R : Value → Option (DataW H × List MemPlace)) (w : World) (hown : w.ownsMap Tryz.prog 3 R b nn D0) (hmax : Maps.size D0 ≤ maxLen) (hbytes : Maps.size D0 * 8 ≤ 140737488355328) :
    CallsIn Fence.wide 5 Tryz.prog 103 #[.func (.func 177) #[] #[.pointer (some ⟨w.heap.size, 0, none⟩)]] (w.alloc (.cells #[.map (some b)] 103)) fun e w' => ∃ (v : Value) (ss : List Int), e = .returned v ∧ ss.Perm (intKeys D0) ∧
      w'.ownsRow (w.alloc (.cells #[.map (some b)] 103)).heap.size 3 1 v ss.length ((ss.mergeSort (fun x y => decide (x ≤ y))).map encZ) ∧ (v = .slice none 0 0 ↔ ss = []) ∧ Below (w.alloc (.cells #[.map (some b)] 103)).heap.size (w.alloc (.cells #[.map (some b)] 103)) w' := by
  have hbl := hown.lt
  have hseq : SeqGives Fence.wide 2 Tryz.prog 177 #[.pointer (some ⟨w.heap.size, 0, none⟩)] encZ (fun ss => ss.Perm (intKeys D0)) (Maps.size D0) (w.alloc (.cells #[.map (some b)] 103)) :=
    AnyZI.keys_gives (ρ := Tryz.keysI_ren) { Tryz.keysI with } Fence.wide _ trivial rfl (by omega) w.heap.size b nn D0 _ (by simp) (by simp) (by
      obtain ⟨es, clock, hb, Ft, hs, hD⟩ := hown
      exact ⟨es, clock, (Below.heap_alloc _ _ b hbl).trans hb, Ft, hs, hD⟩)
  exact AnyZI.sorted_in Tryz.sortedI Fence.wide 5 trivial trivial trivial trivial rfl (by omega) (Tryz.sortsI _) (enters_of Tryz.func110 (by kernel_rfl) rfl) 177 #[.pointer (some ⟨w.heap.size, 0, none⟩)] trivial (enters_of Tryz.func177 (by kernel_rfl) rfl) _ _ hmax hbytes _ hseq
end Go.Proofs
namespace Go.Proofs.YtonnbkebjeoflaaGreatDoor
open Go.RowKit Go.Maps
theorem look_nilI (w : World) (i : Int) (hi : okInt i) : (Instr.lookup 179 (.map none) (.int .i64 i) false).run Tryz.prog w = .ok (.int .i64 0) w := by
 have := Maps.look_nil (w := w) false kbI.keyed mapInts (zeroInt w) (kbI.key (x := i) hi)
 simp only [Bool.false_eq_true, if_false] at this
 exact this
theorem look_at {k : TypeId} {α : Type} [DecidableEq α] {B : KB Tryz.prog k α} {w : World} {b : Nat} {M : List (α × Value)} {t e : TypeId} (h : MapL B w b M) (ht : Tryz.prog.underlying t = some (.map k e)) {z : Value} (hz : (zeroValue e).run Tryz.prog w = .ok z w) (x : α) (hx : B.ok x) {v : Value} (hv : (getK M x).getD z = v) :
 (Instr.lookup t (.map (some b)) (B.inj x) false).run Tryz.prog w = .ok v w := by
 have := h.look ht false hz hx
 rw [← hv]
 simpa using this
theorem St.wTake {w0 w : World} {R : List (Spot × WR)} {s : Spot} {r : WR} {a b c e : Thing} {l : List Thing} (h : St w0 w (a :: b :: c :: e :: grp (R.map fun p => p.2.own) :: l)) (hn : (R.map (·.1)).Nodup) (hr : getK R s = some r) :
 St w0 w (a :: r.own :: b :: c :: e :: grp ((delK R s).map fun p => p.2.own) :: l) := by
 have h1 := ((h.pick 4 rfl).wOut hn hr)
 have h2 : St w0 w (grp ((delK R s).map fun p => p.2.own) :: r.own :: a :: b :: c :: e :: l) := h1.perm (List.Perm.swap _ _ _)
 have h3 : St w0 w (r.own :: a :: b :: c :: e :: grp ((delK R s).map fun p => p.2.own) :: l) := h2.perm (List.perm_append_comm_assoc [_] [_, _, _, _, _] l)
 exact h3.perm (List.Perm.swap _ _ _)
theorem add_bad1 (W : List Wt) (s k : Int) (p : ByteArray) (h : s < 1 ∨ Watch.okW k p = false) : Watch.add W s k p = (W, 1) := by unfold Watch.add; rw [if_pos h]
theorem add_in (W : List Wt) (s k : Int) (p : ByteArray) (h : ¬ (s < 1 ∨ Watch.okW k p = false)) (hi : (⟨k, p, s⟩ : Wt) ∈ W) : Watch.add W s k p = (W, 0) := by unfold Watch.add; rw [if_neg h, if_pos hi]
theorem add_full (W : List Wt) (s k : Int) (p : ByteArray) (h : ¬ (s < 1 ∨ Watch.okW k p = false)) (hi : (⟨k, p, s⟩ : Wt) ∉ W) (hc : Watch.count W s = 64) : Watch.add W s k p = (W, 91) := by unfold Watch.add; rw [if_neg h, if_neg hi, if_pos hc]
theorem add_new (W : List Wt) (s k : Int) (p : ByteArray) (h : ¬ (s < 1 ∨ Watch.okW k p = false)) (hi : (⟨k, p, s⟩ : Wt) ∉ W) (hc : Watch.count W s ≠ 64) : Watch.add W s k p = (W ++ [⟨k, p, s⟩], 0) := by unfold Watch.add; rw [if_neg h, if_neg hi, if_neg hc]
theorem WD.tells.more {d : WD} {W : List Wt} (h : d.tells W) {s : Spot} {i : Int} (hi : (⟨s.kind, s.path, i⟩ : Wt) ∉ W) (hc : Watch.count W i < 64) {R Q : List (Spot × WR)} {r : WR} (hR : R.Perm ((s, { r with l := r.l ++ [i] }) :: Q)) (hQ : (wlist d.recs).Perm (wlist ((s, r) :: Q))) (hQn : ∀ p ∈ Q, p.2.l ≠ [])
 {M : List (Int × Int)} (hM : ∀ z, getK M z = if z = i then Option.some ((Watch.count W i : Int) + 1) else getK d.many z) {bb mb : Nat} :
 (⟨bb, mb, R, M⟩ : WD).tells (W ++ [⟨s.kind, s.path, i⟩]) := by
 have hc2 : ∀ z, Watch.count (W ++ [⟨s.kind, s.path, i⟩]) z = Watch.count W z + if i = z then 1 else 0 := fun z => by
  rw [count_perm (List.perm_append_comm (l₁ := W) (l₂ := [_])) z]
  exact count_cons _ _ _
 refine ⟨?_, ?_, fun z => ?_, fun z => ?_, ?_⟩
 ·refine ((h.perm.trans hQ).append_right _).trans (List.Perm.trans ?_ (wlist_perm hR).symm)
  rw [wlist_cons, wlist_cons, List.map_append, List.append_assoc, List.append_assoc]
  exact (List.perm_append_comm).append_left _
 ·intro p hp
  rcases List.mem_cons.1 ((hR.mem_iff).1 hp) with rfl | hp
  ·simp
  ·exact hQn p hp
 ·show getK M z = _
  rw [hM z, hc2 z]
  by_cases hz : z = i
  ·subst hz
   rw [if_pos rfl, if_pos rfl, if_neg (by omega)]
   push_cast
   rfl
  ·rw [if_neg hz, if_neg (show ¬ i = z from fun e => hz e.symm), Nat.add_zero]
   exact h.many z
 ·rw [hc2 z]
  have := h.few z
  by_cases hz : i = z
  ·subst hz; rw [if_pos rfl]; omega
  ·rw [if_neg hz]; omega
 ·rw [List.nodup_append]
  exact ⟨h.nodup, by simp, fun a ha b hb => by rw [List.mem_singleton] at hb; subst hb; exact fun e => hi (e ▸ ha)⟩
theorem add_st {w0 w : World} {l : List Thing} (wb : Nat) (W : List Wt) (h : St w0 w (wtb wb W :: l)) (i k : Int) (hi : okInt i) (hk : okInt k) (p : ByteArray) (hp : p.size ≤ 4000000000) (hr : Rdy w0) (hWl : W.length ≤ 1000000) :
 Calls Tryz.prog 67 #[.pointer (some ⟨wb, 0, none⟩), .int .i64 i, .int .i64 k, .string p] w (StPost (.int .i64 (Watch.add W i k p).2) w0 (wtb wb (Watch.add W i k p).1 :: l)) := by
 have CI := Lib.hid (is_any k p hp w (hr.old h.1))
 obtain ⟨ok, hok⟩ : ∃ b, Watch.okW k p = b := ⟨_, rfl⟩
 rw [hok] at CI
 by_cases h1 : i < 1
 ·rw [add_bad1 W i k p (.inl h1)]
  have HS := Lib.hid h
  clear CI hok h hi hk hp hr hWl
  go_enter Tryz.func67, Tryz.ntmps67
  go_wp2
  go_ret
  exact ⟨rfl, HS.out⟩
 cases ok with
 | false =>
   rw [add_bad1 W i k p (.inr hok)]
   have HS := Lib.hid h
   clear hok h hi hk hp hr hWl
   go_enter Tryz.func67, Tryz.ntmps67
   go_wp2_with (go_at_call 129; refine CI.out.mono ?_; rintro e w2 ⟨rfl, hM2⟩)
   go_ret
   exact ⟨rfl, HS.out.mod hM2⟩
 | true =>
   have hno : ¬ (i < 1 ∨ Watch.okW k p = false) := by rw [hok]; simp [h1]
   have hps : p.size ≤ maxLen := by unfold maxLen; omega
   obtain ⟨s, hs⟩ : ∃ s : Spot, s = ⟨(k, p), hk, hps⟩ := ⟨_, rfl⟩
   have hsk : s.kind = k := by rw [hs]; rfl
   have hsp : s.path = p := by rw [hs]; rfl
   have hsv : kbSpot.inj s = .agg #[.int .i64 k, .string p] := by rw [hs]; rfl
   obtain ⟨d, ht, hn, hS⟩ := h.openW
   have hmn : (d.many.map (·.1)).Nodup := by
    have := (hS.mapL 2 rfl).nodup
    rw [List.map_map] at this
    exact this
   have HML : Hid ((d.many.map fun p => (p.1, Value.int .i64 p.2)).length < maxLen) := Lib.hid (by rw [List.length_map]; have := ht.manyLen hmn; unfold maxLen; omega)
   have HB : Hid (St w0 w (bx wb #[.map (some d.bb), .map (some d.mb)] 181 :: mpl kbSpot d.bb ((d.recs).map fun p => (p.1, .map (some p.2.b))) :: mpl kbI d.mb (d.many.map fun p => (p.1, .int .i64 p.2)) :: grp (d.recs.map fun p => p.2.own) :: l)) := Lib.hid hS
   have HT := Lib.hid ht
   have HN := Lib.hid hn
   have HWL := Lib.hid hWl
   have HI := Lib.hid hi
   have HNO := Lib.hid hno
   have HSP := Lib.hid (And.intro hsk (And.intro hsp hsv))
   obtain ⟨c, hc⟩ : ∃ c, Watch.count W i = c := ⟨_, rfl⟩
   have hc64 : c ≤ 64 := by rw [← hc]; exact ht.few i
   have hmv : (getK (d.many.map fun p => (p.1, Value.int .i64 p.2)) i).getD (.int .i64 0) = .int .i64 c := by
    have e := getK_map (fun q : Int => Value.int .i64 q) d.many i
    rw [ht.many i, hc] at e
    rw [e]
    by_cases h0 : c = 0
    ·rw [if_pos h0, h0]; rfl
    ·rw [if_neg h0]; rfl
   have HMV := Lib.hid hmv
   have HC := Lib.hid (And.intro hc hc64)
   have hin : (⟨k, p, i⟩ : Wt) ∈ W ↔ ∃ r, getK d.recs s = some r ∧ i ∈ r.l := by
    rw [ht.perm.mem_iff, ← mem_recs hn, hsk, hsp]
   have HIN := Lib.hid hin
   have hql := fun (x : Option Nat) (w : World) => run_eql_map_nil_sl (P := Tryz.prog) w 179 _ _ x mapInts
   have hmm := @run_makeMap Tryz.prog
   clear hok h hk hp hr hWl hps hs hsk hsp hsv ht hn hS hmn hi hno hc hmv hin
   cases hr : getK d.recs s with
   | none =>
     have hni : (⟨k, p, i⟩ : Wt) ∉ W := fun hm => by obtain ⟨r, h2, _⟩ := HIN.out.1 hm; rw [hr] at h2; cases h2
     have HNI := Lib.hid hni
     have HR := Lib.hid hr
     have hlb : (getK (d.recs.map fun p => (p.1, Value.map (some p.2.b))) s).getD (.map none) = .map none := by
      have e := getK_map (fun q : WR => Value.map (some q.b)) d.recs s
      rw [hr] at e
      simp only [Option.map_none] at e
      rw [e]; rfl
     have HLB := Lib.hid hlb
     clear hni hr hlb
     go_enter Tryz.func67, Tryz.ntmps67
     go_upto_region 3 with (go_at_call 129; refine CI.out.mono ?_; rintro e w2 ⟨rfl, hM2⟩; have HB1 := Lib.hid (HB.out.mod hM2); clear hM2)
     clear CI HB
     go_upto_region 4 with (fail)
     have H2 := Lib.hid (HB1.out.box1 #[.int .i64 k, .string p] 206)
     generalize w2.alloc _ = W2 at H2 ⊢
     generalize w2.heap.size = xb at H2 ⊢
     clear HB1
     have KP : Hid (∀ (w' : World) (G : List Thing), St w0 w' (bx xb #[.int .i64 k, .string p] 206 :: bx wb #[.map (some d.bb), .map (some d.mb)] 181 :: G) → w'.cell? ⟨wb, 0, none⟩ = some (.map (some d.bb)) ∧ w'.cell? ⟨xb, 0, none⟩ = some (.int .i64 k) ∧ w'.cell? ⟨xb, 1, none⟩ = some (.string p)) := Lib.hid fun w' G h => ⟨blk_cell (h.box 1 rfl) 0 _ rfl, blk_cell (h.box 0 rfl) 0 _ rfl, blk_cell (h.box 0 rfl) 1 _ rfl⟩
     have HA := Lib.hid H2.out.drew
     have zw := heap_lt (H2.out.box 1 rfl)
     have zx := heap_lt (H2.out.box 0 rfl)
     have hL := look_at (HA.out.mapL 2 rfl) mapBy (zeroMapI _) s trivial HLB.out
     rw [HSP.out.2.2] at hL
     have hL2 := fun w => look_nilI w i HI.out
     go_region_held3 (fun w' => w'.cell? ⟨wb, 0, none⟩ = some (.map (some d.bb)) ∧ w'.cell? ⟨xb, 0, none⟩ = some (.int .i64 k) ∧ w'.cell? ⟨xb, 1, none⟩ = some (.string p))
      (exact KP.out _ _ HA.out)
      (fail)
     clear hL hL2 H2
     generalize W2.drew = W3 at HA ⊢
     have w1 := blk_cell (HA.out.box 1 rfl) 1 (.map (some d.mb)) rfl
     have zw := heap_lt (HA.out.box 1 rfl)
     by_cases h64 : c = 64
     ·subst h64
      go_wp2_with ((with_reducible refine at_list ?_); refine wpList_lookL (B := kbI) mapInts d.mb _ (HA.out.mapL 3 rfl) rfl (zeroInt _) i rfl HI.out _ HMV.out ?_)
      go_ret
      rw [add_full W i k p HNO.out HNI.out HC.out.1]
      exact ⟨rfl, St.shutW d HT.out HA.out.tail⟩
     have h64b : ((c : Int) == 64) = false := by simp; omega
     have HC64 := Lib.hid h64
     clear h64
     go_upto_region 8 with ((with_reducible refine at_list ?_); refine wpList_lookL (B := kbI) mapInts d.mb _ (HA.out.mapL 3 rfl) rfl (zeroInt _) i rfl HI.out _ HMV.out ?_)
     clear h64b w1 zw
     have HA8 := Lib.hid HA.out.drew
     have zw := heap_lt (HA.out.box 1 rfl)
     have zx := heap_lt (HA.out.box 0 rfl)
     have hL := look_at (HA8.out.mapL 2 rfl) mapBy (zeroMapI _) s trivial HLB.out
     rw [HSP.out.2.2] at hL
     go_region_held3 (fun w' => w'.cell? ⟨wb, 0, none⟩ = some (.map (some d.bb)) ∧ w'.cell? ⟨xb, 0, none⟩ = some (.int .i64 k) ∧ w'.cell? ⟨xb, 1, none⟩ = some (.string p))
      (exact KP.out _ _ HA8.out)
      (fail)
     clear hL HA
     generalize W3.drew = W4 at HA8 ⊢
     go_upto_region 9 with (fail)
     have HB9 := Lib.hid HA8.out.drew
     have zw := heap_lt (HA8.out.box 1 rfl)
     have zx := heap_lt (HA8.out.box 0 rfl)
     have HC9 : Hid (St w0 (W4.alloc (.map #[] 0)).drew (mpl kbI W4.heap.size [] :: bx xb #[.int .i64 k, .string p] 206 :: bx wb #[.map (some d.bb), .map (some d.mb)] 181 :: mpl kbSpot d.bb ((d.recs).map fun p => (p.1, .map (some p.2.b))) :: mpl kbI d.mb (d.many.map fun p => (p.1, .int .i64 p.2)) :: grp (d.recs.map fun p => p.2.own) :: l)) := Lib.hid (HB9.out.mapNew kbI)
     have hrl : (d.recs.map fun p => (p.1, Value.map (some p.2.b))).length < maxLen := by
      rw [List.length_map]
      have h1 : d.recs.length ≤ (wlist d.recs).length := by
       have h3 := HT.out.some
       generalize d.recs = R at h3
       induction R with
       | nil => exact Nat.zero_le _
       | cons a R ih =>
         have h2 := ih (fun p hp => h3 p (List.mem_cons_of_mem _ hp))
         obtain ⟨a1, a2⟩ := a
         rw [wlist_cons, List.length_append, List.length_map, List.length_cons]
         have := List.length_pos_iff.2 (h3 (a1, a2) (by simp))
         simp only at this
         omega
      have h2 := HT.out.perm.length_eq
      have h3 := HWL.out
      unfold maxLen; omega
     obtain ⟨w6, hPR, hm6, hM6⟩ := (HC9.out.mapL 3 rfl).store mapBy hrl (x := s) trivial (.map (some W4.heap.size))
     rw [HSP.out.2.2] at hPR
     have H6 : Hid (St w0 w6 (mpl kbI W4.heap.size [] :: bx xb #[.int .i64 k, .string p] 206 :: bx wb #[.map (some d.bb), .map (some d.mb)] 181 :: mpl kbSpot d.bb (putK (d.recs.map fun p => (p.1, .map (some p.2.b))) s (.map (some W4.heap.size))) :: mpl kbI d.mb (d.many.map fun p => (p.1, .int .i64 p.2)) :: grp (d.recs.map fun p => p.2.own) :: l)) := Lib.hid (HC9.out.remapL 3 rfl hm6 hM6)
     clear hm6 hM6 hrl
     go_region_held3 (fun w' => w'.cell? ⟨wb, 0, none⟩ = some (.map (some d.bb)) ∧ w'.cell? ⟨xb, 0, none⟩ = some (.int .i64 k) ∧ w'.cell? ⟨xb, 1, none⟩ = some (.string p))
      (first | exact KP.out _ _ HB9.out | exact KP.out _ _ HC9.out.tail | exact KP.out _ _ H6.out.tail)
      (fail)
     clear HB9 HC9 hPR HA8
     obtain ⟨r1, hr1⟩ : ∃ r1 : WR, r1 = ⟨W4.heap.size, []⟩ := ⟨_, rfl⟩
     have hr1b : r1.b = W4.heap.size := by rw [hr1]
     have hr1l : r1.l = [] := by rw [hr1]
     have h7 : St w0 w6 (bx xb #[.int .i64 k, .string p] 206 :: r1.own :: bx wb #[.map (some d.bb), .map (some d.mb)] 181 :: mpl kbSpot d.bb (putK (d.recs.map fun p => (p.1, .map (some p.2.b))) s (.map (some r1.b))) :: mpl kbI d.mb (d.many.map fun p => (p.1, .int .i64 p.2)) :: grp (d.recs.map fun p => p.2.own) :: l) := by
      rw [hr1]; exact H6.out.perm (List.Perm.swap _ _ _)
     have H10 := Lib.hid h7
     have HLB2 : Hid ((getK (putK (d.recs.map fun p => (p.1, Value.map (some p.2.b))) s (.map (some r1.b))) s).getD (.map none) = .map (some r1.b)) := Lib.hid (by rw [getK_putK, if_pos rfl]; rfl)
     have HGN : Hid (getK r1.ents i = none) := Lib.hid (by unfold WR.ents; rw [hr1l]; rfl)
     have HQ : Hid ((wlist d.recs).Perm (wlist ((s, r1) :: d.recs)) ∧ (∀ p ∈ d.recs, p.2.l ≠ []) ∧ ((putK (d.recs.map fun p => (p.1, Value.map (some p.2.b))) s (.map (some r1.b))).Perm (((s, r1) :: d.recs).map fun p => (p.1, Value.map (some p.2.b))))) := Lib.hid ⟨by rw [wlist_nil _ _ _ hr1l], HT.out.some, by
      have e : getK (d.recs.map fun p => (p.1, Value.map (some p.2.b))) s = none := by
       have e := getK_map (fun q : WR => Value.map (some q.b)) d.recs s
       rw [HR.out] at e
       exact e
      have := perm_putK (M := d.recs.map fun p => (p.1, Value.map (some p.2.b))) s (.map (some r1.b))
      rw [delK_none e] at this
      exact this⟩
     clear h7 H6 hr1 hr1b hr1l
     generalize w6 = W6 at H10 ⊢
     generalize W4.heap.size = nb
     go_upto_region 10 with (fail)
     have HA10 := Lib.hid H10.out.drew
     have zw := heap_lt (H10.out.box 2 rfl)
     have zx := heap_lt (H10.out.box 0 rfl)
     have hL := look_at (HA10.out.mapL 3 rfl) mapBy (zeroMapI _) s trivial HLB2.out
     rw [HSP.out.2.2] at hL
     have hel : r1.ents.length < maxLen := by
      have h1 : r1.ents.length = r1.l.length := List.length_map _
      have h2 := HQ.out.1.length_eq
      rw [wlist_cons, List.length_append, List.length_map] at h2
      have h3 := HT.out.perm.length_eq
      have h4 := HWL.out
      unfold maxLen; omega
     obtain ⟨w7, hPR, hm7, hM7⟩ := (HA10.out.mapL 1 rfl).store mapInts hel (x := i) HI.out (.int .i64 i)
     rw [show kbI.inj i = Value.int .i64 i from rfl] at hPR
     rw [putK_new HGN.out] at hm7
     obtain ⟨r2, hr2⟩ : ∃ r2 : WR, ({ r1 with l := r1.l ++ [i] } : WR) = r2 := ⟨_, rfl⟩
     have he2 : r1.ents ++ [(i, Value.int .i64 i)] = r2.ents := by rw [← hr2]; unfold WR.ents; rw [List.map_append]; rfl
     rw [he2] at hm7
     have H7 : Hid (St w0 w7 (bx xb #[.int .i64 k, .string p] 206 :: r2.own :: bx wb #[.map (some d.bb), .map (some d.mb)] 181 :: mpl kbSpot d.bb (putK (d.recs.map fun p => (p.1, .map (some p.2.b))) s (.map (some r1.b))) :: mpl kbI d.mb (d.many.map fun p => (p.1, .int .i64 p.2)) :: grp ((d.recs).map fun p => p.2.own) :: l)) := Lib.hid (by
      have := HA10.out.remapL 1 rfl hm7 hM7
      rw [show mpl kbI r1.b r2.ents = r2.own by rw [← hr2]; rfl] at this
      exact this)
     have HR2 := Lib.hid hr2
     have KP2 : Hid (∀ (w' : World) (A : Thing) (G : List Thing), St w0 w' (bx xb #[.int .i64 k, .string p] 206 :: A :: bx wb #[.map (some d.bb), .map (some d.mb)] 181 :: G) → w'.cell? ⟨wb, 0, none⟩ = some (.map (some d.bb)) ∧ w'.cell? ⟨xb, 0, none⟩ = some (.int .i64 k) ∧ w'.cell? ⟨xb, 1, none⟩ = some (.string p)) := Lib.hid fun w' A G h => ⟨blk_cell (h.box 2 rfl) 0 _ rfl, blk_cell (h.box 0 rfl) 0 _ rfl, blk_cell (h.box 0 rfl) 1 _ rfl⟩
     clear hm7 hM7 hr2 he2 hel
     go_region_held3 (fun w' => w'.cell? ⟨wb, 0, none⟩ = some (.map (some d.bb)) ∧ w'.cell? ⟨xb, 0, none⟩ = some (.int .i64 k) ∧ w'.cell? ⟨xb, 1, none⟩ = some (.string p))
      (first | exact KP2.out _ _ _ HA10.out | exact KP2.out _ _ _ H7.out)
      (fail)
     clear hL hPR HA10 H10 zw zx
     have w1 := blk_cell (H7.out.box 2 rfl) 1 (.map (some d.mb)) rfl
     have zw := heap_lt (H7.out.box 2 rfl)
     have hwr : IntKind.i64.wrap ((c : Int) + 1) = (c : Int) + 1 := by simp [IntKind.wrap, IntKind.bits, IntKind.signed]; omega
     have TX := Lib.hid trivial
     go_wp2_with (first
      | (clear TX; (with_reducible refine at_list ?_); refine wpList_lookL (B := kbI) mapInts d.mb _ (H7.out.mapL 4 rfl) rfl (zeroInt _) i rfl HI.out _ HMV.out ?_)
      | ((with_reducible refine at_list ?_); refine wpList_putL (B := kbI) mapInts d.mb _ (H7.out.mapL 4 rfl) rfl HML.out i rfl HI.out (.int .i64 ((c : Int) + 1)) rfl ?_; intro w8 hm8 hM8; have H8 := Lib.hid (H7.out.remapL 4 rfl hm8 hM8); clear hm8 hM8))
     go_ret
     rw [add_new W i k p HNO.out HNI.out (by rw [HC.out.1]; exact HC64.out)]
     refine ⟨rfl, ?_⟩
     have h8 := H8.out
     simp only [List.set_cons_succ, List.set_cons_zero] at h8
     have hmm2 : putK (d.many.map fun p => (p.1, Value.int .i64 p.2)) i (.int .i64 ((c : Int) + 1)) = (putK d.many i ((c : Int) + 1)).map fun p => (p.1, Value.int .i64 p.2) := putK_map (fun q : Int => Value.int .i64 q) d.many i _
     rw [hmm2] at h8
     have h9 := h8.permL 3 rfl (N := ((s, r2) :: d.recs).map fun p => (p.1, .map (some p.2.b))) (by
      refine HQ.out.2.2.trans (List.Perm.of_eq ?_)
      rw [List.map_cons, List.map_cons, show r2.b = r1.b by rw [← HR2.out]])
     simp only [List.set_cons_succ, List.set_cons_zero] at h9
     have h10 := (St.wIn s (((h9.tail.pick 4 rfl).pick 1 rfl))).perm (List.perm_append_comm_assoc [_] [_, _, _] l)
     have h11 := HT.out.more (s := s) (i := i) (by rw [HSP.out.1, HSP.out.2.1]; exact HNI.out) (by rw [HC.out.1]; have := HC64.out; omega) (R := (s, r2) :: d.recs) (Q := d.recs) (r := r1) (List.Perm.of_eq (by rw [← HR2.out])) HQ.out.1 HQ.out.2.1 (M := putK d.many i ((c : Int) + 1)) (fun z => by rw [getK_putK, HC.out.1]) (bb := d.bb) (mb := d.mb)
     rw [HSP.out.1, HSP.out.2.1] at h11
     exact St.shutW ⟨d.bb, d.mb, (s, r2) :: d.recs, putK d.many i ((c : Int) + 1)⟩ h11 h10
   | some r =>
     have HR := Lib.hid hr
     have hlb : (getK (d.recs.map fun p => (p.1, Value.map (some p.2.b))) s).getD (.map none) = .map (some r.b) := by
      have e := getK_map (fun q : WR => Value.map (some q.b)) d.recs s
      rw [hr] at e
      simp only [Option.map_some] at e
      rw [e]; rfl
     have HLB := Lib.hid hlb
     clear hlb hr
     by_cases hii : i ∈ r.l
     ·have hin : (⟨k, p, i⟩ : Wt) ∈ W := HIN.out.2 ⟨r, HR.out, hii⟩
      rw [add_in W i k p HNO.out hin]
      have hg : (getK r.ents i).getD (.int .i64 0) = .int .i64 i := by
       have : (i, Value.int .i64 i) ∈ r.ents := List.mem_map_of_mem (f := fun i => (i, Value.int .i64 i)) hii
       cases hx : getK r.ents i with
       | none => exact absurd (List.mem_map_of_mem (f := (·.1)) this) (getK_none.1 hx)
       | some v =>
         obtain ⟨j, hj, he⟩ := List.mem_map.1 (getK_some_mem hx)
         injection he with h2 h3
         rw [← h3, h2]; rfl
      have HG := Lib.hid hg
      have hi0 : (i == 0) = false := by simp; omega
      clear hii hin hg
      go_enter Tryz.func67, Tryz.ntmps67
      go_upto_region 3 with (go_at_call 129; refine CI.out.mono ?_; rintro e w2 ⟨rfl, hM2⟩; have HB1 := Lib.hid (HB.out.mod hM2); clear hM2)
      clear CI HB
      go_upto_region 4 with (fail)
      have H2 := Lib.hid (HB1.out.box1 #[.int .i64 k, .string p] 206)
      generalize w2.alloc _ = W2 at H2 ⊢
      generalize w2.heap.size = xb at H2 ⊢
      clear HB1
      have KP : Hid (∀ (w' : World) (G : List Thing), St w0 w' (bx xb #[.int .i64 k, .string p] 206 :: bx wb #[.map (some d.bb), .map (some d.mb)] 181 :: G) → w'.cell? ⟨wb, 0, none⟩ = some (.map (some d.bb)) ∧ w'.cell? ⟨xb, 0, none⟩ = some (.int .i64 k) ∧ w'.cell? ⟨xb, 1, none⟩ = some (.string p)) := Lib.hid fun w' G h => ⟨blk_cell (h.box 1 rfl) 0 _ rfl, blk_cell (h.box 0 rfl) 0 _ rfl, blk_cell (h.box 0 rfl) 1 _ rfl⟩
      have HA := Lib.hid H2.out.drew
      have zw := heap_lt (H2.out.box 1 rfl)
      have zx := heap_lt (H2.out.box 0 rfl)
      have hL := look_at (HA.out.mapL 2 rfl) mapBy (zeroMapI _) s trivial HLB.out
      rw [HSP.out.2.2] at hL
      have hL2 : (Instr.lookup 179 (.map (some r.b)) (.int .i64 i) false).run Tryz.prog W2.drew = .ok (.int .i64 i) W2.drew := look_at (B := kbI) ((HA.out.wTake HN.out HR.out).mapL 1 rfl) mapInts (zeroInt _) i HI.out HG.out
      go_region_held3 (fun w' => w'.cell? ⟨wb, 0, none⟩ = some (.map (some d.bb)) ∧ w'.cell? ⟨xb, 0, none⟩ = some (.int .i64 k) ∧ w'.cell? ⟨xb, 1, none⟩ = some (.string p))
       (exact KP.out _ _ HA.out)
       (fail)
      clear hL hL2 H2
      generalize W2.drew = W3 at HA ⊢
      go_wp2
      go_ret
      exact ⟨rfl, St.shutW d HT.out HA.out.tail⟩
     ·have hni : (⟨k, p, i⟩ : Wt) ∉ W := fun hm => by obtain ⟨r', h2, h3⟩ := HIN.out.1 hm; rw [HR.out] at h2; injection h2 with h2; subst h2; exact hii h3
      have HNI := Lib.hid hni
      have hgn : getK r.ents i = none := by
       refine getK_none.2 fun hm => hii ?_
       have : r.ents.map (·.1) = r.l := by unfold WR.ents; rw [List.map_map]; exact List.map_id _
       rwa [this] at hm
      have hg : (getK r.ents i).getD (.int .i64 0) = .int .i64 0 := by rw [hgn]; rfl
      have HG := Lib.hid hg
      have HGN := Lib.hid hgn
      clear hii hni hg hgn
      go_enter Tryz.func67, Tryz.ntmps67
      go_upto_region 3 with (go_at_call 129; refine CI.out.mono ?_; rintro e w2 ⟨rfl, hM2⟩; have HB1 := Lib.hid (HB.out.mod hM2); clear hM2)
      clear CI HB
      go_upto_region 4 with (fail)
      have H2 := Lib.hid (HB1.out.box1 #[.int .i64 k, .string p] 206)
      generalize w2.alloc _ = W2 at H2 ⊢
      generalize w2.heap.size = xb at H2 ⊢
      clear HB1
      have KP : Hid (∀ (w' : World) (G : List Thing), St w0 w' (bx xb #[.int .i64 k, .string p] 206 :: bx wb #[.map (some d.bb), .map (some d.mb)] 181 :: G) → w'.cell? ⟨wb, 0, none⟩ = some (.map (some d.bb)) ∧ w'.cell? ⟨xb, 0, none⟩ = some (.int .i64 k) ∧ w'.cell? ⟨xb, 1, none⟩ = some (.string p)) := Lib.hid fun w' G h => ⟨blk_cell (h.box 1 rfl) 0 _ rfl, blk_cell (h.box 0 rfl) 0 _ rfl, blk_cell (h.box 0 rfl) 1 _ rfl⟩
      have HA := Lib.hid H2.out.drew
      have zw := heap_lt (H2.out.box 1 rfl)
      have zx := heap_lt (H2.out.box 0 rfl)
      have hL := look_at (HA.out.mapL 2 rfl) mapBy (zeroMapI _) s trivial HLB.out
      rw [HSP.out.2.2] at hL
      have hL2 : (Instr.lookup 179 (.map (some r.b)) (.int .i64 i) false).run Tryz.prog W2.drew = .ok (.int .i64 0) W2.drew := look_at (B := kbI) ((HA.out.wTake HN.out HR.out).mapL 1 rfl) mapInts (zeroInt _) i HI.out HG.out
      go_region_held3 (fun w' => w'.cell? ⟨wb, 0, none⟩ = some (.map (some d.bb)) ∧ w'.cell? ⟨xb, 0, none⟩ = some (.int .i64 k) ∧ w'.cell? ⟨xb, 1, none⟩ = some (.string p))
       (exact KP.out _ _ HA.out)
       (fail)
      clear hL hL2 H2
      generalize W2.drew = W3 at HA ⊢
      have w1 := blk_cell (HA.out.box 1 rfl) 1 (.map (some d.mb)) rfl
      have zw := heap_lt (HA.out.box 1 rfl)
      by_cases h64 : c = 64
      ·subst h64
       go_wp2_with ((with_reducible refine at_list ?_); refine wpList_lookL (B := kbI) mapInts d.mb _ (HA.out.mapL 3 rfl) rfl (zeroInt _) i rfl HI.out _ HMV.out ?_)
       go_ret
       rw [add_full W i k p HNO.out HNI.out HC.out.1]
       exact ⟨rfl, St.shutW d HT.out HA.out.tail⟩
      have h64b : ((c : Int) == 64) = false := by simp; omega
      have HC64 := Lib.hid h64
      clear h64
      go_upto_region 8 with ((with_reducible refine at_list ?_); refine wpList_lookL (B := kbI) mapInts d.mb _ (HA.out.mapL 3 rfl) rfl (zeroInt _) i rfl HI.out _ HMV.out ?_)
      clear h64b w1 zw
      have HA8 := Lib.hid HA.out.drew
      have zw := heap_lt (HA.out.box 1 rfl)
      have zx := heap_lt (HA.out.box 0 rfl)
      have hL := look_at (HA8.out.mapL 2 rfl) mapBy (zeroMapI _) s trivial HLB.out
      rw [HSP.out.2.2] at hL
      go_region_held3 (fun w' => w'.cell? ⟨wb, 0, none⟩ = some (.map (some d.bb)) ∧ w'.cell? ⟨xb, 0, none⟩ = some (.int .i64 k) ∧ w'.cell? ⟨xb, 1, none⟩ = some (.string p))
       (exact KP.out _ _ HA8.out)
       (fail)
      clear hL HA
      generalize W3.drew = W4 at HA8 ⊢
      obtain ⟨W6, hW6⟩ : ∃ W6, W4 = W6 := ⟨_, rfl⟩
      subst hW6
      have H10 : Hid (St w0 W4 (bx xb #[.int .i64 k, .string p] 206 :: r.own :: bx wb #[.map (some d.bb), .map (some d.mb)] 181 :: mpl kbSpot d.bb ((d.recs).map fun p => (p.1, .map (some p.2.b))) :: mpl kbI d.mb (d.many.map fun p => (p.1, .int .i64 p.2)) :: grp ((delK d.recs s).map fun p => p.2.own) :: l)) := Lib.hid (HA8.out.wTake HN.out HR.out)
      have HLB2 := HLB
      have HQ : Hid ((wlist d.recs).Perm (wlist ((s, r) :: delK d.recs s)) ∧ (∀ p ∈ delK d.recs s, p.2.l ≠ []) ∧ ((d.recs.map fun p => (p.1, Value.map (some p.2.b))).Perm (((s, r) :: delK d.recs s).map fun p => (p.1, Value.map (some p.2.b))))) := Lib.hid ⟨wlist_perm (perm_delK HN.out HR.out), fun p hp => HT.out.some p ((delK_sub _ _).subset hp), (perm_delK HN.out HR.out).map _⟩
      clear HA8
      go_upto_region 10 with (fail)
      have HA10 := Lib.hid H10.out.drew
      have zw := heap_lt (H10.out.box 2 rfl)
      have zx := heap_lt (H10.out.box 0 rfl)
      have hL := look_at (HA10.out.mapL 3 rfl) mapBy (zeroMapI _) s trivial HLB2.out
      rw [HSP.out.2.2] at hL
      have hel : r.ents.length < maxLen := by
       have h1 : r.ents.length = r.l.length := List.length_map _
       have h2 := HQ.out.1.length_eq
       rw [wlist_cons, List.length_append, List.length_map] at h2
       have h3 := HT.out.perm.length_eq
       have h4 := HWL.out
       unfold maxLen; omega
      obtain ⟨w7, hPR, hm7, hM7⟩ := (HA10.out.mapL 1 rfl).store mapInts hel (x := i) HI.out (.int .i64 i)
      rw [show kbI.inj i = Value.int .i64 i from rfl] at hPR
      rw [putK_new HGN.out] at hm7
      obtain ⟨r2, hr2⟩ : ∃ r2 : WR, ({ r with l := r.l ++ [i] } : WR) = r2 := ⟨_, rfl⟩
      have he2 : r.ents ++ [(i, Value.int .i64 i)] = r2.ents := by rw [← hr2]; unfold WR.ents; rw [List.map_append]; rfl
      rw [he2] at hm7
      have H7 : Hid (St w0 w7 (bx xb #[.int .i64 k, .string p] 206 :: r2.own :: bx wb #[.map (some d.bb), .map (some d.mb)] 181 :: mpl kbSpot d.bb ((d.recs).map fun p => (p.1, .map (some p.2.b))) :: mpl kbI d.mb (d.many.map fun p => (p.1, .int .i64 p.2)) :: grp ((delK d.recs s).map fun p => p.2.own) :: l)) := Lib.hid (by
       have := HA10.out.remapL 1 rfl hm7 hM7
       rw [show mpl kbI r.b r2.ents = r2.own by rw [← hr2]; rfl] at this
       exact this)
      have HR2 := Lib.hid hr2
      have KP2 : Hid (∀ (w' : World) (A : Thing) (G : List Thing), St w0 w' (bx xb #[.int .i64 k, .string p] 206 :: A :: bx wb #[.map (some d.bb), .map (some d.mb)] 181 :: G) → w'.cell? ⟨wb, 0, none⟩ = some (.map (some d.bb)) ∧ w'.cell? ⟨xb, 0, none⟩ = some (.int .i64 k) ∧ w'.cell? ⟨xb, 1, none⟩ = some (.string p)) := Lib.hid fun w' A G h => ⟨blk_cell (h.box 2 rfl) 0 _ rfl, blk_cell (h.box 0 rfl) 0 _ rfl, blk_cell (h.box 0 rfl) 1 _ rfl⟩
      clear hm7 hM7 hr2 he2 hel
      go_region_held3 (fun w' => w'.cell? ⟨wb, 0, none⟩ = some (.map (some d.bb)) ∧ w'.cell? ⟨xb, 0, none⟩ = some (.int .i64 k) ∧ w'.cell? ⟨xb, 1, none⟩ = some (.string p))
       (first | exact KP2.out _ _ _ HA10.out | exact KP2.out _ _ _ H7.out)
       (fail)
      clear hL hPR HA10 H10 zw zx
      have w1 := blk_cell (H7.out.box 2 rfl) 1 (.map (some d.mb)) rfl
      have zw := heap_lt (H7.out.box 2 rfl)
      have hwr : IntKind.i64.wrap ((c : Int) + 1) = (c : Int) + 1 := by simp [IntKind.wrap, IntKind.bits, IntKind.signed]; omega
      have TX := Lib.hid trivial
      go_wp2_with (first
       | (clear TX; (with_reducible refine at_list ?_); refine wpList_lookL (B := kbI) mapInts d.mb _ (H7.out.mapL 4 rfl) rfl (zeroInt _) i rfl HI.out _ HMV.out ?_)
       | ((with_reducible refine at_list ?_); refine wpList_putL (B := kbI) mapInts d.mb _ (H7.out.mapL 4 rfl) rfl HML.out i rfl HI.out (.int .i64 ((c : Int) + 1)) rfl ?_; intro w8 hm8 hM8; have H8 := Lib.hid (H7.out.remapL 4 rfl hm8 hM8); clear hm8 hM8))
      go_ret
      rw [add_new W i k p HNO.out HNI.out (by rw [HC.out.1]; exact HC64.out)]
      refine ⟨rfl, ?_⟩
      have h8 := H8.out
      simp only [List.set_cons_succ, List.set_cons_zero] at h8
      have hmm2 : putK (d.many.map fun p => (p.1, Value.int .i64 p.2)) i (.int .i64 ((c : Int) + 1)) = (putK d.many i ((c : Int) + 1)).map fun p => (p.1, Value.int .i64 p.2) := putK_map (fun q : Int => Value.int .i64 q) d.many i _
      rw [hmm2] at h8
      have h9 := h8.permL 3 rfl (N := ((s, r2) :: delK d.recs s).map fun p => (p.1, .map (some p.2.b))) (by
       refine HQ.out.2.2.trans (List.Perm.of_eq ?_)
       rw [List.map_cons, List.map_cons, show r2.b = r.b by rw [← HR2.out]])
      simp only [List.set_cons_succ, List.set_cons_zero] at h9
      have h10 := (St.wIn s (((h9.tail.pick 4 rfl).pick 1 rfl))).perm (List.perm_append_comm_assoc [_] [_, _, _] l)
      have h11 := HT.out.more (s := s) (i := i) (by rw [HSP.out.1, HSP.out.2.1]; exact HNI.out) (by rw [HC.out.1]; have := HC64.out; omega) (R := (s, r2) :: delK d.recs s) (Q := delK d.recs s) (r := r) (List.Perm.of_eq (by rw [← HR2.out])) HQ.out.1 HQ.out.2.1 (M := putK d.many i ((c : Int) + 1)) (fun z => by rw [getK_putK, HC.out.1]) (bb := d.bb) (mb := d.mb)
      rw [HSP.out.1, HSP.out.2.1] at h11
      exact St.shutW ⟨d.bb, d.mb, (s, r2) :: delK d.recs s, putK d.many i ((c : Int) + 1)⟩ h11 h10
end Go.Proofs.YtonnbkebjeoflaaGreatDoor
namespace Go.Proofs.YtonnbkebjeoflaaGreatDoor
open Go.RowKit Go.Maps Go.Sort
def leI' (x y : Int) : Bool := decide (x ≤ y)
def Tree.sessL (T : Tree) : List Int := (T.sessions.map (·.1)).mergeSort leI'
theorem keys_ofI {w : World} {b : Nat} {M : List (Int × Value)} {D : DataW Value} (ho : w.ownsMap Tryz.prog 3 raw b M.length D) (hT : KTells kbI D M) : (intKeys D).Perm (M.map (·.1)) := by
 obtain ⟨es, rfl, hk⟩ := ho.keysOf
 obtain ⟨es', he, hp⟩ := ho.tidy (P := Tryz.prog) (k := 3) kbI.keyed
 have he : es = es' := by injection he
 subst he
 refine (perm_intKeys hp (fun p hp => ?_) ?_ fun x => ?_).symm
 ·obtain ⟨v, hv⟩ := hk p hp
  obtain ⟨x, _, hx, _⟩ := Maps.keyOf_int_inv kInt hv
  exact ⟨x, by assumption⟩
 ·exact hT.nodup
 ·constructor
  ·intro hx
   obtain ⟨p, hp', rfl⟩ := List.mem_map.1 hx
   exact (hT.yes p.1 p.2 (getK_of_mem hT.nodup hp')).1
  ·intro hx
   cases hf : getK M x with
   | none =>
     have h1 := hT.no x hf
     have e : kbI.lit x = .int .i64 x := rfl
     rw [e] at h1
     rw [h1] at hx
     cases hx
   | some v => exact List.mem_map.2 ⟨(x, v), getK_some_mem hf, rfl⟩
theorem sessions_any (w : World) (tb : Nat) (T : Tree) (h : TreeAt w tb T) (hn : T.sessions.length ≤ 1000000) :
 Calls Tryz.prog 51 #[.pointer (some ⟨tb, 0, none⟩)] w (NewSl 3 1 (T.sessL.map (Value.int .i64)) T.sessions.length w) := by
 obtain ⟨d, hd, ht, _, hm, _⟩ := h.open
 have c1 : w.cell? ⟨tb, 1, none⟩ = some (.map (some d.sb)) := blk_cell ht 1 _ rfl
 have zt := heap_lt ht
 have hs : Calls Tryz.prog 103 #[.func (.func 177) #[] #[.pointer (some ⟨w.heap.size, 0, none⟩)]] (w.alloc (.cells #[.map (some d.sb)] 103))
  (NewSl 3 1 (T.sessL.map (Value.int .i64)) T.sessions.length w) := by
  obtain ⟨D, ho, hT⟩ := hm
  have hsz := hT.size
  rw [List.length_map] at hsz
  refine ((callsIn_wide (n := 5)).1 (Tryz.slices_Sorted_keysI d.sb _ D raw w ho (by rw [hsz]; unfold maxLen; omega) (by rw [hsz]; omega))).mono ?_
  rintro e w' ⟨v, ss, rfl, hS, hrow, hnil, hb⟩
  have hp := hS.trans (keys_ofI ho hT)
  rw [List.map_map] at hp
  have hl : ss.length = T.sessions.length := by rw [hp.length_eq, List.length_map]
  have hs : (ss.mergeSort (fun x y => decide (x ≤ y))).map encZ = T.sessL.map (Value.int .i64) := by
   have h1 : ss.mergeSort (fun x y => decide (x ≤ y)) = T.sessL := mergeSort_of_perm_i hp
   rw [h1]
  rw [hs, hl] at hrow
  obtain ⟨a, cap, rfl, hsl, hf⟩ := ownsRow_sl hrow
  have hm : Mod (fun _ => False) (w.alloc (.cells #[.map (some d.sb)] 103)) w' := ⟨hb.os, hb.tape, hb.output, hb.size, fun x hx _ => hb.block x hx⟩
  refine ⟨a, cap, rfl, hsl, fun x hx => ?_, ((Mod.refl _ w).alloc _).then hm (fun _ _ h => h)⟩
  have := hf x hx
  simp at this
  omega
 have HSO := Lib.hid hs
 have CK : Hid (Calls Tryz.prog 104 #[.map (some d.sb)] w fun e w' => e = .returned (.func (.func 177) #[] #[.pointer (some ⟨w.heap.size, 0, none⟩)]) ∧ w' = w.alloc (.cells #[.map (some d.sb)] 103)) :=
  Lib.hid ((callsIn_wide (n := 5)).1 (Tryz.maps_KeysI (some d.sb) w))
 clear ht hm hd hs
 go_enter Tryz.func51, Tryz.ntmps51
 go_wp2_with (first
  | (go_at_call 104; refine CK.out.mono ?_; rintro e w' ⟨rfl, rfl⟩)
  | (go_at_call 103; refine HSO.out.mono ?_; rintro e w' ⟨a, cap, rfl, hsl, hf, hM⟩))
 go_ret
 exact ⟨a, cap, rfl, hsl, hf, hM⟩
end Go.Proofs.YtonnbkebjeoflaaGreatDoor
