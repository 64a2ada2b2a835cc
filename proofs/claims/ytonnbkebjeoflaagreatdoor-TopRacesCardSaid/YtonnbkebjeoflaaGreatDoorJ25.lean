/-
  Laws of WatchG.
  Conditions: each law states its own.
-/
import Derived.Deep.DeepCutAuto
import Derived.StillTailTactics
import Derived.Test.YtonnbkebjeoflaaGreatDoorJ24
set_option maxHeartbeats 16000000
set_option linter.unusedSectionVars false
set_option linter.unusedSimpArgs false
set_option linter.unusedVariables false
set_option maxRecDepth 100000
namespace Go.Proofs.YtonnbkebjeoflaaGreatDoor
open Go.RowKit Go.Maps Go.Sort
theorem Rd.intAt {w : World} {a : Option Addr} {n cap : Nat} {l : List Int} (h : Rd w 1 a n cap (l.map (Value.int .i64))) {i : Nat} {x : Int} (hx : l[i]? = some x) :
 ∃ b o, a = some ⟨b, o, none⟩ ∧ b < w.heap.size ∧ w.cell? ⟨b, o + i, none⟩ = some (.int .i64 x) := by
 have e : l.map (Value.int .i64) = l.flatMap fun z => [Value.int .i64 z] := List.map_eq_flatMap
 rw [e] at h
 obtain ⟨b, o, rfl, hb, hc⟩ := h.elem (k := 1) (fun z : Int => [Value.int .i64 z]) (fun _ => rfl) (by omega) hx
 exact ⟨b, o, rfl, hb, by have := hc 0 _ rfl; simpa using this⟩
theorem atKs0 (W : List Wt) (ks : List Int) (p : ByteArray) : (W.filter fun x => !atKs (ks.take 0) p x) = W := List.filter_eq_self.2 fun x _ => by rw [List.take_zero, atKs_nil]; rfl
theorem who_eq {W : List Wt} {e : Evt} {ks who : List Int} (hk : kindsE e.kind = ks) (h : who.Perm ((W.filter (atKs ks e.path)).map Wt.who)) : compactL (who.mergeSort leI) = Watch.who W e := by
 subst hk
 have h1 : who.mergeSort leI = ((W.filter (Watch.hit e)).map Wt.who).mergeSort leI := mergeSort_of_perm_i h
 rw [h1]; rfl
theorem left_eq {W : List Wt} {e : Evt} {ks : List Int} (hk : kindsE e.kind = ks) : (W.filter fun x => !atKs ks e.path x) = Watch.left W e := by
 subst hk; rfl
theorem it_len {d : WD} {W : List Wt} {s : Spot} {r : WR} {f : Int → Bool} {out : List Int} (hd : d.tells W) (hn : (d.recs.map (·.1)).Nodup) (hs : getK d.recs s = some r) (ho : out.Perm (r.l.filter f)) : out.length ≤ W.length := by
 have h1 := ho.length_eq
 have h2 := List.length_filter_le f r.l
 have h3 := (who_some hd hn hs).length_eq
 rw [List.length_map] at h3
 have h4 := List.length_filter_le (atK s.kind s.path) W
 omega
theorem fire_st {w0 w : World} {l : List Thing} (wb : Nat) (W : List Wt) (evs : List Evt) (ea : Option Addr) (n ec : Nat) (hn : evs.length = n) (h : St w0 w (wtb wb W :: sl 113 3 ea n ec (evs.flatMap Evt.cells) :: l)) (hnl : n ≤ 1000) (hW : W.length ≤ 10000) (hp : ∀ e ∈ evs, e.path.size ≤ 1000000) :
 Calls Tryz.prog 57 #[.pointer (some ⟨wb, 0, none⟩), .slice ea n ec] w (fun e w' => ∃ (oa : Option Addr) (oc : Nat), e = .returned (.slice oa (Watch.fire W evs).2.length oc) ∧ St w0 w' (sl 140 4 oa (Watch.fire W evs).2.length oc ((Watch.fire W evs).2.flatMap toldC) :: wtb wb (Watch.fire W evs).1 :: sl 113 3 ea n ec (evs.flatMap Evt.cells) :: l)) := by
 obtain ⟨ip, iz, hi1, hi2, hi3, hi4, hi5⟩ := info_rowT infoIntR
 have HI := Lib.hid (And.intro hi1 (And.intro hi2 (And.intro hi3 (And.intro hi4 hi5))))
 clear hi1 hi2 hi3 hi4 hi5
 obtain ⟨tp, tz, hi1, hi2, hi3, hi4, hi5⟩ := info_rowT infoTold
 have HTI := Lib.hid (And.intro hi1 (And.intro hi2 (And.intro hi3 (And.intro hi4 hi5))))
 clear hi1 hi2 hi3 hi4 hi5
 have HN := Lib.hid hn
 have HW := Lib.hid hW
 have HP := Lib.hid hp
 have HL := Lib.hid (h.nilSlice 140 4)
 have h63 : n ≤ 9223372036854775807 := by omega
 have hn1 : n ≤ 1000 := hnl
 clear hn h hnl hW hp
 go_enter Tryz.func57, Tryz.ntmps57
 go_wp2
 go_loopg [5, 20] n (fun g y5 y wr => ∃ (k : Nat) (oa : Option Addr) (oc : Nat), k + g = n ∧ y = .int .i64 k ∧ y5 = .slice oa (Watch.fire W (evs.take k)).2.length oc ∧ St w0 wr (sl 140 4 oa (Watch.fire W (evs.take k)).2.length oc ((Watch.fire W (evs.take k)).2.flatMap toldC) :: wtb wb (Watch.fire W (evs.take k)).1 :: sl 113 3 ea n ec (evs.flatMap Evt.cells) :: l))
 case atStart => exact ⟨0, none, 0, by omega, rfl, rfl, HL.out⟩
 case round =>
  clear HL
  obtain ⟨k, oa, oc, hkg, rfl, rfl, hS⟩ := hrel
  by_cases hlt : k < n
  ·have hx : evs[k]? = some (evs[k]'(by rw [HN.out]; exact hlt)) := List.getElem?_eq_getElem _
   obtain ⟨e, hxx⟩ : ∃ x, evs[k]'(by rw [HN.out]; exact hlt) = x := ⟨_, rfl⟩
   rw [hxx] at hx
   obtain ⟨b, o, hea, hbl, hc⟩ := (hS.slice 2 rfl).rd.elem (k := 3) Evt.cells (fun _ => rfl) (by omega) hx
   subst hea
   have HCC : Hid (∀ j u, ([.int .i64 e.kind, .string e.path, .int .i64 e.zxid] : List Value)[j]? = some u → wr.cell? ((⟨b, o + k * 3, none⟩ : Addr).add j) = some u) := Lib.hid (fun j u hj => by rw [add_none]; exact hc j u hj)
   have HX := Lib.hid hx
   have HPE := Lib.hid (HP.out e (List.mem_of_getElem? hx))
   obtain ⟨F, hF⟩ : ∃ F, Watch.fire W (evs.take k) = F := ⟨_, rfl⟩
   have hfl := fire_le (evs.take k) W
   have hft := fire_told (evs.take k) W
   rw [hF] at hS hfl hft ⊢
   have HF := Lib.hid hF
   obtain ⟨m, hm⟩ : ∃ m, F.2.length = m := ⟨_, rfl⟩
   obtain ⟨tc, htc⟩ : ∃ tc, F.2.flatMap toldC = tc := ⟨_, rfl⟩
   have HM := Lib.hid (And.intro hm htc)
   have hml : m ≤ 10000000 := by
    rw [hm, List.length_take] at hft
    have h1 := HW.out
    have h2 : min k evs.length * W.length ≤ 1000 * 10000 := Nat.mul_le_mul (by have := HN.out; omega) h1
    omega
   have HB := Lib.hid (And.intro (Nat.le_trans hfl HW.out) hml)
   rw [hm, htc] at hS
   rw [hm]
   have HS := Lib.hid hS
   have HNB := Lib.hid (hS.box1 #[.int .i64 0, .string ⟨#[]⟩, .int .i64 0] 113)
   clear hx hxx hc hF hfl hft hm htc hml hS
   go_upto_region 6 with (first
    | ((with_reducible refine at_list ?_); refine wpList_load_chunk 3 _ Tryz.underlying113 rfl sizeEvtT ⟨b, o + k * 3, none⟩ rfl ([.int .i64 e.kind, .string e.path, .int .i64 e.zxid] : List Value) rfl HCC.out ?_)
    | ((with_reducible refine at_list ?_); refine wpList_store_whole 3 sizeEvtT wr.heap.size rfl _ _ (HNB.out.box 0 rfl) rfl ([.int .i64 e.kind, .string e.path, .int .i64 e.zxid] : List Value) rfl rfl rfl ?_; intro w5 hg5 hM5 hz5; have H5 : Hid (St w0 w5 (bx wr.heap.size #[.int .i64 e.kind, .string e.path, .int .i64 e.zxid] 113 :: sl 140 4 oa m oc tc :: wtb wb F.1 :: sl 113 3 (some ⟨b, o, none⟩) n ec (evs.flatMap Evt.cells) :: l)) := Lib.hid (HNB.out.rebox 0 rfl hg5 hM5); clear hg5 hM5 hz5))
   clear HNB HCC HS
   generalize wr.heap.size = xb at H5 ⊢
   have x0 := blk_cell (H5.out.box 0 rfl) 0 (.int .i64 e.kind) rfl
   have zx := heap_lt (H5.out.box 0 rfl)
   obtain ⟨ks, hks⟩ : ∃ ks, kindsE e.kind = ks := ⟨_, rfl⟩
   have hkn := kinds_nodup e.kind
   have CK := Lib.hid (kindsW_any e.kind w5)
   rw [hks] at CK hkn
   have HKS := Lib.hid (And.intro hks hkn)
   obtain ⟨kn, hknl⟩ : ∃ kn, ks.length = kn := ⟨_, rfl⟩
   rw [hknl] at CK
   have HKN := Lib.hid hknl
   have hkn63 : kn ≤ 9223372036854775807 := by have := hkn.2.1; omega
   clear hks hkn hknl
   go_wp2_with (go_at_call 108; refine CK.out.mono ?_; rintro e6 w6 ⟨ka, kc, rfl, hs6, hf6, hM6⟩; have H6 : Hid (St w0 w6 (wtb wb F.1 :: sl 3 1 none 0 0 [] :: sl 3 1 ka kn kc (ks.map (Value.int .i64)) :: bx xb #[.int .i64 e.kind, .string e.path, .int .i64 e.zxid] 113 :: sl 140 4 oa m oc tc :: sl 113 3 (some ⟨b, o, none⟩) n ec (evs.flatMap Evt.cells) :: l)) := Lib.hid (((H5.out.newSlice hM6 hs6 hf6).nilSlice 3 1).pick 4 rfl); clear hs6 hf6 hM6)
   clear CK H5 x0 zx
   go_loopg [8, 28] kn (fun g y8 y28 wr => ∃ (j : Nat) (who : List Int) (wa : Option Addr) (wq : Nat), j + g = kn ∧ y28 = .int .i64 j ∧ y8 = .slice wa who.length wq ∧ Hid (who.Perm ((F.1.filter (atKs (ks.take j) e.path)).map Wt.who)) ∧ St w0 wr (wtb wb (F.1.filter fun x => !atKs (ks.take j) e.path x) :: sl 3 1 wa who.length wq (who.map (Value.int .i64)) :: sl 3 1 ka kn kc (ks.map (Value.int .i64)) :: bx xb #[.int .i64 e.kind, .string e.path, .int .i64 e.zxid] 113 :: sl 140 4 oa m oc tc :: sl 113 3 (some ⟨b, o, none⟩) n ec (evs.flatMap Evt.cells) :: l))
   case atStart =>
    refine ⟨0, [], none, 0, by omega, rfl, rfl, Lib.hid ?_, ?_⟩
    ·rw [List.filter_eq_nil_iff.2 (fun x _ => by rw [List.take_zero, atKs_nil]; simp)]; exact .refl _
    ·rw [atKs0]; exact H6.out
   case round =>
    clear H6
    obtain ⟨j, who, wa, wq, hjg, rfl, rfl, HWHO, hS⟩ := hrel
    by_cases hlt2 : j < kn
    ·have hx : ks[j]? = some (ks[j]'(by rw [HKN.out]; exact hlt2)) := List.getElem?_eq_getElem _
     obtain ⟨k2, hxx⟩ : ∃ x, ks[j]'(by rw [HKN.out]; exact hlt2) = x := ⟨_, rfl⟩
     rw [hxx] at hx
     obtain ⟨b2, o2, hka, hbl2, hc2⟩ := (hS.slice 2 rfl).rd.intAt hx
     subst hka
     have hk13 := HKS.out.2.2.2 k2 (List.mem_of_getElem? hx)
     obtain ⟨W1, hW1⟩ : ∃ W1, (F.1.filter fun x => !atKs (ks.take j) e.path x) = W1 := ⟨_, rfl⟩
     have hW1l : W1.length ≤ 10000 := by rw [← hW1]; exact Nat.le_trans (List.length_filter_le _ _) HB.out.1
     rw [hW1] at hS
     have HX2 := Lib.hid hx
     have HW1 := Lib.hid (And.intro hW1 hW1l)
     obtain ⟨s, hs⟩ : ∃ s : Spot, s = ⟨(k2, e.path), by show okInt k2; unfold okInt; omega, by show e.path.size ≤ maxLen; have := HPE.out; unfold maxLen; omega⟩ := ⟨_, rfl⟩
     have hsk : s.kind = k2 := by rw [hs]; rfl
     have hsp : s.path = e.path := by rw [hs]; rfl
     have hsv : kbSpot.inj s = .agg #[.int .i64 k2, .string e.path] := by rw [hs]; rfl
     have HSP := Lib.hid (And.intro hsk (And.intro hsp hsv))
     have HS := Lib.hid hS
     have x1 := blk_cell (hS.box 3 rfl) 1 (.string e.path) rfl
     have zx := heap_lt (hS.box 3 rfl)
     clear hx hxx hk13 hW1 hW1l hs hsk hsp hsv hS
     go_upto_region 11 with (fail)
     have h10 := (HS.out.box1 #[.int .i64 k2, .string e.path] 206).pick 1 rfl
     generalize wr.alloc _ = W10 at h10 ⊢
     generalize wr.heap.size = sb at h10 ⊢
     obtain ⟨d, ht, hn, h11⟩ := h10.openW
     have H11 := Lib.hid (h11.pick 3 rfl)
     have HT := Lib.hid ht
     have HND := Lib.hid hn
     clear h10 ht hn h11 HS x1 zx hc2
     go_cut [42] (fun y wx => ∃ (it cnt : Nat), y = .pointer (some ⟨it, 0, none⟩) ∧ ItAt w0 wx d s it [] none 0 cnt (bx wb #[.map (some d.bb), .map (some d.mb)] 181 :: mpl kbSpot d.bb (d.recs.map fun p => (p.1, .map (some p.2.b))) :: mpl kbI d.mb (d.many.map fun p => (p.1, .int .i64 p.2)) :: bx sb #[.int .i64 k2, .string e.path] 206 :: sl 3 1 wa who.length wq (who.map (Value.int .i64)) :: sl 3 1 (some ⟨b2, o2, none⟩) kn kc (ks.map (Value.int .i64)) :: bx xb #[.int .i64 e.kind, .string e.path, .int .i64 e.zxid] 113 :: sl 140 4 oa m oc tc :: sl 113 3 (some ⟨b, o, none⟩) n ec (evs.flatMap Evt.cells) :: l))
     case first =>
      have H12 := Lib.hid H11.out.drew
      have c0 := blk_cell (H11.out.box 1 rfl) 0 (.map (some d.bb)) rfl
      have zw := heap_lt (H11.out.box 1 rfl)
      have x0 := blk_cell (H11.out.box 4 rfl) 0 (.int .i64 k2) rfl
      have x1 := blk_cell (H11.out.box 4 rfl) 1 (.string e.path) rfl
      have zs := heap_lt (H11.out.box 4 rfl)
      clear H11
      have hL : ∀ v, (getK d.recs s).map (fun r : WR => Value.map (some r.b)) = v → getK (d.recs.map fun p => (p.1, Value.map (some p.2.b))) s = v := fun v h => by rw [← h]; exact getK_map (fun q : WR => Value.map (some q.b)) d.recs s
      cases hr : getK d.recs s with
      | none =>
        have HLB : Hid ((getK (d.recs.map fun p => (p.1, Value.map (some p.2.b))) s).getD (.map none) = .map none) := Lib.hid (by rw [hL none (by rw [hr]; rfl)]; rfl)
        have HR := Lib.hid hr
        clear hr hL
        have hl := look_at (H12.out.mapL 2 rfl) mapBy (zeroMapI _) s trivial HLB.out
        rw [HSP.out.2.2] at hl
        go_still_tail 6, (by kernel_rfl)
        change wpList _ _ _ _ _ W10.drew
        clear c0 zw x0 x1 zs hl
        generalize W10.drew = W12 at H12 ⊢
        refine wpList_rangeN mapInts rfl ?_
        go_wp2
        go_meet
        case rel =>
         refine ⟨W12.heap.size, 0, rfl, .inl ⟨HR.out, rfl, ?_⟩⟩
         exact (St.newOb (H12.out.nilSlice 3 1) ((Mod.refl _ _).alloc _) (Nat.le_refl _) (heap_alloc_new _ _))
      | some r =>
        have HLB : Hid ((getK (d.recs.map fun p => (p.1, Value.map (some p.2.b))) s).getD (.map none) = .map (some r.b)) := Lib.hid (by rw [hL (some (.map (some r.b))) (by rw [hr]; rfl)]; rfl)
        have HR := Lib.hid hr
        clear hr hL
        have hl := look_at (H12.out.mapL 2 rfl) mapBy (zeroMapI _) s trivial HLB.out
        rw [HSP.out.2.2] at hl
        go_still_tail 6, (by kernel_rfl)
        change wpList _ _ _ _ _ W10.drew
        clear c0 zw x0 x1 zs hl
        generalize W10.drew = W12 at H12 ⊢
        have H13 : Hid (St w0 W12 (r.own :: sl 3 1 none 0 0 [] :: grp ((delK d.recs s).map fun p => p.2.own) :: bx wb #[.map (some d.bb), .map (some d.mb)] 181 :: mpl kbSpot d.bb (d.recs.map fun p => (p.1, .map (some p.2.b))) :: mpl kbI d.mb (d.many.map fun p => (p.1, .int .i64 p.2)) :: bx sb #[.int .i64 k2, .string e.path] 206 :: sl 3 1 wa who.length wq (who.map (Value.int .i64)) :: sl 3 1 (some ⟨b2, o2, none⟩) kn kc (ks.map (Value.int .i64)) :: bx xb #[.int .i64 e.kind, .string e.path, .int .i64 e.zxid] 113 :: sl 140 4 oa m oc tc :: sl 113 3 (some ⟨b, o, none⟩) n ec (evs.flatMap Evt.cells) :: l)) := Lib.hid (((H12.out.wOut HND.out HR.out).nilSlice 3 1).perm (List.Perm.swap _ _ _))
        refine wpList_rangeL (B := kbI) mapInts r.b r.ents (H13.out.mapL 0 rfl) rfl ?_
        intro w2 cnt hR2 hM2 hz2
        have H14 := Lib.hid (H13.out.rangeOn 0 rfl hR2 hM2)
        clear hR2 hM2 hz2 H12
        go_wp2
        go_meet
        case rel =>
         refine ⟨W12.heap.size, cnt, rfl, .inr ⟨r, _, HR.out, by rw [ids_start], H14.out⟩⟩
     case rest =>
      clear H11
      obtain ⟨it, cnt, rfl, hit⟩ := hcut
      have HIT := Lib.hid hit
      clear hit
      go_upto_block 4 with (fail)
      go_cut [12] (fun y wx => ∃ (out : List Int) (la : Option Addr) (lc : Nat), y = .slice la out.length lc ∧ FoundAt w0 wx wb W1 s out la lc (bx sb #[.int .i64 k2, .string e.path] 206 :: sl 3 1 wa who.length wq (who.map (Value.int .i64)) :: sl 3 1 (some ⟨b2, o2, none⟩) kn kc (ks.map (Value.int .i64)) :: bx xb #[.int .i64 e.kind, .string e.path, .int .i64 e.zxid] 113 :: sl 140 4 oa m oc tc :: sl 113 3 (some ⟨b, o, none⟩) n ec (evs.flatMap Evt.cells) :: l))
      case first =>
       go_wp2_with (fail)
       go_loopg [12] cnt (fun g y wr => ∃ (out : List Int) (la : Option Addr) (lc : Nat), y = .slice la out.length lc ∧ Hid (ItAt w0 wr d s it out la lc g (bx wb #[.map (some d.bb), .map (some d.mb)] 181 :: mpl kbSpot d.bb (d.recs.map fun p => (p.1, .map (some p.2.b))) :: mpl kbI d.mb (d.many.map fun p => (p.1, .int .i64 p.2)) :: bx sb #[.int .i64 k2, .string e.path] 206 :: sl 3 1 wa who.length wq (who.map (Value.int .i64)) :: sl 3 1 (some ⟨b2, o2, none⟩) kn kc (ks.map (Value.int .i64)) :: bx xb #[.int .i64 e.kind, .string e.path, .int .i64 e.zxid] 113 :: sl 140 4 oa m oc tc :: sl 113 3 (some ⟨b, o, none⟩) n ec (evs.flatMap Evt.cells) :: l)))
       case atStart => exact ⟨[], none, 0, rfl, HIT⟩
       case round =>
        clear HIT
        obtain ⟨out, la, lc, rfl, hit⟩ := hrel
        rcases hit.out with ⟨hr, rfl, hS⟩ | ⟨r, left, hr, hp, hS⟩
        ·have HOB := Lib.hid (hS.obAt 0 rfl)
         have HS := Lib.hid hS
         have HR := Lib.hid hr
         clear hit hr hS
         go_wp2_with (at_next; refine wpList_nextN HOB.out rfl ?_)
         go_meet
         case rel => exact ⟨[], la, lc, rfl, found_none HT.out HR.out HS.out⟩
        ·have hle := it_len HT.out HND.out hr hp
         have HS := Lib.hid hS
         have HR := Lib.hid hr
         have HP2 := Lib.hid (And.intro hp (Nat.le_trans hle HW1.out.2))
         clear hit hr hS hp hle
         go_wp2_with (at_next; refine wpList_nextL (B := kbI) r.b r.ents (HS.out.rangeL 0 rfl) rfl ?_ ?_)
         ·intro hl0
          have HL0 := Lib.hid hl0
          clear hl0
          go_wp2
          go_meet
          case rel => exact ⟨out, la, lc, rfl, found_some HT.out HND.out HR.out HL0.out HP2.out.1 HS.out⟩
         ·intro x v w3 cnt2 hg hxl hR3 hlt3 hM3 hz3 hen
          have hst := ids_step ((HS.out.rangeL 0 rfl).mapL.nodup) hg hxl
          have H3 := Lib.hid (HS.out.goOnL 0 rfl hR3 hM3)
          have HST := Lib.hid hst
          rw [show kbI.inj x = Value.int .i64 x from rfl] at hen ⊢
          obtain ⟨L, hL⟩ : ∃ L, out.length = L := ⟨_, rfl⟩
          have HL := Lib.hid hL
          have HLE : Hid (L ≤ 10000) := Lib.hid (by rw [← hL]; exact HP2.out.2)
          have HSL := H3.out.slice 1 rfl
          rw [hL] at HSL ⊢
          have HSLH := Lib.hid HSL
          clear hg hxl hR3 hM3 hz3 hst hL HSL
          go_wp2_with (at_builtin; refine wpList_append 3 ip iz 1 8 (by kernel_rfl) HI.out.1 HI.out.2.1 HI.out.2.2.1 HI.out.2.2.2.1 HI.out.2.2.2.2 la L lc (out.map (Value.int .i64)) rfl (HSLH.out.mod ((Mod.refl (fun _ => False) w3).alloc (.cells #[.int .i64 x] 3)) (fun _ _ h => h)) (some ⟨w3.heap.size, 0, none⟩) 1 1 [.int .i64 x] rfl (Sl.new (E := 3) (k := 1) (n := 1) (heap_alloc_new w3 _) (by simp) (by unfold maxLen; omega)).rd (by intro u hu; rw [List.mem_singleton] at hu; subst hu; rfl) (by have := HLE.out; unfold maxLen; omega) (by have := HLE.out; omega) ?_; intro a2 cap2 w6 hS6 hM6 hF6 hN6 hR6)
          have hH3 := (H3.out.mod ((Mod.refl (fun _ => False) w3).alloc (.cells #[.int .i64 x] 3)))
          have h8 := hH3.regrow 1 rfl hS6 hM6 hF6
          simp only [List.set_cons_zero, List.set_cons_succ] at h8
          have e8 : (out.map (Value.int .i64)) ++ [.int .i64 x] = (out ++ [x]).map (Value.int .i64) := by rw [List.map_append]; rfl
          have e9 : L + 1 = (out ++ [x]).length := by rw [List.length_append, HL.out]; rfl
          rw [e8, e9] at h8
          go_roundg cnt2
          case measure => exact hlt3
          case rel =>
           refine ⟨out ++ [x], a2, cap2, by rw [← e9], Lib.hid (.inr ⟨r, _, HR.out, ?_, h8⟩)⟩
           exact (HP2.out.1.append_right _).trans HST.out.symm
      case rest =>
       clear HIT
       obtain ⟨out, la, lc, rfl, hF1, hF2, hF3, hS⟩ := hcut
       obtain ⟨L, hL⟩ : ∃ L, out.length = L := ⟨_, rfl⟩
       have hF1k := hF1
       rw [HSP.out.1, HSP.out.2.1] at hF1
       have hL1 : L ≤ 10000 := by
        have h1 := hF1.length_eq
        rw [List.length_map] at h1
        have h2 := List.length_filter_le (atK k2 e.path) W1
        have := HW1.out.2
        omega
       have HFO := Lib.hid (And.intro hF1 (And.intro hF2 hF3))
       have HLL := Lib.hid (And.intro hL hL1)
       rw [hL] at hS ⊢
       have HS4 := Lib.hid hS
       clear hF1 hF2 hF3 hF1k hL hS HT HND
       have hL63 : (L : Int) ≤ 10000 := by have := HLL.out.2; omega
       clear hL1
       go_upto_block 6 with (fail)
       go_cut [] (fun wx => St w0 wx (wtb wb (F.1.filter fun x => !atKs (ks.take (j + 1)) e.path x) :: sl 3 1 la L lc (out.map (Value.int .i64)) :: (bx sb #[.int .i64 k2, .string e.path] 206 :: sl 3 1 wa who.length wq (who.map (Value.int .i64)) :: sl 3 1 (some ⟨b2, o2, none⟩) kn kc (ks.map (Value.int .i64)) :: bx xb #[.int .i64 e.kind, .string e.path, .int .i64 e.zxid] 113 :: sl 140 4 oa m oc tc :: sl 113 3 (some ⟨b, o, none⟩) n ec (evs.flatMap Evt.cells) :: l)))
       case first =>
        go_wp2_with (fail)
        go_loopg [53] L (fun g y wr => ∃ i : Nat, i + g = L ∧ y = .int .i64 i ∧ St w0 wr (wtb wb (cutW W1 k2 e.path out i) :: sl 3 1 la L lc (out.map (Value.int .i64)) :: (bx sb #[.int .i64 k2, .string e.path] 206 :: sl 3 1 wa who.length wq (who.map (Value.int .i64)) :: sl 3 1 (some ⟨b2, o2, none⟩) kn kc (ks.map (Value.int .i64)) :: bx xb #[.int .i64 e.kind, .string e.path, .int .i64 e.zxid] 113 :: sl 140 4 oa m oc tc :: sl 113 3 (some ⟨b, o, none⟩) n ec (evs.flatMap Evt.cells) :: l)))
        case atStart => exact ⟨0, by omega, rfl, by rw [cutW_zero]; exact HS4.out⟩
        case round =>
         clear HS4
         obtain ⟨i, hig, rfl, hS⟩ := hrel
         by_cases hi4 : i < L
         ·have hx : out[i]? = some (out[i]'(by rw [HLL.out.1]; exact hi4)) := List.getElem?_eq_getElem _
          obtain ⟨id, hxx⟩ : ∃ x, out[i]'(by rw [HLL.out.1]; exact hi4) = x := ⟨_, rfl⟩
          rw [hxx] at hx
          obtain ⟨b3, o3, hla, hbl3, hc3⟩ := (hS.slice 1 rfl).rd.intAt hx
          subst hla
          have CG := gone_st wb _ hS s id (HFO.out.2.1 id (List.mem_of_getElem? hx)) (by rw [HSP.out.1, HSP.out.2.1]; exact cutW_mem hx HFO.out.2.2 HFO.out.1) (by have := cutW_le W1 k2 e.path out i; have := HW1.out.2; omega)
          rw [HSP.out.1, HSP.out.2.1, cutW_snoc W1 k2 e.path hx] at CG
          have CGH := Lib.hid CG
          have x0 := blk_cell (hS.box 2 rfl) 0 (.int .i64 k2) rfl
          have x1 := blk_cell (hS.box 2 rfl) 1 (.string e.path) rfl
          have zs := heap_lt (hS.box 2 rfl)
          clear hx hxx CG hS
          go_wp2_with (go_at_call 109; refine CGH.out.mono ?_; rintro e3 w3 ⟨rfl, hS3⟩; have HS3 := Lib.hid hS3; clear hS3)
          go_roundg (L - (i + 1))
          case measure => omega
          case rel => exact ⟨i + 1, by omega, by simp, HS3.out⟩
         ·have hk : cutW W1 k2 e.path out i = F.1.filter fun x => !atKs (ks.take (j + 1)) e.path x := by
           have : i = out.length := by rw [HLL.out.1]; omega
           rw [this, cutW_all HFO.out.1, ← HW1.out.1, gone_kind _ _ HX2.out]
          rw [hk] at hS
          have HS := Lib.hid hS
          clear hk hS
          go_wp2
          go_meet
          case rel => exact HS.out
       case rest =>
        clear HS4
        have HS5 := Lib.hid hcut
        clear hcut
        have HWL : Hid (who.length ≤ 10000) := Lib.hid (by
         have h1 := HWHO.out.length_eq
         rw [List.length_map] at h1
         have h2 := List.length_filter_le (atKs (ks.take j) e.path) F.1
         have := HB.out.1
         omega)
        obtain ⟨wn, hwn⟩ : ∃ wn, who.length = wn := ⟨_, rfl⟩
        have HWN := Lib.hid hwn
        rw [hwn] at HS5 HWL ⊢
        clear hwn
        go_wp2_with (at_builtin; refine wpList_append 3 ip iz 1 8 (by kernel_rfl) HI.out.1 HI.out.2.1 HI.out.2.2.1 HI.out.2.2.2.1 HI.out.2.2.2.2 wa wn wq (who.map (Value.int .i64)) rfl (HS5.out.slice 3 rfl) la L lc (out.map (Value.int .i64)) rfl (HS5.out.slice 1 rfl).rd (by intro u hu; obtain ⟨z, _, rfl⟩ := List.mem_map.1 hu; rfl) (by have := HWL.out; have := HLL.out.2; unfold maxLen; omega) (by have := HWL.out; have := HLL.out.2; omega) ?_; intro a9 cap9 w9 hS9 hM9 hF9 hN9 hR9)
        have h9 := HS5.out.regrow 3 rfl hS9 hM9 hF9
        simp only [List.set_cons_zero, List.set_cons_succ] at h9
        have e8 : (who.map (Value.int .i64)) ++ (out.map (Value.int .i64)) = (who ++ out).map (Value.int .i64) := by rw [List.map_append]
        have e9 : wn + L = (who ++ out).length := by rw [List.length_append, HWN.out, HLL.out.1]
        rw [e8, e9] at h9
        have h10 := ((h9.pick 3 rfl).perm (List.Perm.swap _ _ _)).sub (((List.Sublist.refl _).cons _ |>.cons _).cons_cons _ |>.cons_cons _)
        go_roundg (kn - (j + 1))
        case measure => omega
        case rel =>
         refine ⟨j + 1, who ++ out, a9, cap9, by omega, by simp, by rw [← e9], Lib.hid ?_, h10⟩
         refine told_kind F.1 e.path HX2.out HKS.out.2.1 HWHO.out ?_
         have := HFO.out.1
         rwa [← HW1.out.1] at this
    ·have hjk : j = kn := by omega
     subst hjk
     have htk : ks.take j = ks := List.take_of_length_le (by rw [HKN.out]; omega)
     have hwho := HWHO.out
     rw [htk] at hS hwho
     rw [left_eq HKS.out.1] at hS
     have hR := who_eq HKS.out.1 hwho
     have hwl : who.length ≤ 10000 := by
      have h1 := hwho.length_eq
      rw [List.length_map] at h1
      have h2 := List.length_filter_le (atKs ks e.path) F.1
      have := HB.out.1
      omega
     obtain ⟨R, hRR⟩ : ∃ R, Watch.who F.1 e = R := ⟨_, rfl⟩
     obtain ⟨V, hV⟩ : ∃ V, Watch.left F.1 e = V := ⟨_, rfl⟩
     obtain ⟨wn, hwn⟩ : ∃ wn, who.length = wn := ⟨_, rfl⟩
     have hRl : R.length ≤ 10000 := by
      rw [← hRR]; exact Nat.le_trans (who_le F.1 e) HB.out.1
     rw [hRR] at hR
     rw [hV, hwn] at hS
     rw [hwn] at hwl ⊢
     have CS := Lib.hid (sortInt_any wr wa wn wq who (hS.slice 1 rfl) (by omega))
     have CC := Lib.hid (fun w' (h : Sl w' 3 1 wa wn wq ((who.mergeSort leI).map (Value.int .i64))) => compactInt_any w' wa wn wq (who.mergeSort leI) h (by omega))
     rw [hR] at CC
     obtain ⟨rn, hrn⟩ : ∃ rn, R.length = rn := ⟨_, rfl⟩
     rw [hrn] at CC hRl
     have HRV := Lib.hid (And.intro hRR (And.intro hV hrn))
     have HRL := Lib.hid hRl
     have HS := Lib.hid hS
     clear htk hwho hR hwl hRR hV hwn hrn hRl hS HWHO
     go_wp2_with (first
      | (go_at_call 110; refine CS.out.mono ?_; rintro e4 w4 ⟨rfl, hs4, hM4⟩; have HS4 := Lib.hid (HS.out.regrow 1 rfl hs4 hM4 (fun b hb => .inl hb)); clear hs4 hM4)
      | (go_at_call 111; refine (CC.out _ (HS4.out.slice 1 rfl)).mono ?_; rintro e5 w5 ⟨rfl, hs5, hM5⟩; have HS5 := Lib.hid (HS4.out.regrow 1 rfl hs5 hM5 (fun b hb => .inl hb)); clear hs5 hM5))
     have HS6 : Hid (St w0 w5 (wtb wb V :: sl 3 1 wa rn wq (R.map (Value.int .i64)) :: sl 3 1 ka j kc (ks.map (Value.int .i64)) :: bx xb #[.int .i64 e.kind, .string e.path, .int .i64 e.zxid] 113 :: sl 140 4 oa m oc tc :: sl 113 3 (some ⟨b, o, none⟩) n ec (evs.flatMap Evt.cells) :: l)) := Lib.hid HS5.out
     clear HS4 HS5 CS CC HS
     go_loopg [5, 71] rn (fun g y5 y wr => ∃ (i : Nat) (oa2 : Option Addr) (oc2 : Nat), i + g = rn ∧ y = .int .i64 i ∧ y5 = .slice oa2 (m + i : Nat) oc2 ∧ St w0 wr (wtb wb V :: sl 3 1 wa rn wq (R.map (Value.int .i64)) :: sl 3 1 ka j kc (ks.map (Value.int .i64)) :: bx xb #[.int .i64 e.kind, .string e.path, .int .i64 e.zxid] 113 :: sl 140 4 oa2 (m + i) oc2 (tc ++ (R.take i).flatMap fun z => toldC (z, e)) :: sl 113 3 (some ⟨b, o, none⟩) n ec (evs.flatMap Evt.cells) :: l))
     case atStart => exact ⟨0, oa, oc, by omega, rfl, rfl, by rw [List.take_zero, List.flatMap_nil, List.append_nil]; exact HS6.out⟩
     case round =>
      clear HS6
      obtain ⟨i, oa2, oc2, hig, rfl, rfl, hS⟩ := hrel
      have hrl := HRL.out
      by_cases hi5 : i < rn
      ·have hx : R[i]? = some (R[i]'(by rw [HRV.out.2.2]; exact hi5)) := List.getElem?_eq_getElem _
       obtain ⟨z, hxx⟩ : ∃ x, R[i]'(by rw [HRV.out.2.2]; exact hi5) = x := ⟨_, rfl⟩
       rw [hxx] at hx
       obtain ⟨b4, o4, hwa, hbl4, hc4⟩ := (hS.slice 1 rfl).rd.intAt hx
       subst hwa
       have x0 := blk_cell (hS.box 3 rfl) 0 (.int .i64 e.kind) rfl
       have x1 := blk_cell (hS.box 3 rfl) 1 (.string e.path) rfl
       have x2 := blk_cell (hS.box 3 rfl) 2 (.int .i64 e.zxid) rfl
       have zx := heap_lt (hS.box 3 rfl)
       have HX3 := Lib.hid hx
       have HS := Lib.hid hS
       clear hx hxx hS
       have hS1 := HS.out.mod ((Mod.refl (fun _ => False) wr).alloc (.cells #[.int .i64 z, .int .i64 e.kind, .string e.path, .int .i64 e.zxid] 140))
       have HS1 := Lib.hid hS1
       obtain ⟨mi, hmi⟩ : ∃ mi, m + i = mi := ⟨_, rfl⟩
       have HMI : Hid (m + i = mi ∧ mi ≤ 11000000) := Lib.hid ⟨hmi, by have := HB.out.2; omega⟩
       rw [hmi] at HS1 ⊢
       clear hS1 hmi
       go_wp2_with (at_builtin; refine wpList_append 140 tp tz 4 40 (by kernel_rfl) HTI.out.1 HTI.out.2.1 HTI.out.2.2.1 HTI.out.2.2.2.1 HTI.out.2.2.2.2 oa2 mi oc2 (tc ++ (R.take i).flatMap fun z => toldC (z, e)) rfl (HS1.out.slice 4 rfl) (some ⟨wr.heap.size, 0, none⟩) 1 1 [.int .i64 z, .int .i64 e.kind, .string e.path, .int .i64 e.zxid] rfl (Sl.new (E := 140) (k := 4) (n := 1) (heap_alloc_new wr _) (by simp) (by unfold maxLen; omega)).rd (by intro u hu; simp only [List.mem_cons, List.not_mem_nil, or_false] at hu; rcases hu with rfl | rfl | rfl | rfl <;> rfl) (by have := HMI.out.2; unfold maxLen; omega) (by have := HMI.out.2; omega) ?_; intro a9 cap9 w9 hS9 hM9 hF9 hN9 hR9)
       have h9 := HS1.out.regrow 4 rfl hS9 hM9 hF9
       simp only [List.set_cons_zero, List.set_cons_succ] at h9
       have e8 : (tc ++ (R.take i).flatMap fun z => toldC (z, e)) ++ [.int .i64 z, .int .i64 e.kind, .string e.path, .int .i64 e.zxid] = tc ++ (R.take (i + 1)).flatMap fun z => toldC (z, e) := by
        rw [List.take_add_one, HX3.out, List.append_assoc, List.flatMap_append]
        rfl
       rw [e8, ← HMI.out.1, Nat.add_assoc] at h9
       go_roundg (rn - (i + 1))
       case measure => omega
       case rel => exact ⟨i + 1, a9, cap9, by omega, by simp, by rw [← HMI.out.1, Nat.add_assoc], h9⟩
      ·have hik : i = rn := by omega
       subst hik
       have HS := Lib.hid hS
       clear hS
       go_wp2
       go_roundg (n - (k + 1))
       case measure => omega
       case rel =>
        have hfs : Watch.fire W (evs.take (k + 1)) = (V, F.2 ++ R.map fun s => (s, e)) := by
         rw [List.take_add_one, HX.out]
         show Watch.fire W (evs.take k ++ [e]) = _
         rw [fire_snoc, HF.out, HRV.out.1, HRV.out.2.1]
        have hS := HS.out
        rw [List.take_of_length_le (by rw [HRV.out.2.2]; omega)] at hS
        have h10 := ((hS.pick 4 rfl)).sub ((((List.Sublist.refl _).cons _ |>.cons _ |>.cons _).cons_cons _ ).cons_cons _)
        have e1 : (F.2 ++ R.map fun s => (s, e)).length = m + i := by rw [List.length_append, List.length_map, HM.out.1, HRV.out.2.2]
        have e2 : (F.2 ++ R.map fun s => (s, e)).flatMap toldC = tc ++ R.flatMap fun z => toldC (z, e) := by rw [List.flatMap_append, HM.out.2, List.flatMap_map]
        refine ⟨k + 1, oa2, oc2, by omega, by simp, ?_, ?_⟩
        ·rw [hfs]; show _ = Value.slice oa2 (F.2 ++ R.map fun s => (s, e)).length oc2; rw [e1]
        ·rw [hfs]
         show St w0 _ (sl 140 4 oa2 (F.2 ++ R.map fun s => (s, e)).length oc2 ((F.2 ++ R.map fun s => (s, e)).flatMap toldC) :: wtb wb V :: _)
         rw [e1, e2]
         exact h10
  ·have hk : evs.take k = evs := List.take_of_length_le (by rw [HN.out]; omega)
   rw [hk] at hS ⊢
   have HS := Lib.hid hS
   clear hk hS
   go_wp2
   go_ret
   exact ⟨oa, oc, rfl, HS.out⟩
end Go.Proofs.YtonnbkebjeoflaaGreatDoor
