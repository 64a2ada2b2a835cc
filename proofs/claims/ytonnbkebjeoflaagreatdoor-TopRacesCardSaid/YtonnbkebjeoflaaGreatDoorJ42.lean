/-
  Laws of Rep.
  Conditions: each law states its own.
-/
import Derived.Laws.OwnMore
import Derived.Laws.CopyRow
import Derived.Test.YtonnbkebjeoflaaGreatDoorJ0
import Derived.Test.YtonnbkebjeoflaaGreatDoorJ11
import Derived.Test.YtonnbkebjeoflaaGreatDoorJ29
set_option maxHeartbeats 16000000
set_option linter.unusedSectionVars false
set_option linter.unusedSimpArgs false
set_option linter.unusedVariables false
set_option maxRecDepth 100000
namespace Go.Proofs.YtonnbkebjeoflaaGreatDoor
open Go.RowKit Go.Maps
def rpS (p : Tree.Rp1) : List Value := RpC p none 0 none 0 none 0 0
theorem infoRpR : (Tryz.prog.info? 33).map (fun i => (i.zero.map (·.cells.size), i.size, i.bytes)) = some (some 17, 17, 200) := by kernel_rfl
section
variable {P : Program}
theorem run_copy_k (w : World) (dT sT ty elem : TypeId) (k g o dLen dCap : Nat) (a : Addr) (sLen sCap : Nat) (cur : Array Value) (t : TypeId) (cs : List Value)
 (hu : P.underlying dT = some (.slice elem)) (hs : (P.info? elem).map (·.size) = some k)
 (hg : w.heap[g]? = some (.cells cur t (0, 0))) (hn : cs.length = Nat.min sLen dLen * k)
 (hsrc : ∀ j v, cs[j]? = some v → w.cell? (a.add j) = some v) (hfit : o + cs.length ≤ cur.size) (h1 : ∀ v ∈ cs, v.oneCell' = true) :
 (Builtin.copy_ #[dT, sT] ty #[.slice (some ⟨g, o, none⟩) dLen dCap, .slice (some a) sLen sCap]).run P w =
  .ok (goInt (Nat.min sLen dLen)) (w.setRow g (splice cur.toList o cs).toArray) := by
 have hl := run_loadCells_list (P := P) w a cs hsrc
 have hst := run_storeCells_at P g o t cs 0 cur w hg (by simpa using hfit) h1
 cases hq : P.info? elem with
 | none => simp [hq] at hs
 | some i =>
   have hi : i.size = k := by simpa [hq] using hs
   rw [hn] at hl
   simp [Builtin.copy_, run_underlying hu, Builtin.lenOf, Builtin.firstCells, sizeOf, typeInfo, hq, hi, hl, hst, splice]
theorem wpList_copy_k {ops : Array Oper} {rest : List Oper} {dst : Option Tmp} {ty0 : TypeId} {pos : String} {after : Array Edge} {a : Act} {w : World} {Q : Exit → Act → World → Prop} {x y : Operand} {dT sT : TypeId} (elem : TypeId) (k : Nat) (hu : P.underlying dT = some (.slice elem)) (hs : (P.info? elem).map (·.size) = some k)
 (g o dLen dCap : Nat) (ad : Addr) (sLen sCap : Nat) (hx : a.eval x = .slice (some ⟨g, o, none⟩) dLen dCap) (hy : a.eval y = .slice (some ad) sLen sCap) (cur : Array Value) (t : TypeId) (cs : List Value)
 (hg : w.heap[g]? = some (.cells cur t (0, 0))) (n : Nat) (hm : Nat.min sLen dLen = n) (hn : cs.length = n * k)
 (hsrc : ∀ j v, cs[j]? = some v → w.cell? (ad.add j) = some v) (hfit : o + cs.length ≤ cur.size) (h1 : ∀ v ∈ cs, v.oneCell' = true)
 (h : ∀ w', w'.heap[g]? = some (.cells (splice cur.toList o cs).toArray t (0, 0)) → Mod (fun x => x = g) w w' → w'.heap.size = w.heap.size → wpList P ops Q rest (a.put dst (.int .i64 n)) w') :
 wpList P ops Q (⟨dst, .call { callee := .builtin .copy, args := #[x, y], argTypes := #[dT, sT] }, ty0, pos, after, none⟩ :: rest) a w :=
 wpList_plain rfl fun K hK => by
  have hr := run_copy_k (P := P) w dT sT ty0 elem k g o dLen dCap ad sLen sCap cur t cs hu hs hg (by rw [hm]; exact hn) hsrc hfit h1
  rw [hm] at hr
  unfold Oper.wp execOp
  simp only [resolve, invoke, builtin, Sem.run_bind, Sem.run_pure, Result.andThen_ok, List.map_toArray, List.map_cons, List.map_nil, hx, hy, hr]
  exact hK _ _ (h _ (setRow_heap w g cur _ t _ hg) ((Mod.refl _ w).setRow _ _ (fun _ => rfl)) (size_setRow _ _ _))
theorem step_copy_k {ops : Array Oper} {o : Oper} {a : Act} {w : World} {K : Act → World → Prop} {Q : Exit → Act → World → Prop} {G : Prop} (hgd : o.guard = none) {x y : Operand} {dT sT : TypeId} (ho : o.op = .call { callee := .builtin .copy, args := #[x, y], argTypes := #[dT, sT] }) (elem : TypeId) (k : Nat) (hu : P.underlying dT = some (.slice elem)) (hs : (P.info? elem).map (·.size) = some k)
 (g off dLen dCap : Nat) (ad : Addr) (sLen sCap : Nat) (hx : a.eval x = .slice (some ⟨g, off, none⟩) dLen dCap) (hy : a.eval y = .slice (some ad) sLen sCap) (cur : Array Value) (t : TypeId) (cs : List Value)
 (hg : w.heap[g]? = some (.cells cur t (0, 0))) (n : Nat) (hm : Nat.min sLen dLen = n) (hn : cs.length = n * k)
 (hsrc : ∀ j v, cs[j]? = some v → w.cell? (ad.add j) = some v) (hfit : off + cs.length ≤ cur.size) (h1 : ∀ v ∈ cs, v.oneCell' = true)
 (h : ∀ w', w'.heap[g]? = some (.cells (splice cur.toList off cs).toArray t (0, 0)) → Mod (fun x => x = g) w w' → w'.heap.size = w.heap.size → K (a.put o.dst (.int .i64 n)) w') :
 if Region.wanted o (yielded ops a.tmps) = true then Oper.wp P o a w K Q else G := by
 have hw : Region.wanted o (yielded ops a.tmps) = true := by simp [Region.wanted, hgd]
 rw [if_pos hw]
 have hr := run_copy_k (P := P) w dT sT o.type elem k g off dLen dCap ad sLen sCap cur t cs hu hs hg (by rw [hm]; exact hn) hsrc hfit h1
 rw [hm] at hr
 unfold Oper.wp
 simp [execOp, ho, resolve, invoke, builtin, hx, hy, hr, Result.andThen]
 exact h _ (setRow_heap w g cur _ t _ hg) ((Mod.refl _ w).setRow _ _ (fun _ => rfl)) (size_setRow _ _ _)
end
def timesL (n : Nat) (e : List Value) : List Value := (List.replicate n e).flatten
theorem timesL_len (n : Nat) (e : List Value) : (timesL n e).length = n * e.length := by
 unfold timesL; rw [List.length_flatten, List.map_replicate, List.sum_replicate_nat]
theorem timesL_add (n j : Nat) (e : List Value) : timesL (n + j) e = timesL n e ++ timesL j e := by
 unfold timesL; rw [← List.flatten_append, List.replicate_append_replicate]
theorem timesL_mem {n : Nat} {e : List Value} {u : Value} (h : u ∈ timesL n e) : u ∈ e := by
 unfold timesL at h
 obtain ⟨l, hl, hu⟩ := List.mem_flatten.1 h
 rw [List.eq_of_mem_replicate hl] at hu
 exact hu
theorem timesL_flat {α : Type} (n : Nat) (x : α) (f : α → List Value) : timesL n (f x) = (List.replicate n x).flatMap f := by
 unfold timesL; rw [List.flatMap_def, List.map_replicate]
theorem timesL_pre {n j : Nat} (h : j ≤ n) (e : List Value) : timesL n e = timesL j e ++ timesL (n - j) e := by
 rw [← timesL_add]; congr 1; omega
theorem splice_take {c : List Value} {o : Nat} {cs : List Value} (h : o + cs.length ≤ c.length) : (splice c o cs).take (o + cs.length) = c.take o ++ cs := by
 unfold splice
 rw [List.take_append_of_le_length (by rw [List.length_append, List.length_take]; omega), List.take_of_length_le (by rw [List.length_append, List.length_take]; omega)]
theorem repeat_any (a : Option Addr) (e : List Value) (he : e.length = 17) (h1 : ∀ u ∈ e, u.oneCell' = true) (w : World) (hr : Rd w 17 a 1 1 e) (m : Nat) (hm : m < 8) :
 Calls Tryz.prog 44 #[.slice a 1 1, .int .i64 m] w (NewSl 33 17 (timesL m e) m w) := by
 obtain ⟨ip, iz, hi1, hi2, hi3, hi4, hi5⟩ := info_rowT infoRpR
 have ut : Tryz.prog.underlying 31 = some (.slice 33) := by kernel_rfl
 have us : (Tryz.prog.info? 33).map (·.size) = some 17 := by kernel_rfl
 have hw1 : IntKind.u64.wrap (m : Int) = m := by simp [IntKind.wrap, IntKind.bits, IntKind.signed]; omega
 have hw2 : IntKind.i64.wrap (m : Int) = m := by simp [IntKind.wrap, IntKind.bits, IntKind.signed]; omega
 have CM := Lib.hid (Tryz.bits_Mul 1 m (by omega) (by omega) w)
 obtain ⟨w2, hmk, hrow, hgr⟩ := run_makeSlice_full (P := Tryz.prog) (w := w) w.heap.size 31 33 ip iz 17 ut hi1 hi2 hi3 .i64 .i64 m (by omega) (by rw [hi4]; omega) (by unfold maxLen; omega) (Nat.le_refl _)
 have hmod : Mod (fun _ => False) w w2 := ⟨hgr.os, hgr.tape, hgr.output, hgr.size, fun x hx _ => hgr.block x hx (by simp)⟩
 obtain ⟨a2, cap2, he2, hs2, hf2⟩ := ownsRow_sl hrow
 injection he2 with he3 he4 he5
 subst he3
 obtain ⟨-, -, -, ⟨h0, _⟩ | ⟨b, off, c, hb, hh, hfit, htk⟩⟩ := hs2
 ·cases h0
 injection hb with hb
 injection hb with hb1 hb2
 subst hb1 hb2
 rw [← he5] at hfit
 have hgz : c.toList.take (0 * 17) = timesL 0 e := by simp [timesL]
 have HB : Hid (St w w2 [bx w.heap.size c 33]) := Lib.hid ((St.start w).cons (F := fun x => x = w.heap.size) hmod ⟨hh, fun _ => Iff.rfl⟩ (fun x hx => by rw [hx]; exact Nat.le_refl _))
 have HMK := Lib.hid hmk
 obtain ⟨hl, -, -, ⟨h0, h00⟩ | ⟨ad, rfl, hsrc⟩⟩ := hr.mod hmod (fun _ _ h => h)
 ·exact absurd h00 (by omega)
 have HSRC := Lib.hid hsrc
 have H1 := Lib.hid h1
 have HE := Lib.hid he
 have HFT := Lib.hid hfit
 have hsz : (m * 17 : Nat) ≤ c.size := by omega
 have HSZ := Lib.hid hsz
 have h1m : ((1 * m / 18446744073709551616 : Nat) : Int) = 0 := by omega
 have h2m : ((1 * m % 18446744073709551616 : Nat) : Int) = (m : Int) := by omega
 rw [h1m, h2m] at CM
 obtain ⟨q, hq⟩ : ∃ q, Nat.min 1 m = q := ⟨_, rfl⟩
 have hqm : (m = 0 ∧ q = 0) ∨ (0 < m ∧ q = 1) := by
  rcases Nat.eq_zero_or_pos m with h0 | h0
  ·exact .inl ⟨h0, by rw [← hq, h0]; rfl⟩
  ·exact .inr ⟨h0, by rw [← hq]; show min 1 m = 1; omega⟩
 have hcs : ∀ j v, (timesL q e)[j]? = some v → w2.cell? (ad.add j) = some v := fun j v h => by
  refine hsrc j v ?_
  rcases hqm with ⟨_, h0⟩ | ⟨_, h0⟩
  ·rw [h0] at h; simp [timesL] at h
  ·rw [h0] at h; simpa [timesL] using h
 have hqs : 0 + (timesL q e).length ≤ c.size := by
  rw [timesL_len, he]
  rcases hqm with ⟨h1, h0⟩ | ⟨h1, h0⟩
  ·rw [h0]; omega
  ·rw [h0]; omega
 have HQ := Lib.hid hq
 have HQM := Lib.hid hqm
 have HCS := Lib.hid hcs
 have HQS := Lib.hid hqs
 have m63 : m ≤ 9223372036854775807 := by omega
 generalize w.heap.size = nb at HB HMK ⊢
 clear hi1 hi2 hi3 hi4 hi5 hq hqm hcs hqs hmod hh hfit htk hf2 hrow hgr hmk hl hsrc h1 he he4 he5 h1m h2m hsz hgz
 go_enter Tryz.func44, Tryz.ntmps44
 go_upto_region 6 with (go_at_call 72; refine CM.out.mono ?_; rintro e1 w1 ⟨rfl, rfl⟩)
 clear CM
 have hmk := HMK.out
 go_upto_region 7 with (fail)
 clear hmk HMK
 go_wp2_with ((with_reducible refine at_list ?_); refine wpList_copy_k 33 17 ut us nb 0 m m ad 1 1 rfl rfl c _ (timesL q e) (HB.out.box 0 rfl) q HQ.out (by rw [timesL_len, HE.out]) HCS.out HQS.out (fun v hv => H1.out v (timesL_mem hv)) ?_; intro w3 hg3 hM3 hz3; have H3 := Lib.hid (HB.out.rebox 0 rfl hg3 hM3); clear hg3 hM3 hz3)
 clear HB HCS HSRC
 have h3 : St w1 w3 [bx nb (splice c.toList 0 (timesL q e)).toArray 33] := H3.out
 have hl3 : (splice c.toList 0 (timesL q e)).length = c.size := (splice_length (by rw [Array.length_toList]; exact HQS.out)).trans Array.length_toList
 have ht3 : (splice c.toList 0 (timesL q e)).take (q * 17) = timesL q e := by
  have h := splice_take (c := c.toList) (o := 0) (cs := timesL q e) (by rw [Array.length_toList]; exact HQS.out)
  rw [Nat.zero_add, timesL_len, HE.out, List.take_zero, List.nil_append] at h
  exact h
 generalize splice c.toList 0 (timesL q e) = c3 at h3 hl3 ht3
 have H4 := Lib.hid h3
 have HL4 := Lib.hid (And.intro hl3 ht3)
 clear h3 hl3 ht3 H3
 go_loopg [8] m (fun g y wr => ∃ (n : Nat) (cc : List Value), y = .int .i64 n ∧ Hid (n ≤ m ∧ q ≤ n ∧ m - n ≤ g) ∧ Hid (m * 17 ≤ cc.length ∧ cc.take (n * 17) = timesL n e) ∧ St w1 wr [bx nb cc.toArray 33])
 case atStart => exact ⟨q, c3, rfl, Lib.hid ⟨by rcases HQM.out with ⟨h1, h2⟩ | ⟨h1, h2⟩ <;> omega, Nat.le_refl _, by omega⟩, Lib.hid ⟨by rw [HL4.out.1]; exact HSZ.out, HL4.out.2⟩, H4.out⟩
 case round =>
  clear H4 HL4
  obtain ⟨n, cc, rfl, HN, HC, hS⟩ := hrel
  by_cases hlt : n < m
  ·have hn1 : 1 ≤ n := by rcases HQM.out with ⟨h1, h2⟩ | ⟨h1, h2⟩ <;> have := HN.out.2.1 <;> omega
   have HS := Lib.hid hS
   obtain ⟨j, hj⟩ : ∃ j, Nat.min n (m - n) = j := ⟨_, rfl⟩
   have hj2 : j ≤ n ∧ j ≤ m - n ∧ 1 ≤ j := by rw [← hj]; show min n (m - n) ≤ n ∧ min n (m - n) ≤ m - n ∧ 1 ≤ min n (m - n); omega
   have HJ := Lib.hid (And.intro hj hj2)
   have hsl1 : ∀ W, (Instr.sliceAt 31 (.slice (some ⟨nb, 0, none⟩) m m) (some (.int .i64 n)) none none).run Tryz.prog W = .ok (.slice (some ⟨nb, n * 17, none⟩) (m - n) (m - n)) W := fun W => by
    have h := run_cut (P := Tryz.prog) W 31 33 17 ut (by kernel_rfl) (by kernel_rfl) (some ⟨nb, 0, none⟩) m m (some (.int .i64 n)) none none n m m (bounds_l W m m n (by omega) (by omega))
    rw [h, if_neg (by omega)]
    simp [add_none]
   have hsl2 : ∀ W, (Instr.sliceAt 31 (.slice (some ⟨nb, 0, none⟩) m m) none (some (.int .i64 n)) none).run Tryz.prog W = .ok (.slice (some ⟨nb, 0, none⟩) n m) W := fun W => run_upto W 33 17 ut (by kernel_rfl) (by kernel_rfl) _ m m n (.inr ⟨nb, 0, rfl⟩) (by omega) (by unfold maxLen; omega)
   have hadd : IntKind.i64.wrap ((n : Int) + j) = n + j := by simp [IntKind.wrap, IntKind.bits, IntKind.signed]; omega
   clear hS hj hj2
   go_upto_region 9 with (fail)
   have HA := Lib.hid HS.out.drew
   refine wp_region_held_drew (S := fun _ => True) (by kernel_rfl) trivial (fun hHeld => ?_)
   clear HS
   generalize wr.drew = V at HA hHeld ⊢
   refine tk 0 (some 38) ?_ rfl rfl hHeld ?_ ?_
   rotate_left
   ·intro wq hSw; (try dsimp only at hSw); go_simp; try with_reducible rfl
   refine tk 1 (some 39) ?_ rfl rfl hHeld ?_ ?_
   rotate_left
   ·intro wq hSw; (try dsimp only at hSw); go_simp; try with_reducible rfl
   refine tk 2 (some 40) ?_ rfl rfl hHeld ?_ ?_
   rotate_left
   ·intro wq hSw; (try dsimp only at hSw); go_simp; try with_reducible rfl
   try simp only [Act.put, Nat.zero_add, zA, zB, zC]
   refine tk 3 (some 41) ?_ rfl rfl hHeld ?_ ?_
   rotate_left
   ·intro wq hSw; (try dsimp only at hSw); go_simp; try with_reducible rfl
   try simp only [Act.put, Nat.zero_add, zA, zB, zC]
   refine tk 4 (some 42) ?_ rfl rfl hHeld ?_ ?_
   rotate_left
   ·intro wq hSw; (try dsimp only at hSw); go_simp; try with_reducible rfl
   refine tk 5 (some 43) ?_ rfl rfl hHeld ?_ ?_
   rotate_left
   ·intro wq hSw; (try dsimp only at hSw); go_simp; try with_reducible rfl
   try simp only [Act.put, Nat.zero_add, zA, zB, zC]
   refine tk 6 (some 44) ?_ rfl rfl hHeld ?_ ?_
   rotate_left
   ·intro wq hSw; (try dsimp only at hSw); go_simp; try with_reducible rfl
   try simp only [Act.put, Nat.zero_add, zA, zB, zC]
   refine wpAnyH_ready (rs := [7]) (by kernel_rfl) (by simp) ?_
   refine (AllReadyH.cons (o := ⟨some 45, _, _, _, _, _⟩) rfl (fun K hK => ?_) AllReadyH.nil)
   have hcl : n * 17 + (timesL j e).length ≤ cc.length := by
    rw [timesL_len, HE.out]
    have h1 := HC.out.1
    have h2 := HJ.out.2
    have : (n + j) * 17 ≤ m * 17 := Nat.mul_le_mul_right _ (by omega)
    omega
   refine step_copy_k rfl rfl 33 17 ut us nb (n * 17) (m - n) (m - n) ⟨nb, 0, none⟩ n m rfl rfl cc.toArray _ (timesL j e) (HA.out.box 0 rfl) j HJ.out.1 (by rw [timesL_len, HE.out]) (fun i v hv => ?_) (by simpa using hcl) (fun v hv => H1.out v (timesL_mem hv)) ?_
   ·rw [add_none]
    refine blk_cell (HA.out.box 0 rfl) _ v ?_
    rw [List.getElem?_toArray, Nat.zero_add]
    have h1 := HC.out.2
    have h2 : (timesL n e)[i]? = some v := by
     obtain ⟨hi, _⟩ := List.getElem?_eq_some_iff.1 hv
     rw [timesL_pre HJ.out.2.1, List.getElem?_append_left hi]
     exact hv
    rw [← h1, List.getElem?_take] at h2
    split at h2
    ·exact h2
    ·cases h2
   intro w5 hg5 hM5 hz5
   have H5 := Lib.hid (HA.out.rebox 0 rfl hg5 hM5)
   have HCL := Lib.hid hcl
   clear hg5 hM5 hz5 HA hcl
   refine hK.out _ _ trivial (fun hHeld => ?_)
   clear hK K
   try simp only [Act.put, Nat.zero_add, zA, zB, zC]
   refine tk 8 (some 46) ?_ rfl rfl hHeld ?_ ?_
   rotate_left
   ·intro wq hSw; (try dsimp only at hSw); go_simp; try with_reducible rfl
   try simp only [Act.put, Nat.zero_add, zA, zB, zC]
   refine tk 9 (some 8) ?_ rfl rfl hHeld ?_ ?_
   rotate_left
   ·intro wq hSw; (try dsimp only at hSw); go_simp; try with_reducible rfl
   try simp only [Act.put, Nat.zero_add, zA, zB, zC]
   refine wpAnyH_done (by kernel_rfl) ?_ _
   clear hHeld
   go_wp2
   go_roundg (m - (n + j))
   case measure => have := HJ.out.2; have := HN.out; omega
   case rel =>
    have hl5 : (splice cc (n * 17) (timesL j e)).length = cc.length := splice_length HCL.out
    have ht5 : (splice cc (n * 17) (timesL j e)).take ((n + j) * 17) = timesL (n + j) e := by
     have h := splice_take HCL.out
     rw [timesL_len, HE.out, HC.out.2] at h
     rw [timesL_add, ← h]
     congr 1
     omega
    exact ⟨n + j, splice cc (n * 17) (timesL j e), by push_cast; rfl, Lib.hid ⟨by have := HJ.out.2; omega, by have := HN.out; omega, Nat.le_refl _⟩, Lib.hid ⟨by rw [hl5]; exact HC.out.1, ht5⟩, H5.out⟩
  ·have hnm : n = m := by have := HN.out.1; omega
   subst hnm
   have HS := Lib.hid hS
   clear hS hlt
   go_wp2
   go_ret
   refine ⟨some ⟨nb, 0, none⟩, n, rfl, ⟨by rw [timesL_len, HE.out], Nat.le_refl _, by unfold maxLen; omega, .inr ⟨nb, 0, cc.toArray, rfl, HS.out.box 0 rfl, by have := HC.out.1; simp; omega, by rw [List.drop_zero]; exact HC.out.2⟩⟩, fun b hb => ?_, HS.out.1⟩
   have : b = nb := by simpa [own] using hb.symm
   subst this
   obtain ⟨F1, ⟨_, hF⟩, hz, _⟩ := HS.out.at 0 rfl
   exact hz b ((hF b).2 rfl)
end Go.Proofs.YtonnbkebjeoflaaGreatDoor
