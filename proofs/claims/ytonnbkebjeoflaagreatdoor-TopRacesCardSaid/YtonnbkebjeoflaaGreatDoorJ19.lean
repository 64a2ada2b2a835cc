/-
  Contracts and plain laws of DiskB, WalA.
  Conditions: each law states its own.
-/
import Derived.StillTailTactics
import Derived.Deep.DeepCutAuto
import Derived.Lib.BufferWrite
import Derived.Deep.OwnRows
import Derived.Test.YtonnbkebjeoflaaGreatDoorJ3
import Derived.Test.YtonnbkebjeoflaaGreatDoorJ16
import Derived.Test.YtonnbkebjeoflaaGreatDoorJ18
set_option linter.unusedSectionVars false
set_option linter.unusedSimpArgs false
set_option linter.unusedVariables false
set_option maxRecDepth 100000
namespace Go.Proofs.YtonnbkebjeoflaaGreatDoor
open Go.RowKit Go.Maps Go.ChangeMaps
theorem dsize_any {w0 w : World} {db n m : Nat} {l : List Thing} (i : Nat) (h : St w0 w l) (hi : l[i]? = some (dsk db n m)) (hn : n ≤ 1000000) :
 Calls Tryz.prog 179 #[.pointer (some ⟨db, 0, none⟩)] w (fun e w' => e = .returned (.int .i64 n) ∧ w' = w) := by
 obtain ⟨d, hd, hS⟩ := (h.pick i hi).openD
 have c0 := blk_cell (hS.box 0 rfl) 0 (.slice (some ⟨d.b, 0, none⟩) n n) rfl
 clear h hS hd hi
 go_enter Tryz.func179, Tryz.ntmps179
 go_wp2
 go_ret
 exact ⟨rfl, rfl⟩
theorem has_any {w0 w : World} {db n m : Nat} {l : List Thing} (h : St w0 w (dsk db n m :: l)) (hn : n ≤ 1000000) (k : Nat) (hk : k < n) :
 Calls Tryz.prog 169 #[.pointer (some ⟨db, 0, none⟩), .int .i64 k] w (fun e w' => e = .returned (.bool true) ∧ w' = w) := by
 obtain ⟨d, hd, hS⟩ := h.openD
 have c0 := blk_cell (hS.box 0 rfl) 0 (.slice (some ⟨d.b, 0, none⟩) n n) rfl
 have h1 : (0 : Int) ≤ k := by omega
 have h2 : (k : Int) < n := by omega
 clear h hS hd
 go_enter Tryz.func169, Tryz.ntmps169
 go_wp2
 go_ret
 exact ⟨by simp [hk], rfl⟩
set_option maxHeartbeats 1000000 in
theorem act_st {w0 w : World} {db n m : Nat} {l : List Thing} (h : St w0 w (dsk db n m :: l)) :
 Calls Tryz.prog 170 #[.pointer (some ⟨db, 0, none⟩)] w (StPost (.int .i64 0) w0 (dsk db n m :: l)) := by
 obtain ⟨d, hd, hS⟩ := h.openD
 have HD := Lib.hid hd
 have c2 := blk_cell (hS.box 0 rfl) 2 (.int .i64 d.acts) rfl
 have c3 := blk_cell (hS.box 0 rfl) 3 (.int .i64 0) rfl
 have zd := heap_lt (hS.box 0 rfl)
 have fd := blk_free (hS.box 0 rfl) 2
 have HS := Lib.hid hS
 clear h hS hd
 go_enter Tryz.func170, Tryz.ntmps170
 go_wp2
 go_ret
 refine ⟨rfl, St.shutD ⟨d.b, d.cs, d.ob, d.M, wrap64 (d.acts + 1)⟩ ⟨HD.out.few, HD.out.vals, HD.out.len, HD.out.one⟩ (HS.out.set 0 rfl 2 _)⟩
theorem step_toBytes {P : Program} {ops : Array Oper} {o : Oper} {a : Act} {w : World} {K : Act → World → Prop} {Q : Exit → Act → World → Prop} {G : Prop} (hgd : o.guard = none) {src dt : TypeId} {x : Operand} (ho : o.op = .convert src dt x)
 (e : TypeId) (hs : P.underlying src = some .string) (hd : P.underlying dt = some (.slice e)) (he : P.underlying e = some (.int .u8)) (s : ByteArray) (hx : a.eval x = .string s) (hm : s.size ≤ maxLen)
 (h : ∀ cap w', Rd w' 1 (some ⟨w.heap.size, 0, none⟩) s.size cap (bc s.data.toList) → Mod (fun _ => False) w w' → K (a.put o.dst (.slice (some ⟨w.heap.size, 0, none⟩) s.size cap)) w') : if Region.wanted o (yielded ops a.tmps) = true then Oper.wp P o a w K Q else G := by
 have hw : Region.wanted o (yielded ops a.tmps) = true := by simp [Region.wanted, hgd]
 rw [if_pos hw]
 obtain ⟨cap, w', hr, h1, h2, h3⟩ := toBytes_law (P := P) w src dt e hs hd he s hm
 unfold Oper.wp
 simp [execOp, ho, hx, hr, Result.andThen]
 exact h cap w' h1 h2
theorem step_arrayAt {P : Program} {ops : Array Oper} {o : Oper} {a : Act} {w : World} {K : Act → World → Prop} {Q : Exit → Act → World → Prop} {G : Prop} (hgd : o.guard = none) {ty : TypeId} {x : Operand} (ho : o.op = .sliceToArrayPointer ty x)
 (n : Nat) (e : TypeId) (hu : P.underlying ty = some (.array n e)) (p : Option Addr) (m cap : Nat) (hx : a.eval x = .slice p m cap) (hm : n ≤ m)
 (h : K (a.put o.dst (.pointer p)) w) : if Region.wanted o (yielded ops a.tmps) = true then Oper.wp P o a w K Q else G := by
 have hw : Region.wanted o (yielded ops a.tmps) = true := by simp [Region.wanted, hgd]
 rw [if_pos hw]
 unfold Oper.wp
 have hr : (Instr.arrayAt ty (.slice p m cap)).run P w = .ok (.pointer p) w := by
  unfold Instr.arrayAt
  simp [run_underlying hu, show ¬ m < n by omega, Result.andThen]
 simp [execOp, ho, hx, hr, Result.andThen]
 exact h
theorem step_loadK {P : Program} {ops : Array Oper} {o : Oper} {a : Act} {w : World} {K : Act → World → Prop} {Q : Exit → Act → World → Prop} {G : Prop} (hgd : o.guard = none) {ty : TypeId} {x : Operand} (k : Nat) (d : TypeDesc) (ho : o.op = .load ty x)
 (hu : P.underlying ty = some d) (hd : (match d with | .struct _ | .array _ _ => true | _ => false) = true) (hi : (P.info? ty).map (·.size) = some k) (ad : Addr) (hx : a.eval x = .pointer (some ad)) (cs : List Value) (hl : cs.length = k)
 (hc : ∀ j u, cs[j]? = some u → w.cell? (ad.add j) = some u) (h : K (a.put o.dst (.agg cs.toArray)) w) : if Region.wanted o (yielded ops a.tmps) = true then Oper.wp P o a w K Q else G := by
 have hw : Region.wanted o (yielded ops a.tmps) = true := by simp [Region.wanted, hgd]
 rw [if_pos hw]
 have hr := run_loadAt_chunk (P := P) w ty k d hu hd hi ad cs hl hc
 unfold Oper.wp
 simp [execOp, ho, hx, hr, Result.andThen]
 exact h
theorem LastQ.listP {P : Program} {ops : Array Oper} {n : Nat} {Q : Exit → Act → World → Prop} {o : Oper} {a : Act} {w : World} (hi : ops[n]? = some o) (h : wpList P ops Q [o] a w) : LastQ P ops n Q .normal a w := by
 show wpOp P ops Q n _ a w
 unfold wpOp
 rw [hi]
 exact h
theorem zeroSecV (w : World) : (zeroValue 269).run Tryz.prog w = .ok (.agg (List.replicate 64 (.int .u8 0)).toArray) w := by kernel_rfl
theorem sizeSec : (Tryz.prog.info? 269).map (·.size) = some 64 := by kernel_rfl
set_option maxHeartbeats 16000000 in
theorem dwrite_st {w0 w : World} {db n m : Nat} {l : List Thing} (h : St w0 w (dsk db n m :: l)) (hn : n ≤ 100000) (hm : m ≤ 1000000) (k : Nat) (hk : k < n) (s : ByteArray) (hs : s.size = 64) :
 Calls Tryz.prog 89 #[.pointer (some ⟨db, 0, none⟩), .int .i64 k, .string s] w (StPost (.int .i64 0) w0 (dsk db n (m + 1) :: l)) := by
 have CH := Lib.hid (has_any h (by omega) k hk)
 obtain ⟨d, hd, hS⟩ := h.openD
 obtain ⟨z, hz⟩ : ∃ z : List Value, List.replicate 64 (Value.int .u8 0) = z := ⟨_, rfl⟩
 have hzz : ∀ w, (zeroValue 269).run Tryz.prog w = .ok (.agg z.toArray) w := by intro w; rw [← hz]; exact zeroSecV w
 have hz1 : z.length = 64 ∧ z.all (·.oneCell') = true := by rw [← hz]; exact ⟨by simp, by simp [List.all_replicate, Value.oneCell']⟩
 have hko : okInt (k : Int) := by unfold okInt; omega
 obtain ⟨vs, hv, hvl, hv1⟩ : ∃ vs : List Value, (getK d.M (k : Int)).getD (.agg z.toArray) = .agg vs.toArray ∧ vs.length = 64 ∧ vs.all (·.oneCell') = true := by
  cases hg : getK d.M (k : Int) with
  | none => exact ⟨z, rfl, hz1⟩
  | some v => obtain ⟨cs, h1, h2, h3⟩ := hd.vals _ (getK_some_mem hg); exact ⟨cs, h1, h2, h3⟩
 obtain ⟨is, his⟩ : ∃ b, (getK d.M (k : Int)).isSome = b := ⟨_, rfl⟩
 have c0 := blk_cell (hS.box 0 rfl) 0 (.slice (some ⟨d.b, 0, none⟩) n n) rfl
 have c1 := blk_cell (hS.box 0 rfl) 1 (.map (some d.ob)) rfl
 have c4 := blk_cell (hS.box 0 rfl) 4 (.bool false) rfl
 have zd := heap_lt (hS.box 0 rfl)
 have HS := Lib.hid hS
 have HD := Lib.hid (And.intro hd (And.intro hm (And.intro hk hn)))
 have HV := Lib.hid (And.intro hv (And.intro hvl hv1))
 have HI := Lib.hid his
 have HZ := Lib.hid hzz
 have HKO := Lib.hid hko
 have TX := Lib.hid trivial
 have hs64 : s.size = 64 := hs
 clear h hS hd hz hzz hz1 hko hv hvl hv1 his hm hk hn hs
 go_enter Tryz.func89, Tryz.ntmps89
 go_upto_if 34 with (first
  | (go_at_call 169; refine CH.out.mono ?_; rintro e _ ⟨rfl, rfl⟩)
  | ((with_reducible refine at_list ?_); refine wpList_lookL_ok Tryz.underlying117 d.ob d.M (HS.out.mapL 2 rfl) rfl (HZ.out _) (k : Int) rfl HKO.out _ is HV.out.1 HI.out ?_)
  | ((with_reducible refine at_list ?_); refine wpList_store_whole 64 sizeSec _ rfl _ _ (heap_alloc_new _ _) rfl vs rfl HV.out.2.1 HV.out.2.2 ?_; intro w5 hg5 hM5 hz5; have HS5 := Lib.hid (HS.out.mod (((Mod.refl _ _).alloc _).then hM5 (fun x hx he => by omega))); clear hg5 hM5 hz5))
 clear CH HZ HI HV TX c0 c1 c4 zd
 have HS6 : Hid (St w0 w5 (bx db #[.slice (some ⟨d.b, 0, none⟩) n n, .map (some d.ob), .int .i64 d.acts, .int .i64 0, .bool false] 119 :: bx d.b d.cs.toArray 269 :: mpl kbI d.ob d.M :: l)) := Lib.hid HS5.out
 clear HS5
 go_cut [] (fun wx => ∃ M' : List (Int × Value), M'.length ≤ m + 1 ∧ (∀ q ∈ M', ∃ cs : List Value, q.2 = .agg cs.toArray ∧ cs.length = 64 ∧ cs.all (·.oneCell') = true) ∧ St w0 wx (bx db #[.slice (some ⟨d.b, 0, none⟩) n n, .map (some d.ob), .int .i64 d.acts, .int .i64 0, .bool false] 119 :: bx d.b d.cs.toArray 269 :: mpl kbI d.ob M' :: l))
 case first =>
  cases is with
  | true =>
    go_wp2
    go_meet
    case rel => exact ⟨d.M, by have := HD.out.1.few; omega, HD.out.1.vals, HS6.out⟩
  | false =>
    have hlen := HD.out.1.len
    have hkn := HD.out.2.2.1
    obtain ⟨ck, hck⟩ : ∃ ck, (d.cs.drop (k * 64)).take 64 = ck := ⟨_, rfl⟩
    have hckl : ck.length = 64 := by
     rw [← hck, List.length_take, List.length_drop, hlen]; omega
    have hck1 : ck.all (·.oneCell') = true := by
     rw [List.all_eq_true]
     intro u hu
     rw [← hck] at hu
     exact HD.out.1.one u (List.mem_of_mem_drop (List.mem_of_mem_take hu))
    have hckc : ∀ (w' : World), w'.heap[d.b]? = some (.cells d.cs.toArray 269 (0, 0)) → ∀ j u, ck[j]? = some u → w'.cell? ((⟨d.b, k * 64, none⟩ : Addr).add j) = some u := fun w' hw j u hj => by
     rw [add_none]
     refine blk_cell hw _ _ ?_
     rw [← hck, List.getElem?_take] at hj
     split at hj
     ·rw [List.getElem?_drop] at hj
      rw [List.getElem?_toArray]; exact hj
     ·cases hj
    have HCK := Lib.hid (And.intro hckl (And.intro hck1 hckc))
    have h0k : (0 : Int) ≤ k := by omega
    have hkn2 : (k : Int) < n := by omega
    have HM := Lib.hid (And.intro HD.out.1.few HD.out.2.1)
    have KP : Hid (∀ w', St w0 w' (bx db #[.slice (some ⟨d.b, 0, none⟩) n n, .map (some d.ob), .int .i64 d.acts, .int .i64 0, .bool false] 119 :: bx d.b d.cs.toArray 269 :: mpl kbI d.ob d.M :: l) → w'.cell? ⟨db, 0, none⟩ = some (.slice (some ⟨d.b, 0, none⟩) n n) ∧ w'.cell? ⟨db, 1, none⟩ = some (.map (some d.ob)) ∧ w'.heap[d.b]? = some (.cells d.cs.toArray 269 (0, 0))) := Lib.hid fun w' h => ⟨blk_cell (h.box 0 rfl) 0 _ rfl, blk_cell (h.box 0 rfl) 1 _ rfl, h.box 1 rfl⟩
    have HA := Lib.hid HS6.out.drew
    have zd := heap_lt (HA.out.box 0 rfl)
    clear hlen hkn hck hckl hck1 hckc HS6
    go_wp2
    refine wp_region_last_held (n := 12) (S := fun w' => w'.cell? ⟨db, 0, none⟩ = some (.slice (some ⟨d.b, 0, none⟩) n n) ∧ w'.cell? ⟨db, 1, none⟩ = some (.map (some d.ob)) ∧ w'.heap[d.b]? = some (.cells d.cs.toArray 269 (0, 0))) (by kernel_rfl) rfl (by simp only [List.pop_toArray, List.dropLast_cons_cons, List.dropLast_singleton]; rfl) (by kernel_rfl) (by kernel_rfl) (KP.out _ HA.out) (fun hHeld => ?_)
    generalize w5.drew = V at HA hHeld ⊢
    refine tk 0 (some 35) ?_ rfl rfl hHeld ?_ ?_
    rotate_left
    ·intro wq hSw; (try dsimp only at hSw); go_simp; try with_reducible rfl
    refine tk 1 (some 36) ?_ rfl rfl hHeld ?_ ?_
    rotate_left
    ·intro wq hSw; (try dsimp only at hSw); go_simp; try with_reducible rfl
    refine tk 2 (some 37) ?_ rfl rfl hHeld ?_ ?_
    rotate_left
    ·intro wq hSw; (try dsimp only at hSw); go_simp; try with_reducible rfl
    refine tk 3 (some 38) ?_ rfl rfl hHeld ?_ ?_
    rotate_left
    ·intro wq hSw; (try dsimp only at hSw); go_simp; try with_reducible rfl
    refine tk 4 (some 39) ?_ rfl rfl hHeld ?_ ?_
    rotate_left
    ·intro wq hSw; (try dsimp only at hSw); go_simp; try with_reducible rfl
    refine tk 5 (some 40) ?_ rfl rfl hHeld ?_ ?_
    rotate_left
    ·intro wq hSw; (try dsimp only at hSw); go_simp; try with_reducible rfl
    refine tk 6 (some 41) ?_ rfl rfl hHeld ?_ ?_
    rotate_left
    ·intro wq hSw; (try dsimp only at hSw); go_simp; try with_reducible rfl
    refine tk 7 (some 42) ?_ rfl rfl hHeld ?_ ?_
    rotate_left
    ·intro wq hSw; (try dsimp only at hSw); go_simp; try with_reducible rfl
    refine tk 8 (some 43) ?_ rfl rfl hHeld ?_ ?_
    rotate_left
    ·intro wq hSw; (try dsimp only at hSw); go_simp; try with_reducible rfl
    refine tk 9 (some 44) ?_ rfl rfl hHeld ?_ ?_
    rotate_left
    ·intro wq hSw; (try dsimp only at hSw); go_simp; try with_reducible rfl
    refine tk 10 (some 45) ?_ rfl rfl hHeld ?_ ?_
    rotate_left
    ·intro wq hSw; (try dsimp only at hSw); go_simp; try with_reducible rfl
    try simp only [Act.put, Nat.zero_add, List.setIfInBounds_toArray, List.set_cons_zero, List.set_cons_succ]
    refine wpAnyH_take (i := 11) (oi := ⟨some 46, _, _, _, _, _⟩) (v := _) rfl (by kernel_rfl) (by kernel_rfl) (by kernel_rfl) (fun _ _ _ h => h) (yields_load 64 _ (by rfl) rfl Tryz.underlying269 rfl sizeSec ⟨d.b, k * 64, none⟩ (by rfl) ck HCK.out.1 (fun w' h => HCK.out.2.2 w' h.2.2)) hHeld ?_
    try simp only [Act.put, Nat.zero_add, List.setIfInBounds_toArray, List.set_cons_zero, List.set_cons_succ]
    refine wpAnyH_done (by kernel_rfl) ?_ _
    refine LastQ.listP rfl ?_
    refine wpList_putL Tryz.underlying117 d.ob d.M (HA.out.mapL 2 rfl) rfl (by have := HM.out.1; have := HM.out.2; unfold maxLen; omega) (k : Int) rfl HKO.out (.agg ck.toArray) rfl ?_
    intro w6 hm6 hM6
    have H6 := HA.out.remapL 2 rfl hm6 hM6
    simp only [List.set_cons_zero, List.set_cons_succ] at H6
    have HH6 := Lib.hid H6
    clear H6 hm6 hM6
    go_wp2
    go_meet
    case rel =>
     refine ⟨_, Nat.le_trans (putK_le _ _ _) (by have := HM.out.1; omega), fun q hq => ?_, HH6.out⟩
     rcases mem_putK hq with hq | rfl
     ·exact HD.out.1.vals q hq
     ·exact ⟨ck, rfl, HCK.out.1, HCK.out.2.1⟩
 case rest =>
  obtain ⟨M', hM1, hM2, hS⟩ := hcut
  have HMM := Lib.hid (And.intro hM1 hM2)
  have HA := Lib.hid hS.drew
  have h0k : (0 : Int) ≤ k := by omega
  have hkn2 : (k : Int) < n := by have := HD.out.2.2.1; omega
  have zd := heap_lt (HA.out.box 0 rfl)
  clear HS6 hM1 hM2 hS
  have KP : Hid (∀ (w' : World) (G : List Thing), St w0 w' (bx db #[.slice (some ⟨d.b, 0, none⟩) n n, .map (some d.ob), .int .i64 d.acts, .int .i64 0, .bool false] 119 :: G) → w'.cell? ⟨db, 0, none⟩ = some (.slice (some ⟨d.b, 0, none⟩) n n)) := Lib.hid fun w' G h => blk_cell (h.box 0 rfl) 0 _ rfl
  go_upto_region 8 with (fail)
  refine wp_region_last_held (n := 10) (S := fun w' => w'.cell? ⟨db, 0, none⟩ = some (.slice (some ⟨d.b, 0, none⟩) n n)) (by kernel_rfl) rfl (by simp only [List.pop_toArray, List.dropLast_cons_cons, List.dropLast_singleton]; rfl) (by kernel_rfl) (by kernel_rfl) (KP.out _ _ HA.out) (fun hHeld => ?_)
  generalize wc.drew = V at HA hHeld ⊢
  refine tk 0 (some 47) ?_ rfl rfl hHeld ?_ ?_
  rotate_left
  ·intro wq hSw; (try dsimp only at hSw); go_simp; try with_reducible rfl
  refine tk 1 (some 48) ?_ rfl rfl hHeld ?_ ?_
  rotate_left
  ·intro wq hSw; (try dsimp only at hSw); go_simp; try with_reducible rfl
  refine tk 2 (some 49) ?_ rfl rfl hHeld ?_ ?_
  rotate_left
  ·intro wq hSw; (try dsimp only at hSw); go_simp; try with_reducible rfl
  refine tk 3 (some 50) ?_ rfl rfl hHeld ?_ ?_
  rotate_left
  ·intro wq hSw; (try dsimp only at hSw); go_simp; try with_reducible rfl
  refine tk 4 (some 51) ?_ rfl rfl hHeld ?_ ?_
  rotate_left
  ·intro wq hSw; (try dsimp only at hSw); go_simp; try with_reducible rfl
  refine tk 5 (some 52) ?_ rfl rfl hHeld ?_ ?_
  rotate_left
  ·intro wq hSw; (try dsimp only at hSw); go_simp; try with_reducible rfl
  try simp only [Act.put, Nat.zero_add, List.setIfInBounds_toArray, List.set_cons_zero, List.set_cons_succ]
  refine wpAnyH_ready (rs := [6]) (by kernel_rfl) (by simp) ?_
  refine (AllReadyH.cons (o := ⟨some 53, _, _, _, _, _⟩) rfl (fun K hK => ?_) AllReadyH.nil)
  refine step_toBytes rfl rfl 5 Tryz.underlying9 Tryz.underlying93 Tryz.underlying5 s rfl (by rw [hs64]; unfold maxLen; omega) ?_
  intro cap w7 hr7 hM7
  have H7 := Lib.hid (HA.out.mod hM7)
  have HR7 := Lib.hid hr7
  clear hr7 hM7
  refine hK.out _ _ (KP.out _ _ H7.out) (fun hHeld => ?_)
  clear hK K
  try simp only [Act.put, Nat.zero_add, List.setIfInBounds_toArray, List.set_cons_zero, List.set_cons_succ]
  refine wpAnyH_ready (rs := [7]) (by kernel_rfl) (by simp) ?_
  refine (AllReadyH.cons (o := ⟨some 54, _, _, _, _, _⟩) rfl (fun K hK => ?_) AllReadyH.nil)
  refine step_arrayAt rfl rfl 64 5 Tryz.underlying269 _ s.size cap rfl (by omega) ?_
  refine hK.out _ _ (KP.out _ _ H7.out) (fun hHeld => ?_)
  clear hK K
  try simp only [Act.put, Nat.zero_add, List.setIfInBounds_toArray, List.set_cons_zero, List.set_cons_succ]
  refine wpAnyH_ready (rs := [8]) (by kernel_rfl) (by simp) ?_
  refine (AllReadyH.cons (o := ⟨some 55, _, _, _, _, _⟩) rfl (fun K hK => ?_) AllReadyH.nil)
  refine step_loadK rfl 64 _ rfl Tryz.underlying269 rfl sizeSec ⟨V.heap.size, 0, none⟩ rfl (bc s.data.toList) (by rw [bc_length, Array.length_toList]; exact hs64) (fun j u hj => ?_) ?_
  ·obtain ⟨_, _, _, ⟨h1, _⟩ | ⟨x, hx, hc⟩⟩ := HR7.out
   ·cases h1
   ·simp only [Option.some.injEq] at hx
    subst hx
    exact hc j u hj
  refine hK.out _ _ (KP.out _ _ H7.out) (fun hHeld => ?_)
  clear hK K
  try simp only [Act.put, Nat.zero_add, List.setIfInBounds_toArray, List.set_cons_zero, List.set_cons_succ]
  refine tk 9 (some 56) ?_ rfl rfl hHeld ?_ ?_
  rotate_left
  ·intro wq hSw; (try dsimp only at hSw); go_simp; try with_reducible rfl
  try simp only [Act.put, Nat.zero_add, List.setIfInBounds_toArray, List.set_cons_zero, List.set_cons_succ]
  refine wpAnyH_done (by kernel_rfl) ?_ _
  refine LastQ.listP rfl ?_
  refine wpList_store_chunk 64 sizeSec d.b (k * 64) rfl _ _ (H7.out.box 1 rfl) _ rfl (bc s.data.toList) rfl (by rw [bc_length, Array.length_toList]; exact hs64) (by rw [List.size_toArray, HD.out.1.len]; have := HD.out.2.2.1; omega) (bc_one _) ?_
  intro w8 hw8 hM8 _
  have H8 := H7.out.rebox 1 rfl hw8 hM8
  simp only [List.set_cons_zero, List.set_cons_succ] at H8
  have hlen := HD.out.1.len
  have hkn := HD.out.2.2.1
  have hbl : (bc s.data.toList).length = 64 := by rw [bc_length, Array.length_toList]; exact hs64
  have hfit : k * 64 + (bc s.data.toList).length ≤ d.cs.length := by rw [hbl, hlen]; omega
  have H9 : St w0 w8 (dsk db n (m + 1) :: l) := St.shutD ⟨d.b, splice d.cs (k * 64) (bc s.data.toList), d.ob, M', d.acts⟩ ⟨HMM.out.1, HMM.out.2, by rw [splice_length hfit]; exact hlen, fun u hu => by
   unfold splice at hu
   rcases List.mem_append.1 hu with hu | hu
   ·rcases List.mem_append.1 hu with hu | hu
    ·exact HD.out.1.one u (List.mem_of_mem_take hu)
    ·exact bc_one _ u hu
   ·exact HD.out.1.one u (List.mem_of_mem_drop hu)⟩ H8
  have CA := Lib.hid (act_st H9)
  clear H8 H9 hlen hkn hbl hfit hw8 hM8 HA HR7 H7 hHeld KP
  go_wp2_with (go_at_call 170; refine CA.out.mono ?_; rintro e w9 ⟨rfl, hS9⟩)
  go_ret
  exact ⟨rfl, hS9⟩
section
variable {P : Program} {ops : Array Oper} {rest : List Oper} {dst : Option Tmp} {ty0 : TypeId} {pos : String} {after : Array Edge} {a : Act} {w : World} {Q : Exit → Act → World → Prop} {k e t : TypeId} {α : Type} [DecidableEq α] {B : KB P k α}
theorem MapL.clear (ht : P.underlying t = some (.map k e)) {b : Nat} {M : List (α × Value)} (h : MapL B w b M) (ty : TypeId) :
 ∃ w', (Builtin.clear_ #[t] ty #[.map (some b)]).run P w = .ok (.tuple #[]) w' ∧ MapL B w' b [] ∧ Mod (fun x => x = b) w w' := by
 obtain ⟨D, ⟨es, clock, hb, F, hs, hD⟩, hT⟩ := h
 refine ⟨setBlock w b (.map #[] clock), ?_, ⟨_, ⟨#[], clock, heap_setBlock_same hb _, ⟨by simp, MapKept.stamped_empty clock, by simp⟩, Nat.le_refl _, rfl⟩, ⟨List.nodup_nil, fun _ h => absurd h List.not_mem_nil, rfl, fun _ _ => rfl, fun x v h => by simp [getK_nil] at h⟩⟩, ⟨rfl, rfl, rfl, by simp [setBlock], fun x hx hn => heap_setBlock_other hb _ hn⟩⟩
 simp [Builtin.clear_, run_underlying ht, MapKept.run_getObj_map hb, MapKept.run_setObj_map _ hb, Result.andThen, setBlock]
theorem wpList_clearL (ht : P.underlying t = some (.map k e)) (b : Nat) (M : List (α × Value)) (h : MapL B w b M) {m : Operand} (hm : a.eval m = .map (some b))
 (hn : ∀ w', MapL B w' b [] → Mod (fun x => x = b) w w' → wpList P ops Q rest a w') : wpList P ops Q (⟨none, .call { callee := .builtin .clear, args := #[m], argTypes := #[t] }, ty0, pos, after, none⟩ :: rest) a w :=
 wpList_plain rfl fun K hK => by
  obtain ⟨w', hr, h3, h4⟩ := h.clear ht ty0
  unfold Oper.wp execOp
  simp only [resolve, invoke, builtin, Sem.run_bind, Sem.run_pure, Result.andThen_ok, List.map_toArray, List.map_cons, List.map_nil, hm, hr]
  exact hK _ _ (hn w' h3 h4)
end
set_option maxHeartbeats 4000000 in
theorem dsync_st {w0 w : World} {db n m : Nat} {l : List Thing} (h : St w0 w (dsk db n m :: l)) :
 Calls Tryz.prog 92 #[.pointer (some ⟨db, 0, none⟩)] w (StPost (.int .i64 0) w0 (dsk db n m :: l)) := by
 have CA := Lib.hid (act_st h)
 obtain ⟨d, hd, hS⟩ := h.openD
 have c4 := blk_cell (hS.box 0 rfl) 4 (.bool false) rfl
 have zd := heap_lt (hS.box 0 rfl)
 clear h hS hd
 go_enter Tryz.func92, Tryz.ntmps92
 go_upto_region 5 with (go_at_call 170; refine CA.out.mono ?_; rintro e w9 ⟨rfl, hS9⟩; have HS9 := Lib.hid hS9; clear hS9)
 obtain ⟨d2, hd2, hS2⟩ := HS9.out.openD
 have c1 := blk_cell (hS2.box 0 rfl) 1 (.map (some d2.ob)) rfl
 have zd2 := heap_lt (hS2.box 0 rfl)
 have HS2 := Lib.hid hS2
 have HD2 := Lib.hid hd2
 clear hS2 hd2 HS9
 go_wp2_with ((with_reducible refine at_list ?_); refine wpList_clearL Tryz.underlying117 d2.ob d2.M (HS2.out.mapL 2 rfl) rfl ?_; intro w10 hm10 hM10; have H10 := HS2.out.remapL 2 rfl hm10 hM10; have HH10 := Lib.hid H10; clear H10 hm10 hM10)
 go_ret
 have h10 := HH10.out
 simp only [DkD.things, List.cons_append, List.nil_append, List.set_cons_zero, List.set_cons_succ] at h10
 exact ⟨rfl, St.shutD ⟨d2.b, d2.cs, d2.ob, [], d2.acts⟩ ⟨Nat.zero_le _, fun q hq => (by cases hq), HD2.out.len, HD2.out.one⟩ h10⟩
end Go.Proofs.YtonnbkebjeoflaaGreatDoor
namespace Go.Proofs.YtonnbkebjeoflaaGreatDoor
open Go.RowKit Go.Maps
theorem byte_of {y : Int} (h0 : 0 ≤ y) (h1 : y < 256) : ∃ c : UInt8, Value.int .u8 y = .int .u8 c.toNat := by
 refine ⟨UInt8.ofNat y.toNat, ?_⟩
 have : ((UInt8.ofNat y.toNat).toNat : Int) = y := by
  rw [UInt8.toNat_ofNat']; omega
 rw [this]
theorem bc_set (bs : List UInt8) (j : Nat) (c : UInt8) : (bc bs).toArray.setIfInBounds j (.int .u8 c.toNat) = (bc (bs.set j c)).toArray := by
 unfold bc
 rw [List.setIfInBounds_toArray, List.map_set]
noncomputable def byt (b n : Nat) : Thing := some1 fun bs : List UInt8 => grp [pr (bs.length = n), bx b (bc bs).toArray 5]
theorem St.openB {w0 w : World} {b n : Nat} {l : List Thing} (h : St w0 w (byt b n :: l)) : ∃ bs : List UInt8, bs.length = n ∧ St w0 w (bx b (bc bs).toArray 5 :: l) := by
 obtain ⟨bs, h⟩ := h.tell
 have h := h.ungrp
 exact ⟨bs, h.pure, h.tail⟩
theorem St.shutB {w0 w : World} {b n : Nat} {l : List Thing} (bs : List UInt8) (hl : bs.length = n) (h : St w0 w (bx b (bc bs).toArray 5 :: l)) : St w0 w (byt b n :: l) :=
 St.untell bs (St.regrp [_, _] (h.told hl))
set_option maxHeartbeats 4000000 in
theorem big_st {w0 w : World} {l : List Thing} (b N : Nat) (h : St w0 w (byt b N :: l)) (off n cap : Nat) (hfit : off + n ≤ N) (hn : n ≤ 8) (v : Int) :
 Calls Tryz.prog 171 #[.slice (some ⟨b, off, none⟩) n cap, .int .i64 v] w (StPost (.tuple #[]) w0 (byt b N :: l)) := by
 have HS := Lib.hid h
 have HF := Lib.hid hfit
 have h63 : n ≤ 9223372036854775807 := by omega
 clear h hfit
 go_enter Tryz.func171, Tryz.ntmps171
 go_wp2
 go_loopg [7] n (fun g y wr => ∃ i : Nat, i + g = n ∧ y = .int .i64 i ∧ St w0 wr (byt b N :: l))
 case atStart => exact ⟨0, by omega, rfl, HS.out⟩
 case round =>
  clear HS
  obtain ⟨i, hig, rfl, hS⟩ := hrel
  by_cases hlt : i < n
  ·obtain ⟨bs1, hl1, hS⟩ := hS.openB
   have hjs : off + (n - 1 - i) < bs1.length := by have := HF.out; omega
   obtain ⟨c, hc⟩ : ∃ c, bs1[off + (n - 1 - i)]? = some c := ⟨_, List.getElem?_eq_getElem hjs⟩
   have c0 := blk_cell (hS.box 0 rfl) (off + (n - 1 - i)) _ (by rw [List.getElem?_toArray]; exact bc_get bs1 _ c hc)
   have f0 := blk_free (hS.box 0 rfl) (off + (n - 1 - i))
   have zb := heap_lt (hS.box 0 rfl)
   have HS := Lib.hid hS
   have HL := Lib.hid hl1
   clear hjs hl1 hS hc
   go_wp2
   go_roundg (n - (i + 1))
   case measure => omega
   case rel =>
    obtain ⟨c2, hc2⟩ := byte_of (y := v / 2 ^ (8 * i) % 256) (by omega) (by omega)
    refine ⟨i + 1, by omega, by simp, St.shutB (bs1.set (off + (n - 1 - i)) c2) (by rw [List.length_set]; exact HL.out) ?_⟩
    have h9 := HS.out.set 0 rfl (off + (n - 1 - i)) (.int .u8 (v / 2 ^ (8 * i) % 256))
    rw [hc2] at h9 ⊢
    rw [bc_set] at h9
    exact h9
  ·have HS := Lib.hid hS
   clear hS
   go_wp2
   go_end0
   exact ⟨rfl, HS.out⟩
section
variable {P : Program} {ops : Array Oper} {rest : List Oper} {dst : Option Tmp} {ty0 : TypeId} {pos : String} {after : Array Edge} {a : Act} {w : World} {Q : Exit → Act → World → Prop} {E : TypeId}
theorem wpList_copyS {x y : Operand} {dT sT : TypeId} (E : TypeId) (hu : P.underlying dT = some (.slice E)) (hs : (P.info? E).map (·.size) = some 1)
 (g o dLen dCap : Nat) (s : ByteArray) (bs : List UInt8) (t : TypeId) (hx : a.eval x = .slice (some ⟨g, o, none⟩) dLen dCap) (hy : a.eval y = .string s) (hg : w.heap[g]? = some (.cells (bc bs).toArray t (0, 0))) (hle : s.size ≤ dLen) (hfit : o + s.size ≤ bs.length)
 (h : ∀ w', w'.heap[g]? = some (.cells (bc (bs.take o ++ s.data.toList ++ bs.drop (o + s.size))).toArray t (0, 0)) → Mod (fun x => x = g) w w' → wpList P ops Q rest (a.put dst (goInt s.size)) w') :
 wpList P ops Q (⟨dst, .call { callee := .builtin .copy, args := #[x, y], argTypes := #[dT, sT] }, ty0, pos, after, none⟩ :: rest) a w :=
 wpList_plain rfl fun K hK => by
  have hrun := Go.Lib.run_copy_row_string (P := P) w dT sT ty0 E g o dLen dCap s (bc bs).toArray t hu hs hg hle (by rw [List.size_toArray, bc_length]; exact hfit)
  unfold Oper.wp
  simp [execOp, resolve, invoke, builtin, hx, hy, hrun, Result.andThen]
  refine hK _ _ (h _ ?_ ((Mod.refl _ w).setRow _ _ (fun _ => rfl)))
  have e : bc (bs.take o ++ s.data.toList ++ bs.drop (o + s.size)) = (bc bs).take o ++ (Go.Lib.byteCells s.data.toList ++ (bc bs).drop (o + s.size)) := by
   rw [bc_append, bc_append, bc_take, bc_drop, List.append_assoc]; rfl
  rw [e]
  exact setRow_heap w g (bc bs).toArray _ t _ hg
theorem wpList_copyB {x y : Operand} {dT sT : TypeId} (hu : P.underlying dT = some (.slice E)) (hs : (P.info? E).map (·.size) = some 1) {w0 : World} {l : List Thing} (g o N dLen dCap : Nat) (s : ByteArray) (h : St w0 w (byt g N :: l)) (hx : a.eval x = .slice (some ⟨g, o, none⟩) dLen dCap) (hy : a.eval y = .string s) (hle : s.size ≤ dLen) (hfit : o + s.size ≤ N)
 (hn : ∀ w', St w0 w' (byt g N :: l) → wpList P ops Q rest (a.put dst (goInt s.size)) w') :
 wpList P ops Q (⟨dst, .call { callee := .builtin .copy, args := #[x, y], argTypes := #[dT, sT] }, ty0, pos, after, none⟩ :: rest) a w := by
 obtain ⟨bs, hl, hS⟩ := h.openB
 refine wpList_copyS E hu hs g o dLen dCap s bs 5 hx hy (hS.box 0 rfl) hle (by omega) (fun w' hw hm => hn w' (St.shutB _ ?_ (hS.rebox 0 rfl hw hm)))
 have : s.data.toList.length = s.size := Array.length_toList
 simp only [List.length_append, List.length_take, List.length_drop, this]
 omega
end
theorem infoU8w : (Tryz.prog.info? 5).map (fun i => (i.zero, i.size, i.bytes)) = some (some (.int .u8 0), 1, 1) := by kernel_rfl
theorem sizeU8w : (Tryz.prog.info? 5).map (·.size) = some 1 := by kernel_rfl
theorem bc_zeros (n : Nat) : (madeCells #[.int .u8 0] n) = (bc (List.replicate n 0)).toArray := by
 apply Array.ext'
 rw [toList_madeCells_one]
 unfold bc
 rw [List.map_replicate]
 rfl
theorem St.newB {w0 w : World} {l : List Thing} (h : St w0 w l) (n : Nat) : St w0 (w.alloc (.cells (madeCells #[.int .u8 0] n) 5)) (byt w.heap.size n :: l) := by
 rw [bc_zeros]
 exact St.shutB _ List.length_replicate (h.box1 _ _)
theorem wpList_makeB {ops : Array Oper} {rest : List Oper} {o : Oper} {a : Act} {w : World} {Q : Exit → Act → World → Prop} (hg : o.guard = none) (x y : Operand) (hop : o.op = Op.makeSlice 93 x y) (n : Nat) (hx : a.eval x = .int .i64 (n : Int)) (hy : a.eval y = .int .i64 (n : Int)) (hn : n ≤ 1000000) {w0 : World} {l : List Thing} (h : St w0 w l) (g : Nat) (hg2 : w.heap.size = g)
 (hK : ∀ w', St w0 w' (byt g n :: l) → wpList Tryz.prog ops Q rest (a.put o.dst (.slice (some ⟨g, 0, none⟩) n n)) w') : wpList Tryz.prog ops Q (o :: rest) a w := by
 obtain ⟨ip, hi1, hi2, hi3, hi4⟩ := info_parts infoU8w
 subst hg2
 exact wpList_make_row _ hg x y 93 hop 5 ip (.int .u8 0) Tryz.underlying93 hi1 hi2 hi3 rfl .i64 .i64 n hx hy (by rw [hi4]; omega) (by omega) (hK _ (h.newB n))
set_option maxHeartbeats 16000000 in
theorem sector_st {w0 w : World} {l : List Thing} (h : St w0 w l) (m0 m1 m2 m3 m4 m5 : Int) :
 Calls Tryz.prog 91 #[.agg #[.int .i64 m0, .int .i64 m1, .int .i64 m2, .int .i64 m3, .int .i64 m4, .int .i64 m5]] w (fun e w' => ∃ s : ByteArray, s.size = 64 ∧ e = .returned (.string s) ∧ St w0 w' l) := by
 have HS0 := Lib.hid (h.box1 #[.int .i64 m0, .int .i64 m1, .int .i64 m2, .int .i64 m3, .int .i64 m4, .int .i64 m5] 184)
 have TX := Lib.hid trivial
 clear h
 go_enter Tryz.func91, Tryz.ntmps91
 go_upto_region 3 with (first
  | (at_make; have TX2 := TX; clear TX; refine wpList_makeB rfl _ _ rfl 64 rfl rfl (by omega) HS0.out (w.heap.size + 1) (World.size_alloc _ _) ?_; intro w4 hS4; have HS4 := Lib.hid hS4; clear hS4)
  | (have TX3 := HS4; (with_reducible refine at_list ?_); refine wpList_copyB Tryz.underlying93 sizeU8w (w.heap.size + 1) 0 64 64 64 ⟨#[87, 77]⟩ HS4.out rfl rfl (by decide) (by decide) ?_; intro w5 hS5; have HS5 := Lib.hid hS5; clear hS5 HS4))
 generalize w.heap.size = xb at HS5 ⊢
 have HA0 := Lib.hid HS5.out.drew
 clear HS5
 have zx0 := heap_lt (HA0.out.box 1 rfl)
 go_region_held3 (fun w' => w'.cell? ⟨xb, 0, none⟩ = some (.int .i64 m0)) (first | exact blk_cell (HA0.out.box 1 rfl) 0 _ rfl | exact blk_cell (HB0.out.box 1 rfl) 0 _ rfl) ((go_at_call 171; refine (big_st (xb + 1) 64 HA0.out 2 4 62 (by omega) (by omega) _).mono ?_; rintro e wB0 ⟨rfl, hSB⟩; have HB0 := Lib.hid hSB; clear hSB))
 clear HA0 zx0
 go_upto_region 4 with (fail)
 have HA1 := Lib.hid HB0.out.drew
 clear HB0
 have zx1 := heap_lt (HA1.out.box 1 rfl)
 go_region_held3 (fun w' => w'.cell? ⟨xb, 1, none⟩ = some (.int .i64 m1)) (first | exact blk_cell (HA1.out.box 1 rfl) 1 _ rfl | exact blk_cell (HB1.out.box 1 rfl) 1 _ rfl) ((go_at_call 171; refine (big_st (xb + 1) 64 HA1.out 6 1 58 (by omega) (by omega) _).mono ?_; rintro e wB1 ⟨rfl, hSB⟩; have HB1 := Lib.hid hSB; clear hSB))
 clear HA1 zx1
 go_upto_region 5 with (fail)
 have HA2 := Lib.hid HB1.out.drew
 clear HB1
 have zx2 := heap_lt (HA2.out.box 1 rfl)
 go_region_held3 (fun w' => w'.cell? ⟨xb, 2, none⟩ = some (.int .i64 m2)) (first | exact blk_cell (HA2.out.box 1 rfl) 2 _ rfl | exact blk_cell (HB2.out.box 1 rfl) 2 _ rfl) ((go_at_call 171; refine (big_st (xb + 1) 64 HA2.out 7 4 57 (by omega) (by omega) _).mono ?_; rintro e wB2 ⟨rfl, hSB⟩; have HB2 := Lib.hid hSB; clear hSB))
 clear HA2 zx2
 go_upto_region 6 with (fail)
 have HA3 := Lib.hid HB2.out.drew
 clear HB2
 have zx3 := heap_lt (HA3.out.box 1 rfl)
 go_region_held3 (fun w' => w'.cell? ⟨xb, 3, none⟩ = some (.int .i64 m3)) (first | exact blk_cell (HA3.out.box 1 rfl) 3 _ rfl | exact blk_cell (HB3.out.box 1 rfl) 3 _ rfl) ((go_at_call 171; refine (big_st (xb + 1) 64 HA3.out 11 4 53 (by omega) (by omega) _).mono ?_; rintro e wB3 ⟨rfl, hSB⟩; have HB3 := Lib.hid hSB; clear hSB))
 clear HA3 zx3
 go_upto_region 7 with (fail)
 have HA4 := Lib.hid HB3.out.drew
 clear HB3
 have zx4 := heap_lt (HA4.out.box 1 rfl)
 go_region_held3 (fun w' => w'.cell? ⟨xb, 4, none⟩ = some (.int .i64 m4)) (first | exact blk_cell (HA4.out.box 1 rfl) 4 _ rfl | exact blk_cell (HB4.out.box 1 rfl) 4 _ rfl) ((go_at_call 171; refine (big_st (xb + 1) 64 HA4.out 15 8 49 (by omega) (by omega) _).mono ?_; rintro e wB4 ⟨rfl, hSB⟩; have HB4 := Lib.hid hSB; clear hSB))
 clear HA4 zx4
 go_upto_region 8 with (fail)
 have HA5 := Lib.hid HB4.out.drew
 clear HB4
 have zx5 := heap_lt (HA5.out.box 1 rfl)
 go_region_held3 (fun w' => w'.cell? ⟨xb, 5, none⟩ = some (.int .i64 m5)) (first | exact blk_cell (HA5.out.box 1 rfl) 5 _ rfl | exact blk_cell (HB5.out.box 1 rfl) 5 _ rfl) ((go_at_call 171; refine (big_st (xb + 1) 64 HA5.out 23 8 41 (by omega) (by omega) _).mono ?_; rintro e wB5 ⟨rfl, hSB⟩; have HB5 := Lib.hid hSB; clear hSB))
 clear HA5 zx5
 go_upto_region 9 with (fail)
 have HA6 := Lib.hid HB5.out.drew
 clear HB5
 have zx6 := heap_lt (HA6.out.box 1 rfl)
 go_region_held3 (fun w' => w'.cell? ⟨xb, 0, none⟩ = some (.int .i64 m0)) (first | exact blk_cell (HA6.out.box 1 rfl) 0 _ rfl | exact blk_cell (HB6.out.box 1 rfl) 0 _ rfl) ((go_at_call 171; refine (big_st (xb + 1) 64 HA6.out 60 4 4 (by omega) (by omega) _).mono ?_; rintro e wB6 ⟨rfl, hSB⟩; have HB6 := Lib.hid hSB; clear hSB))
 clear HA6 zx6
 obtain ⟨bs, hl, hS⟩ := HB6.out.openB
 have HL := Lib.hid hl
 have HE := Lib.hid hS
 clear hl hS HB6
 go_wp2_with ((with_reducible refine at_list ?_); refine wpList_toString 5 Tryz.underlying93 Tryz.underlying5 Tryz.underlying9 (some ⟨xb + 1, 0, none⟩) 64 64 rfl bs ?_ ?_)
 ·have h1 := Sl.new (E := 5) (k := 1) (n := 64) (HE.out.box 0 rfl) (by rw [List.size_toArray, bc_length, HL.out]) (by unfold maxLen; omega)
  exact h1.rd
 go_wp2
 go_ret
 exact ⟨⟨bs.toArray⟩, HL.out, rfl, HE.out.tail.tail⟩
end Go.Proofs.YtonnbkebjeoflaaGreatDoor
