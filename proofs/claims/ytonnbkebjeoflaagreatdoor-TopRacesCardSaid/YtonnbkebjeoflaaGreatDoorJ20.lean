/-
  Contracts and plain laws of WalB, CodecE, WalC, WatchA.
  Conditions: each law states its own.
-/
import Derived.Lib.AppendStr
import Derived.DeepKeys4
import Derived.DeepKeys3
import Derived.Test.YtonnbkebjeoflaaGreatDoorJ4
import Derived.Test.YtonnbkebjeoflaaGreatDoorJ10
import Derived.Test.YtonnbkebjeoflaaGreatDoorJ19
set_option linter.unusedSectionVars false
set_option linter.unusedSimpArgs false
set_option linter.unusedVariables false
set_option maxRecDepth 100000
namespace Go.Proofs.YtonnbkebjeoflaaGreatDoor
open Go.RowKit Go.Maps
theorem step_makeB {ops : Array Oper} {o : Oper} {a : Act} {w : World} {K : Act → World → Prop} {Q : Exit → Act → World → Prop} {G : Prop} (hgd : o.guard = none) {x y : Operand} (hop : o.op = Op.makeSlice 93 x y) (n : Nat) (hx : a.eval x = .int .i64 (n : Int)) (hy : a.eval y = .int .i64 (n : Int)) (hn : n ≤ 1000000) {w0 : World} {l : List Thing} (h : St w0 w l)
 (hK : ∀ w', St w0 w' (byt w.heap.size n :: l) → K (a.put o.dst (.slice (some ⟨w.heap.size, 0, none⟩) n n)) w') : if Region.wanted o (yielded ops a.tmps) = true then Oper.wp Tryz.prog o a w K Q else G := by
 have hw : Region.wanted o (yielded ops a.tmps) = true := by simp [Region.wanted, hgd]
 rw [if_pos hw]
 obtain ⟨ip, hi1, hi2, hi3, hi4⟩ := info_parts infoU8w
 have hrun := run_make_row (P := Tryz.prog) 93 5 ip (.int .u8 0) Tryz.underlying93 hi1 hi2 hi3 rfl .i64 .i64 n (by rw [hi4]; omega) (by omega) w
 unfold Oper.wp
 simp [execOp, hop, hx, hy, hrun, Result.andThen]
 exact hK _ (h.newB n)
theorem step_toStringB {ops : Array Oper} {o : Oper} {a : Act} {w : World} {K : Act → World → Prop} {Q : Exit → Act → World → Prop} {G : Prop} (hgd : o.guard = none) {x : Operand} (ho : o.op = .convert 93 9 x) (b n : Nat) (hx : a.eval x = .slice (some ⟨b, 0, none⟩) n n) (hn : n ≤ 1000000) {w0 : World} {l : List Thing} (h : St w0 w (byt b n :: l))
 (hK : ∀ s : ByteArray, s.size = n → K (a.put o.dst (.string s)) w) : if Region.wanted o (yielded ops a.tmps) = true then Oper.wp Tryz.prog o a w K Q else G := by
 have hw : Region.wanted o (yielded ops a.tmps) = true := by simp [Region.wanted, hgd]
 rw [if_pos hw]
 obtain ⟨bs, hl, hS⟩ := h.openB
 have hr : Rd w 1 (some ⟨b, 0, none⟩) n n (bc bs) := (Sl.new (E := 5) (k := 1) (n := n) (hS.box 0 rfl) (by rw [List.size_toArray, bc_length, hl, Nat.mul_one]) (by unfold maxLen; omega)).rd
 have hrun := toString_law (P := Tryz.prog) w 93 9 5 Tryz.underlying93 Tryz.underlying5 Tryz.underlying9 (some ⟨b, 0, none⟩) n n bs hr
 unfold Oper.wp
 simp [execOp, ho, hx, hrun, Result.andThen]
 exact hK ⟨bs.toArray⟩ hl
structure WlD where
 db : Nat
 ra : Option Addr
 rc : Nat
 rs : List ByteArray
 ba : Option Addr
 bcap : Nat
 bs : List UInt8
structure WlP where
 n : Nat
 m : Nat
 nr : Nat
 nb : Nat
 ns : Nat
 ct : Nat
noncomputable def WlD.things (d : WlD) (lb : Nat) (x : WlP) : List Thing := [bx lb #[.pointer (some ⟨d.db, 0, none⟩), .slice d.ra x.nr d.rc, .int .i64 x.ns, .slice d.ba x.nb d.bcap, .int .i64 0, .int .i64 x.ct, .int .i64 0, .int .i64 0, .bool false] 187, dsk d.db x.n x.m, sl 9 1 d.ra x.nr d.rc (d.rs.map Value.string), sl 5 1 d.ba x.nb d.bcap (bc d.bs)]
noncomputable def wlg (lb : Nat) (x : WlP) : Thing := some1 fun d : WlD => grp (d.things lb x)
theorem St.openL {w0 w : World} {lb : Nat} {x : WlP} {l : List Thing} (h : St w0 w (wlg lb x :: l)) : ∃ d : WlD, St w0 w (d.things lb x ++ l) := by
 obtain ⟨d, h⟩ := h.tell
 exact ⟨d, h.ungrp⟩
theorem St.shutL {w0 w : World} {lb : Nat} {x : WlP} {l : List Thing} (d : WlD) (h : St w0 w (d.things lb x ++ l)) : St w0 w (wlg lb x :: l) :=
 St.untell d (St.regrp (d.things lb x) h)
set_option maxHeartbeats 4000000 in
theorem format1_st {w0 w : World} {l : List Thing} (db n m b : Nat) (hn : 16 ≤ n ∧ n ≤ 100000) (hm : m ≤ 1000000) (h : St w0 w (dsk db n m :: bx b #[.pointer (some ⟨db, 0, none⟩)] 72 :: l)) :
 Calls Tryz.prog 88 #[.pointer (some ⟨b, 0, none⟩)] w (StPost (.int .i64 0) w0 (dsk db n (m + 1) :: bx b #[.pointer (some ⟨db, 0, none⟩)] 72 :: l)) := by
 have HA := Lib.hid h
 have c0 := blk_cell (h.box 1 rfl) 0 (.pointer (some ⟨db, 0, none⟩)) rfl
 have zb := heap_lt (h.box 1 rfl)
 clear h
 go_enter Tryz.func88, Tryz.ntmps88
 go_upto_region 1 with (fail)
 have HB := Lib.hid HA.out.drew
 have KP : Hid (∀ (w' : World) (G : List Thing) (i : Nat), St w0 w' G → G[i]? = some (bx b #[.pointer (some ⟨db, 0, none⟩)] 72) → w'.cell? ⟨b, 0, none⟩ = some (.pointer (some ⟨db, 0, none⟩))) := Lib.hid fun w' G i h hi => blk_cell (h.box i hi) 0 _ rfl
 clear HA c0 zb
 refine wp_region_last_held (n := 4) (S := fun w' => w'.cell? ⟨b, 0, none⟩ = some (.pointer (some ⟨db, 0, none⟩))) (by kernel_rfl) rfl (by simp only [List.pop_toArray, List.dropLast_cons_cons, List.dropLast_singleton]; rfl) (by kernel_rfl) (by kernel_rfl) (KP.out _ _ 1 HB.out rfl) (fun hHeld => ?_)
 generalize w.drew = V at HB hHeld ⊢
 refine tk 0 (some 2) ?_ rfl rfl hHeld ?_ ?_
 rotate_left
 ·intro wq hSw; (try dsimp only at hSw); go_simp; try with_reducible rfl
 try simp only [Act.put, Nat.zero_add, List.setIfInBounds_toArray, List.set_cons_zero, List.set_cons_succ]
 refine wpAnyH_ready (rs := [1]) (by kernel_rfl) (by simp) ?_
 refine (AllReadyH.cons (o := ⟨some 3, _, _, _, _, _⟩) rfl (fun K hK => ?_) AllReadyH.nil)
 refine step_makeB rfl rfl 64 rfl rfl (by omega) HB.out ?_
 intro w4 hS4
 have H4 := Lib.hid hS4
 clear hS4
 refine hK.out _ _ (KP.out _ _ 2 H4.out rfl) (fun hHeld => ?_)
 clear hK K
 try simp only [Act.put, Nat.zero_add, List.setIfInBounds_toArray, List.set_cons_zero, List.set_cons_succ]
 refine wpAnyH_ready (rs := [2]) (by kernel_rfl) (by simp) ?_
 refine (AllReadyH.cons (o := ⟨some 4, _, _, _, _, _⟩) rfl (fun K hK => ?_) AllReadyH.nil)
 refine step_toStringB rfl rfl V.heap.size 64 rfl (by omega) H4.out ?_
 intro s hs
 have H5 := Lib.hid H4.out.tail
 refine hK.out _ _ (KP.out _ _ 1 H5.out rfl) (fun hHeld => ?_)
 clear hK K
 try simp only [Act.put, Nat.zero_add, List.setIfInBounds_toArray, List.set_cons_zero, List.set_cons_succ]
 refine wpAnyH_ready (rs := [3]) (by kernel_rfl) (by simp) ?_
 refine (AllReadyH.cons (o := ⟨some 5, _, _, _, _, _⟩) rfl (fun K hK => ?_) AllReadyH.nil)
 go_simp
 refine (dwrite_st H5.out hn.2 hm 0 (by omega) s hs).mono ?_
 rintro e w6 ⟨rfl, hS6⟩
 have H6 := Lib.hid hS6
 clear hS6 H4 H5
 refine hK.out _ _ (KP.out _ _ 1 H6.out rfl) (fun hHeld => ?_)
 clear hK K
 try simp only [Act.put, Nat.zero_add, List.setIfInBounds_toArray, List.set_cons_zero, List.set_cons_succ]
 refine wpAnyH_done (by kernel_rfl) ?_ _
 refine LastQ.listP rfl ?_
 go_wp2
 go_ret
 exact ⟨rfl, H6.out⟩
set_option maxHeartbeats 4000000 in
theorem format2_st {w0 w : World} {l : List Thing} (db n m b : Nat) (hn : 16 ≤ n ∧ n ≤ 100000) (hm : m ≤ 1000000) (h : St w0 w (dsk db n m :: bx b #[.pointer (some ⟨db, 0, none⟩)] 72 :: l)) :
 Calls Tryz.prog 90 #[.pointer (some ⟨b, 0, none⟩)] w (StPost (.int .i64 0) w0 (dsk db n (m + 1) :: bx b #[.pointer (some ⟨db, 0, none⟩)] 72 :: l)) := by
 have HA := Lib.hid h.drew
 have KP : Hid (∀ (w' : World) (G : List Thing) (i : Nat), St w0 w' G → G[i]? = some (bx b #[.pointer (some ⟨db, 0, none⟩)] 72) → w'.cell? ⟨b, 0, none⟩ = some (.pointer (some ⟨db, 0, none⟩))) := Lib.hid fun w' G i h hi => blk_cell (h.box i hi) 0 _ rfl
 have zb := heap_lt (h.box 1 rfl)
 clear h
 go_enter Tryz.func90, Tryz.ntmps90
 go_upto_region 1 with (fail)
 go_region_held3 (fun w' => w'.cell? ⟨b, 0, none⟩ = some (.pointer (some ⟨db, 0, none⟩))) (first | exact KP.out _ _ 1 HA.out rfl | exact KP.out _ _ 1 HB.out rfl | exact KP.out _ _ 1 HC.out rfl)
  ((first
    | (go_at_call 91; refine (sector_st HA.out _ _ _ _ _ _).mono ?_; rintro e wB ⟨s, hs, rfl, hSB⟩; have HB := Lib.hid hSB; clear hSB)
    | (go_at_call 89; refine (dwrite_st HB.out hn.2 hm 1 (by omega) s hs).mono ?_; rintro e wC ⟨rfl, hSC⟩; have HC := Lib.hid hSC; clear hSC)))
 go_wp2
 go_ret
 exact ⟨rfl, HC.out⟩
theorem St.moreD {w0 w : World} {db n m k : Nat} {l : List Thing} (hk : m ≤ k) (h : St w0 w (dsk db n m :: l)) : St w0 w (dsk db n k :: l) := by
 obtain ⟨d, hd, hS⟩ := h.openD
 exact St.shutD d ⟨Nat.le_trans hd.few hk, hd.vals, hd.len, hd.one⟩ hS
set_option maxHeartbeats 8000000 in
theorem wformat_st {w0 w : World} {l : List Thing} (db n m : Nat) (hn : 16 ≤ n ∧ n ≤ 100000) (hm : m ≤ 900000) (h : St w0 w (dsk db n m :: l)) :
 Calls Tryz.prog 47 #[.pointer (some ⟨db, 0, none⟩)] w (fun e w' => ∃ lb, e = .returned (.tuple #[.pointer (some ⟨lb, 0, none⟩), .int .i64 0]) ∧ St w0 w' (wlg lb ⟨n, m + 3, 0, 0, 0, 1⟩ :: l)) := by
 have e88 : ∀ args w, (callFunc 88 args).run Tryz.prog w = .ok (.enter 88 args) w := fun _ _ => by kernel_rfl
 have e90 : ∀ args w, (callFunc 90 args).run Tryz.prog w = .ok (.enter 90 args) w := fun _ _ => by kernel_rfl
 have e92 : ∀ args w, (callFunc 92 args).run Tryz.prog w = .ok (.enter 92 args) w := fun _ _ => by kernel_rfl
 have hmf : ∀ (fn : Fn) (first cap : Array Value) (w : World), (Instr.makeFunc fn first cap).run Tryz.prog w = .ok (.func fn first cap) w := fun _ _ _ _ => rfl
 have H0 := h.box1 #[.pointer (some ⟨db, 0, none⟩)] 72
 have H1 := H0.box1 #[.func (.func 88) #[] #[.pointer (some ⟨w.heap.size, 0, none⟩)], .func (.func 90) #[] #[.pointer (some ⟨w.heap.size, 0, none⟩)], .func (.func 92) #[.pointer (some ⟨db, 0, none⟩)] #[]] 125
 simp only [World.size_alloc] at H1
 have HS1 := Lib.hid H1
 clear h H0 H1
 go_enter Tryz.func47, Tryz.ntmps47
 go_wp2_with (fail)
 generalize w.heap.size = fb at HS1 ⊢
 generalize World.alloc (World.alloc w _) _ = W1 at HS1 ⊢
 go_loopg [14] 3 (fun g y wr => ∃ k : Nat, k + g = 3 ∧ y = .int .i64 k ∧ k ≤ 3 ∧ St w0 wr (dsk db n (m + k) :: bx fb #[.pointer (some ⟨db, 0, none⟩)] 72 :: bx (fb + 1) #[.func (.func 88) #[] #[.pointer (some ⟨fb, 0, none⟩)], .func (.func 90) #[] #[.pointer (some ⟨fb, 0, none⟩)], .func (.func 92) #[.pointer (some ⟨db, 0, none⟩)] #[]] 125 :: l))
 case atStart => exact ⟨0, by omega, rfl, by omega, HS1.out.perm (List.perm_append_comm_assoc [_, _] [_] _ |>.trans (List.Perm.cons _ (List.Perm.swap _ _ _)))⟩
 case round =>
  clear HS1
  obtain ⟨k, hkg, rfl, hk3, hS⟩ := hrel
  by_cases hlt : k < 3
  ·have hb := hS.box 2 rfl
   have zb := heap_lt hb
   have hS3 := (hS.perm (List.Perm.cons _ (List.Perm.refl _)))
   have HS := Lib.hid hS
   rcases (by omega : k = 0 ∨ k = 1 ∨ k = 2) with rfl | rfl | rfl
   ·have c0 := blk_cell hb 0 _ rfl
    clear hb hS hS3
    go_wp2_with fail
    refine (format1_st db n _ fb hn (by omega) HS.out).mono ?_
    rintro e w2 ⟨rfl, hS2⟩
    have HS2 := Lib.hid hS2
    clear hS2
    go_wp2
    go_roundg 2
    case measure => omega
    case rel => exact ⟨1, by omega, rfl, by omega, HS2.out⟩
   ·have c0 := blk_cell hb 1 _ rfl
    clear hb hS hS3
    go_wp2_with fail
    refine (format2_st db n _ fb hn (by omega) HS.out).mono ?_
    rintro e w2 ⟨rfl, hS2⟩
    have HS2 := Lib.hid hS2
    clear hS2
    go_wp2
    go_roundg 1
    case measure => omega
    case rel => exact ⟨2, by omega, rfl, by omega, HS2.out⟩
   ·have c0 := blk_cell hb 2 _ rfl
    clear hb hS hS3
    go_wp2_with fail
    refine (dsync_st HS.out).mono ?_
    rintro e w2 ⟨rfl, hS2⟩
    have HS2 := Lib.hid (hS2.moreD (k := m + 3) (by omega))
    clear hS2
    go_wp2
    go_roundg 0
    case measure => omega
    case rel => exact ⟨3, by omega, rfl, by omega, HS2.out⟩
  ·obtain rfl : k = 3 := by omega
   have c0 := blk_cell (hS.box 1 rfl) 0 (.pointer (some ⟨db, 0, none⟩)) rfl
   have zb := heap_lt (hS.box 1 rfl)
   have H9 := hS.box1 #[.pointer (some ⟨db, 0, none⟩), .slice none 0 0, .int .i64 0, .slice none 0 0, .int .i64 0, .int .i64 1, .int .i64 0, .int .i64 0, .bool false] 187
   have HS := Lib.hid H9
   clear hS H9
   go_wp2
   refine bodyPost_ret (results_tmp2 rfl _ _ _) rfl ?_
   have h1 := HS.out.perm (List.Perm.cons _ (List.perm_append_comm_assoc [_] [_, _] _))
   have h2 := h1.perm (List.perm_append_comm_assoc [_] [_, _] _)
   have h3 := (h2.tail.tail).perm (List.Perm.refl _)
   have h4 := ((h3.nilSlice 5 1).nilSlice 9 1).perm (List.perm_append_comm_assoc [_, _] [_, _] _)
   exact ⟨_, rfl, St.shutL ⟨db, none, 0, [], none, 0, []⟩ h4⟩
end Go.Proofs.YtonnbkebjeoflaaGreatDoor
namespace Go.Proofs.YtonnbkebjeoflaaGreatDoor.W
open Go.RowKit
def sumStep (h : Int) (c : UInt8) : Int := bits .xor .u32 h ((c.toNat : Int) % 4294967296) * 16777619 % 4294967296
def sumOf (l : List UInt8) (h : Int) : Int := l.foldl sumStep h
theorem sumOf_next (s : ByteArray) (k : Nat) (h : k < s.size) (a : Int) : sumOf (s.data.toList.take (k + 1)) a = sumStep (sumOf (s.data.toList.take k) a) (s[k]) := by
 have hk : k < s.data.toList.length := by rw [Array.length_toList]; exact h
 rw [List.take_succ_eq_append_getElem hk]
 unfold sumOf
 rw [List.foldl_append]
 rfl
theorem sum_any (s : ByteArray) (hf : bfits s.size) (w : World) : Calls Tryz.prog 172 #[.string s] w (SumPost (.int .u32 (sumOf s.data.toList 2166136261)) w) := by
 obtain ⟨n, hn⟩ : ∃ n, s.size = n := ⟨_, rfl⟩
 have hnl : n ≤ 2 ^ 63 - 1 := hn ▸ hf.le
 clear hf
 go_enter Tryz.func172, Tryz.ntmps172
 go_wp2
 go_loopw [3, 7] (fun h i wr => ∃ k : Nat, k ≤ n ∧ i = .int .i64 k ∧ h = .int .u32 (sumOf (s.data.toList.take k) 2166136261) ∧ wr = w) (fun _ i _ => n - (intOf i).toNat)
 case atStart => exact ⟨0, by omega, rfl, rfl, rfl⟩
 case round =>
  obtain ⟨k, hk, rfl, rfl, rfl⟩ := hrel
  by_cases hlt : k < n
  ·obtain ⟨h, hh⟩ : ∃ h, sumOf (s.data.toList.take k) 2166136261 = h := ⟨_, rfl⟩
   rw [hh]
   have HH := Lib.hid hh
   have HX := Lib.hid (sumOf_next s k (hn ▸ hlt) 2166136261)
   clear hh
   go_wp2
   refine ⟨⟨k + 1, by omega, by simp, ?_, trivial⟩, ?_⟩
   ·rw [HX.out, HH.out]; rfl
   ·simp only [intOf]; omega
  ·obtain rfl : k = n := by omega
   go_wp2
   go_ret
   refine ⟨?_, rfl⟩
   rw [List.take_of_length_le (by rw [Array.length_toList, ← hn]; exact Nat.le_refl _)]
   rfl
end Go.Proofs.YtonnbkebjeoflaaGreatDoor.W
namespace Go.Proofs.YtonnbkebjeoflaaGreatDoor
open Go.RowKit Go.Maps
theorem wpList_makeC {ops : Array Oper} {rest : List Oper} {o : Oper} {a : Act} {w : World} {Q : Exit → Act → World → Prop} (hg : o.guard = none) (x y : Operand) (hop : o.op = Op.makeSlice 93 x y) (n c : Nat) (hx : a.eval x = .int .i64 (n : Int)) (hy : a.eval y = .int .i64 (c : Int)) (hnc : n ≤ c) (hn : c ≤ 1000000) {w0 : World} {l : List Thing} (h : St w0 w l)
 (hK : ∀ w', St w0 w' (byt w.heap.size c :: l) → wpList Tryz.prog ops Q rest (a.put o.dst (.slice (some ⟨w.heap.size, 0, none⟩) n c)) w') : wpList Tryz.prog ops Q (o :: rest) a w := by
 obtain ⟨ip, hi1, hi2, hi3, hi4⟩ := info_parts infoU8w
 refine wpList_plain hg fun K hK' => ?_
 have hrun := run_make (P := Tryz.prog) w 93 5 ip (.int .u8 0) Tryz.underlying93 hi1 hi2 .i64 .i64 (n : Int) (c : Int) (by omega) (by omega) (by rw [hi4]; omega) (by omega)
 rw [Int.toNat_natCast, Int.toNat_natCast, hi3, Nat.mul_one] at hrun
 unfold Oper.wp
 simp [execOp, hop, hx, hy, hrun, Result.andThen]
 exact hK' _ _ (hK _ (h.newB c))
theorem wpList_appendRS {ops : Array Oper} {rest : List Oper} {dst : Option Tmp} {ty0 : TypeId} {pos : String} {after : Array Edge} {a : Act} {w : World} {Q : Exit → Act → World → Prop} {x y : Operand} (g n N : Nat) (s : ByteArray) {w0 : World} {l : List Thing} (h : St w0 w (byt g N :: l)) (hx : a.eval x = .slice (some ⟨g, 0, none⟩) n N) (hy : a.eval y = .string s) (hfit : n + s.size ≤ N)
 (hn : ∀ w', St w0 w' (byt g N :: l) → wpList Tryz.prog ops Q rest (a.put dst (.slice (some ⟨g, 0, none⟩) (n + s.size) N)) w') :
 wpList Tryz.prog ops Q (⟨dst, .call { callee := .builtin .append, args := #[x, y], argTypes := #[93, 9] }, ty0, pos, after, none⟩ :: rest) a w :=
 wpList_plain rfl fun K hK => by
  obtain ⟨ip, hi1, hi2, hi3, hi4⟩ := info_parts infoU8w
  obtain ⟨bs, hl, hS⟩ := h.openB
  have hrun := Go.Lib.run_append_room_string (P := Tryz.prog) (w := w) 93 9 ty0 5 ip Tryz.underlying93 Tryz.underlying9 hi1 hi3 g n N (bc bs).toArray (hS.box 0 rfl) s hfit (by rw [List.size_toArray, bc_length, hl]; exact hfit)
  have e : bc (bs.take n ++ s.data.toList ++ bs.drop (n + s.size)) = (bc bs).take n ++ Go.Lib.strCells s ++ (bc bs).drop (n + s.size) := by
   rw [bc_append, bc_append, bc_take, bc_drop]; rfl
  have hw : (w.setRow g ((bc bs).take n ++ Go.Lib.strCells s ++ (bc bs).drop (n + s.size)).toArray).heap[g]? = some (.cells (bc (bs.take n ++ s.data.toList ++ bs.drop (n + s.size))).toArray 5 (0, 0)) := by
   rw [e]; exact setRow_heap w g (bc bs).toArray _ 5 _ (hS.box 0 rfl)
  unfold Oper.wp
  simp [execOp, resolve, invoke, builtin, hx, hy, hrun, Result.andThen]
  have hsl : s.data.toList.length = s.size := Array.length_toList
  have h9 := hn _ (St.shutB _ (by simp only [List.length_append, List.length_take, List.length_drop, hsl]; omega) (hS.rebox 0 rfl hw ((Mod.refl _ w).setRow _ _ (fun _ => rfl))))
  simp only [List.append_assoc] at h9
  exact hK _ _ h9
theorem St.bytSl {w0 w : World} {g N n : Nat} {l : List Thing} (h : St w0 w (byt g N :: l)) (hn : n ≤ N) (hN : N ≤ 1000000) : ∃ bs : List UInt8, bs.length = n ∧ St w0 w (sl 5 1 (some ⟨g, 0, none⟩) n N (bc bs) :: l) := by
 obtain ⟨bs, hl, hS⟩ := h.openB
 refine ⟨bs.take n, by rw [List.length_take]; omega, ?_⟩
 obtain ⟨F1, ⟨hh, hF⟩, hz, hk⟩ := hS.at 0 rfl
 refine hk w (sl 5 1 (some ⟨g, 0, none⟩) n N (bc (bs.take n))) F1 (Mod.refl _ _) ⟨⟨by rw [bc_length, List.length_take]; omega, hn, by unfold maxLen; omega, .inr ⟨g, 0, _, rfl, hh, by rw [List.size_toArray, bc_length]; omega, ?_⟩⟩, fun x => ?_⟩ (fun x hx => .inl hx)
 ·rw [List.drop_zero, Nat.mul_one, bc_take]
 ·rw [hF]; simp [own]; exact eq_comm
set_option maxHeartbeats 8000000 in
theorem record_st {w0 w : World} {l : List Thing} (s : ByteArray) (hs : s.size ≤ 4000) (h : St w0 w l) :
 Calls Tryz.prog 96 #[.string s] w (fun e w' => ∃ (a : Option Addr) (cap : Nat) (bs : List UInt8), bs.length = s.size + 6 ∧ e = .returned (.slice a (s.size + 6 : Nat) cap) ∧ St w0 w' (sl 5 1 a (s.size + 6) cap (bc bs) :: l)) := by
 obtain ⟨sn, hsn⟩ : ∃ sn, s.size = sn := ⟨_, rfl⟩
 obtain ⟨ip, hi1, hi2, hi3, hi4⟩ := info_parts infoU8w
 have HI := Lib.hid (And.intro hi1 (And.intro hi2 (And.intro hi3 hi4)))
 rw [hsn] at hs ⊢
 have hw1 : wrap64 ((sn : Int) + 6) = ((sn + 6 : Nat) : Int) := by unfold wrap64; omega
 have HS := Lib.hid h
 have T1 := Lib.hid trivial
 clear h hi1 hi2 hi3 hi4
 go_enter Tryz.func96, Tryz.ntmps96
 go_upto_region 5 with (first
  | (at_make; have T2 := T1; clear T1; refine wpList_makeC rfl _ _ rfl 2 (sn + 6) rfl (by first | rfl | (rw [← hw1]; rfl)) (by omega) (by omega) HS.out ?_; intro w1 hS1; have HS1 := Lib.hid hS1; clear hS1; generalize w.heap.size = ob at HS1 ⊢)
  | (at_make; have T4 := T3; clear T3; refine wpList_makeB rfl _ _ rfl 4 rfl rfl (by omega) HS3.out w3.heap.size rfl ?_; intro w4 hS4; have HS4 := Lib.hid hS4; clear hS4; generalize w3.heap.size = sb at HS4 ⊢)
  | (go_at_call 171; refine (big_st ob (sn + 6) HS1.out 0 2 (sn + 6) (by omega) (by omega) _).mono ?_; rintro e w2 ⟨rfl, hS2⟩; have HS2 := Lib.hid hS2; clear hS2)
  | ((with_reducible refine at_list ?_); refine wpList_appendRS ob 2 (sn + 6) s HS2.out rfl rfl (by omega) ?_; intro w3 hS3; have HS3 := Lib.hid hS3; have T3 := T2; clear hS3 T2))
 obtain ⟨bs1, hl1, hS5⟩ := (HS4.out.pick 1 rfl).bytSl (n := 2 + sn) (by omega) (by omega)
 simp only [List.eraseIdx_cons_zero, List.eraseIdx_cons_succ] at hS5
 have HS5 := Lib.hid hS5
 have HL1 := Lib.hid hl1
 have hbs : (⟨bs1.toArray⟩ : ByteArray).size ≤ 5000 := by show bs1.toArray.size ≤ 5000; rw [List.size_toArray, hl1]; omega
 have CSM := Lib.hid (fun w' => W.sum_any ⟨bs1.toArray⟩ (by unfold W.bfits; omega) w')
 clear hS5 hl1 HS4 hbs T4
 go_wp2_with (first
  | ((with_reducible refine at_list ?_); refine wpList_toString 5 Tryz.underlying93 Tryz.underlying5 Tryz.underlying9 (some ⟨ob, 0, none⟩) (2 + sn) (sn + 6) rfl bs1 (HS5.out.slice 0 rfl).rd ?_)
  | (go_at_call 172; refine (CSM.out _).mono ?_; rintro e w6 ⟨rfl, rfl⟩)
  | (go_at_call 171; refine (big_st sb 4 (HS5.out.perm (List.Perm.swap _ _ _)) 0 4 4 (by omega) (by omega) _).mono ?_; rintro e w7 ⟨rfl, hS7⟩; have HS7 := Lib.hid hS7; clear hS7)
  | (at_builtin; obtain ⟨bs2, hl2, hS8⟩ := HS7.out.bytSl (n := 4) (by omega) (by omega); refine wpList_append 5 ip _ 1 1 Tryz.underlying93 HI.out.1 HI.out.2.1 HI.out.2.2.1 HI.out.2.2.2 rfl (some ⟨ob, 0, none⟩) (2 + sn) (sn + 6) (bc bs1) rfl (hS8.slice 1 rfl) (some ⟨sb, 0, none⟩) 4 4 (bc bs2) rfl (hS8.slice 0 rfl).rd (bc_one _) (by unfold maxLen; omega) (by omega) ?_; intro a9 cap9 w9 hS9 hM9 hF9 hN9 hR9; have H9 := Lib.hid (hS8.regrow 1 rfl hS9 hM9 hF9); have HL2 := Lib.hid hl2; clear hS9 hM9 hF9 hN9 hR9 hS8 hl2 HS7))
 go_ret
 have h9 := H9.out.tail
 have e1 : 2 + sn + 4 = sn + 6 := by omega
 simp only [List.set_cons_zero, List.set_cons_succ, List.tail_cons, e1] at h9
 refine ⟨a9, cap9, bs1 ++ bs2, by rw [List.length_append, HL1.out, HL2.out]; omega, ?_, ?_⟩
 ·rw [← e1]; rfl
 ·rw [bc_append]; exact h9
end Go.Proofs.YtonnbkebjeoflaaGreatDoor
namespace Go.Proofs.YtonnbkebjeoflaaGreatDoor
open Go.RowKit Go.Maps
def Spot : Type := {p : Int × ByteArray // okInt p.1 ∧ p.2.size ≤ maxLen}
instance : DecidableEq Spot := fun a b => if h : a.1 = b.1 then .isTrue (Subtype.ext h) else .isFalse fun e => h (congrArg Subtype.val e)
def Spot.kind (s : Spot) : Int := s.1.1
def Spot.path (s : Spot) : ByteArray := s.1.2
def Spot.val (s : Spot) : Value := .agg #[.int .i64 s.kind, .string s.path]
def Spot.lits (s : Spot) : List Lit := [.int .i64 s.kind, .string s.path.data.toList]
theorem laidOutT : laidOutB Tryz.prog = true := by kernel_rfl
theorem rowSpot : (206 : TypeId) < Tryz.prog.types.size := of_decide_eq_true (by kernel_rfl)
theorem wideSpot : (match Tryz.prog.underlying 206 with | some (.array _ _) | some (.struct _) => true | _ => false) = true := by kernel_rfl
theorem lawSpot : WideMaps.KeyLaw Tryz.prog 206 := deep_law_laid laidOutT (m := 2) (by omega) rowSpot (by kernel_rfl) wideSpot
theorem keyTSpot : Tryz.prog.keyType 206 = true := by kernel_rfl
theorem cellsSpot : Tryz.prog.cellsOf 206 = 2 := by kernel_rfl
theorem cellsInt0 : Tryz.prog.cellsOf 3 = 1 := by kernel_rfl
theorem cellsStr0 : Tryz.prog.cellsOf 9 = 1 := by kernel_rfl
theorem lits_spot (k : Int) (p : ByteArray) (d : Nat) (hk : okInt k) (hp : p.size ≤ maxLen) : Tryz.prog.keyLits (d + 2) 206 [.int .i64 k, .string p] = some [.int .i64 k, .string p.data.toList] := by
 have hw : (Lit.int .i64 k).wf = true := by unfold okInt at hk; simp [Lit.wf, IntKind.min, IntKind.max, IntKind.signed, IntKind.bits]; omega
 have h1 : ∀ d, Tryz.prog.keyLits (d + 1) 3 [.int .i64 k] = some [.int .i64 k] := fun d => by
  unfold Program.keyLits
  simp [kInt, hw]
 have h2 : ∀ d, Tryz.prog.keyLits (d + 1) 9 [.string p] = some [.string p.data.toList] := fun d => by
  unfold Program.keyLits
  simp [kStr, hp]
 unfold Program.keyLits
 simp [Tryz.underlying206, cellsSpot, cellsInt0, cellsStr0, h1, h2]
theorem spot_key (s : Spot) : keyOf Tryz.prog 206 s.val = some (.string (keyBytes s.lits)) := by
 have hf : s.val.formed Tryz.prog 206 = true := by
  unfold Spot.val Value.formed
  simp [Tryz.underlying206, cellsSpot]
 have hl := lits_spot s.kind s.path (Tryz.prog.types.size - 1) s.2.1 s.2.2
 have hs : Tryz.prog.types.size - 1 + 2 = Tryz.prog.types.size + 1 := by have : (206 : Nat) < Tryz.prog.types.size := rowSpot; omega
 rw [hs] at hl
 unfold keyOf
 simp only [Tryz.underlying206]
 rw [keyTSpot, hf]
 simp only [Bool.and_self, if_true]
 show Option.map _ (Tryz.prog.keyLits _ _ [.int .i64 s.kind, .string s.path]) = _
 rw [hl]
 rfl
theorem spot_inv {v : Value} {kl : Lit} (h : keyOf Tryz.prog 206 v = some kl) : ∃ s : Spot, v = s.val ∧ kl = .string (keyBytes s.lits) := by
 obtain ⟨xs, L, rfl, hL, rfl⟩ := keyOf_top wideSpot h
 have hs : Tryz.prog.types.size + 1 = (Tryz.prog.types.size - 1) + 2 := by have : (206 : Nat) < Tryz.prog.types.size := rowSpot; omega
 rw [hs] at hL
 unfold Program.keyLits at hL
 simp only [Tryz.underlying206, cellsSpot] at hL
 split at hL
 ·rename_i hc
  obtain ⟨xs⟩ := xs
  match xs, hc.1, hL with
  | [a, b], _, hL =>
    have h1 : ∀ (d : Nat) (v : Value), Tryz.prog.keyLits (d + 1) 3 [v] = match v with | .int q n => if IntKind.i64 = q ∧ (Lit.int .i64 n).wf = true then some [.int .i64 n] else none | _ => none := fun d v => by
     unfold Program.keyLits
     cases v <;> simp [kInt]
     rename_i q n
     by_cases hq : q = .i64
     ·subst hq; simp
     ·simp [hq, Ne.symm hq]
    have h2 : ∀ (d : Nat) (v : Value), Tryz.prog.keyLits (d + 1) 9 [v] = match v with | .string p => if p.size ≤ maxLen then some [.string p.data.toList] else none | _ => none := fun d v => by
     unfold Program.keyLits
     cases v <;> simp [kStr]
    simp [cellsInt0, cellsStr0, h1, h2] at hL
    cases a with
    | int q n =>
      cases b with
      | string p =>
        by_cases hq : IntKind.i64 = q ∧ (Lit.int .i64 n).wf = true
        ·by_cases hp : p.size ≤ maxLen
         ·obtain ⟨rfl, hw⟩ := hq
          simp [hp, hw] at hL
          subst hL
          have hok : okInt n := by simp [Lit.wf, IntKind.min, IntKind.max, IntKind.signed, IntKind.bits] at hw; unfold okInt; omega
          exact ⟨⟨(n, p), hok, hp⟩, rfl, rfl⟩
         ·simp only [if_neg hp] at hL
          obtain ⟨_, _, h9⟩ := Option.bind_eq_some_iff.1 hL
          simp at h9
        ·simp [hq] at hL
      | _ =>
        obtain ⟨_, _, h9⟩ := Option.bind_eq_some_iff.1 hL
        simp at h9
    | _ => simp at hL
 ·simp at hL
theorem spot_ne {x y : Spot} (h : x ≠ y) : (Lit.string (keyBytes x.lits)) ≠ .string (keyBytes y.lits) := fun e => h (by
 have h1 := spot_key x
 have h2 := spot_key y
 rw [e] at h1
 have h3 := lawSpot.inj h1 h2
 unfold Spot.val at h3
 injection h3 with h3
 injection h3 with h3
 injection h3 with h4 h5
 injection h5 with h5
 injection h4 with _ h4
 injection h5 with h5
 exact Subtype.ext (Prod.ext h4 h5))
noncomputable def kbSpot : KB Tryz.prog 206 Spot where
 inj := Spot.val
 lit s := .string (keyBytes s.lits)
 ok _ := True
 keyed := Keyed.of_law lawSpot
 key := fun {x} _ => spot_key x
 inv := fun {v kl} h => by
  obtain ⟨s, h1, h2⟩ := spot_inv h
  exact ⟨s, trivial, h1, h2⟩
 ne := spot_ne
 is := fun x => by simp [WideAt.IsKeyLit]
theorem mapBy : Tryz.prog.underlying 178 = some (.map 206 179) := Tryz.underlying178
theorem mapInts : Tryz.prog.underlying 179 = some (.map 3 3) := Tryz.underlying179
end Go.Proofs.YtonnbkebjeoflaaGreatDoor
