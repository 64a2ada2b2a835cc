/-
  Laws of WalD, WalE, WalF.
  Conditions: each law states its own.
-/
import Derived.Laws.CopyRow
import Derived.Test.YtonnbkebjeoflaaGreatDoorJ12
import Derived.Test.YtonnbkebjeoflaaGreatDoorJ20
import Derived.Test.YtonnbkebjeoflaaGreatDoorJ37
set_option maxHeartbeats 16000000
set_option linter.unusedSectionVars false
set_option linter.unusedSimpArgs false
set_option linter.unusedVariables false
set_option maxRecDepth 100000
namespace Go.Proofs.YtonnbkebjeoflaaGreatDoor
open Go.RowKit Go.Maps
theorem half_any {w0 w : World} {db m : Nat} {l : List Thing} (i : Nat) (h : St w0 w l) (hi : l[i]? = some (dsk db 64 m)) :
 Calls Tryz.prog 107 #[.pointer (some ⟨db, 0, none⟩)] w (fun e w' => e = .returned (.int .i64 31) ∧ w' = w) := by
 have CS := Lib.hid (dsize_any i h hi (by omega))
 clear h hi
 go_enter Tryz.func107, Tryz.ntmps107
 go_wp2_with (go_at_call 179; refine CS.out.mono ?_; rintro e _ ⟨rfl, rfl⟩)
 go_ret
 exact ⟨rfl, rfl⟩
theorem fits_any {w0 w : World} {l : List Thing} (lb : Nat) (x : WlP) (hx : x.n = 64) (h : St w0 w (wlg lb x :: l)) (k : Nat) (hk : k ≤ 1984) :
 Calls Tryz.prog 94 #[.pointer (some ⟨lb, 0, none⟩), .int .i64 k] w (fun e w' => e = .returned (.bool true) ∧ w' = w) := by
 obtain ⟨n, m, nr, nb, ns, ct⟩ := x
 simp only at hx
 subst hx
 obtain ⟨d, hS⟩ := h.openL
 have CH := Lib.hid (half_any 1 hS rfl)
 have c0 := blk_cell (hS.box 0 rfl) 0 (.pointer (some ⟨d.db, 0, none⟩)) rfl
 have hk2 : (k : Int) ≤ 1984 := by omega
 clear h hS
 go_enter Tryz.func94, Tryz.ntmps94
 go_wp2_with (go_at_call 107; refine CH.out.mono ?_; rintro e _ ⟨rfl, rfl⟩)
 go_ret
 exact ⟨by simp [hk2], rfl⟩
theorem room_any {w0 w : World} {l : List Thing} (lb : Nat) (x : WlP) (hx : x.n = 64) (h : St w0 w (wlg lb x :: l)) (hb : x.nb ≤ 1978) :
 Calls Tryz.prog 53 #[.pointer (some ⟨lb, 0, none⟩)] w (fun e w' => e = .returned (.int .i64 (1978 - x.nb)) ∧ w' = w.drew) := by
 obtain ⟨n, m, nr, nb, ns, ct⟩ := x
 simp only at hx hb ⊢
 subst hx
 obtain ⟨d, hS⟩ := h.openL
 have CH := Lib.hid (half_any 1 hS.drew rfl)
 have HA := Lib.hid hS.drew
 have c0 := blk_cell (hS.box 0 rfl) 0 (.pointer (some ⟨d.db, 0, none⟩)) rfl
 have c3 := blk_cell (hS.box 0 rfl) 3 (.slice d.ba nb d.bcap) rfl
 have zl := heap_lt (hS.box 0 rfl)
 have hw1 : wrap64 (1984 - (nb : Int)) = 1984 - nb := by unfold wrap64; omega
 have hw2 : wrap64 (1984 - (nb : Int) - 6) = 1978 - nb := by unfold wrap64; omega
 have h1 : (1978 : Int) - nb < 4000 := by omega
 have h2 : (1978 : Int) - nb > -1 := by omega
 clear h hS
 go_enter Tryz.func53, Tryz.ntmps53
 go_upto_region 1 with (fail)
 refine wp_region_last_held (n := 15) (S := fun w' => w' = w.drew) (by kernel_rfl) rfl (by simp only [List.pop_toArray, List.dropLast_cons_cons, List.dropLast_singleton]; rfl) (by kernel_rfl) (by kernel_rfl) rfl (fun hHeld => ?_)
 have d0 : w.drew.cell? ⟨lb, 0, none⟩ = some (.pointer (some ⟨d.db, 0, none⟩)) := c0
 have d3 : w.drew.cell? ⟨lb, 3, none⟩ = some (.slice d.ba nb d.bcap) := c3
 have hwv : IntKind.i64.wrap (IntKind.i64.wrap (IntKind.i64.wrap 1984 - (nb : Int)) - 6) = 1978 - nb := by simp only [IntKind.wrap_i64]; omega
 generalize hV : w.drew = V at hHeld d0 d3 CH ⊢
 refine tk 0 (some 3) ?_ rfl rfl hHeld ?_ ?_
 rotate_left
 ·intro wq hSw; (try dsimp only at hSw); go_simp; try with_reducible rfl
 refine tk 1 (some 4) ?_ rfl rfl hHeld ?_ ?_
 rotate_left
 ·intro wq hSw; (try dsimp only at hSw); go_simp; try with_reducible rfl
 refine tk 2 (some 5) ?_ rfl rfl hHeld ?_ ?_
 rotate_left
 ·intro wq hSw; (try dsimp only at hSw); go_simp; try with_reducible rfl
 refine tk 3 (some 6) ?_ rfl rfl hHeld ?_ ?_
 rotate_left
 ·intro wq hSw; (try dsimp only at hSw); go_simp; try with_reducible rfl
 try simp only [Act.put, Nat.zero_add, zA, zB, zC]
 refine tk 6 (some 9) ?_ rfl rfl hHeld ?_ ?_
 rotate_left
 ·intro wq hSw; (try dsimp only at hSw); go_simp; try with_reducible rfl
 refine tk 7 (some 10) ?_ rfl rfl hHeld ?_ ?_
 rotate_left
 ·intro wq hSw; (try dsimp only at hSw); go_simp; try with_reducible rfl
 refine tk 8 (some 11) ?_ rfl rfl hHeld ?_ ?_
 rotate_left
 ·intro wq hSw; (try dsimp only at hSw); go_simp; try with_reducible rfl
 refine tk 9 (some 12) ?_ rfl rfl hHeld ?_ ?_
 rotate_left
 ·intro wq hSw; (try dsimp only at hSw); go_simp; try with_reducible rfl
 refine tk 10 (some 13) ?_ rfl rfl hHeld ?_ ?_
 rotate_left
 ·intro wq hSw; (try dsimp only at hSw); go_simp; try with_reducible rfl
 try simp only [Act.put, Nat.zero_add, zA, zB, zC]
 refine wpAnyH_ready (rs := [4]) (by kernel_rfl) (by simp) ?_
 refine (AllReadyH.cons (o := ⟨some 7, _, _, _, _, _⟩) rfl (fun K hK => ?_) AllReadyH.nil)
 go_simp
 refine CH.out.mono ?_
 rintro e _ ⟨rfl, rfl⟩
 refine hK.out _ _ rfl (fun hHeld => ?_)
 clear hK K
 try simp only [Act.put, Nat.zero_add, zA, zB, zC]
 refine tk 5 (some 8) ?_ rfl rfl hHeld ?_ ?_
 rotate_left
 ·intro wq hSw; (try dsimp only at hSw); go_simp; try with_reducible rfl
 try simp only [Act.put, Nat.zero_add, zA, zB, zC]
 refine tk 11 (some 14) ?_ rfl rfl hHeld ?_ ?_
 rotate_left
 ·intro wq hSw; (try dsimp only at hSw); go_simp; try with_reducible rfl
 try simp only [Act.put, Nat.zero_add, zA, zB, zC]
 refine wpAnyH_take (i := 12) (oi := ⟨some 15, _, _, _, _, _⟩) (v := .int .i64 (1978 - (nb : Int))) rfl (by kernel_rfl) (by kernel_rfl) (by kernel_rfl) (fun _ _ _ h => h) (Or.inl ⟨by rfl, ?_⟩) hHeld ?_
 ·intro wq hSw
  go_simp
 try simp only [Act.put, Nat.zero_add, zA, zB, zC]
 refine wpAnyH_take (i := 13) (oi := ⟨some 16, _, _, _, _, _⟩) (v := _) rfl (by kernel_rfl) (by kernel_rfl) (by kernel_rfl) (fun _ _ _ h => h) (yieldsMin (by rfl) rfl 4000 (1978 - nb) (1978 - nb) (by rfl) (by rfl) (if_pos h1)) hHeld ?_
 try simp only [Act.put, Nat.zero_add, zA, zB, zC]
 refine wpAnyH_take (i := 14) (oi := ⟨some 17, _, _, _, _, _⟩) (v := _) rfl (by kernel_rfl) (by kernel_rfl) (by kernel_rfl) (fun _ _ _ h => h) (yieldsMax (by rfl) rfl (-1) (1978 - nb) (1978 - nb) (by rfl) (by rfl) (if_pos h2)) hHeld ?_
 try simp only [Act.put, Nat.zero_add, zA, zB, zC]
 refine wpAnyH_done (by kernel_rfl) ?_ _
 refine LastQ.listP rfl ?_
 go_wp2
 go_ret
 exact ⟨rfl, rfl⟩
theorem wpList_copyRd {ops : Array Oper} {rest : List Oper} {dst : Option Tmp} {ty0 : TypeId} {pos : String} {after : Array Edge} {a : Act} {w : World} {Q : Exit → Act → World → Prop} {x y : Operand} (g N : Nat) {w0 : World} {l : List Thing} (h : St w0 w (byt g N :: l)) (hx : a.eval x = .slice (some ⟨g, 0, none⟩) N N) (p : Option Addr) (n cap : Nat) (hy : a.eval y = .slice p n cap) (bs : List UInt8) (hr : Rd w 1 p n cap (bc bs)) (hn0 : 0 < n)
 (hn : ∀ v w', St w0 w' (byt g N :: l) → wpList Tryz.prog ops Q rest (a.put dst v) w') :
 wpList Tryz.prog ops Q (⟨dst, .call { callee := .builtin .copy, args := #[x, y], argTypes := #[93, 93] }, ty0, pos, after, none⟩ :: rest) a w :=
 wpList_plain rfl fun K hK => by
  obtain ⟨hl, hnc, _, ⟨rfl, h0⟩ | ⟨ad, rfl, hc⟩⟩ := hr
  ·omega
  ·obtain ⟨bg, hlg, hS⟩ := h.openB
   rw [bc_length, Nat.mul_one] at hl
   have hcl : (bc (bs.take N)).length = Nat.min n N := by rw [bc_length, List.length_take, hl]; exact Nat.min_comm _ _
   have hle : (bc (bs.take N)).length ≤ N := by rw [hcl]; exact Nat.min_le_right _ _
   have hrun := run_copy_row (P := Tryz.prog) w 93 93 ty0 5 g 0 N N ad n cap (bc bg).toArray 5 (bc (bs.take N)) Tryz.underlying93 sizeU8w (hS.box 0 rfl) hcl (fun j v hj => hc j v (by rw [← bc_take, List.getElem?_take] at hj; split at hj; exact hj; cases hj)) (by have h7 := hle; rw [bc_length] at h7; rw [List.size_toArray, bc_length, bc_length, hlg]; omega) (bc_one _)
   have e : bc (bs.take N ++ bg.drop (bc (bs.take N)).length) = (bc bg).take 0 ++ bc (bs.take N) ++ (bc bg).drop (0 + (bc (bs.take N)).length) := by
    rw [bc_append, bc_drop, List.take_zero, List.nil_append, Nat.zero_add]
   have hw : (w.setRow g ((bc bg).take 0 ++ bc (bs.take N) ++ (bc bg).drop (0 + (bc (bs.take N)).length)).toArray).heap[g]? = some (.cells (bc (bs.take N ++ bg.drop (bc (bs.take N)).length)).toArray 5 (0, 0)) := by
    rw [e]; exact setRow_heap w g (bc bg).toArray _ 5 _ (hS.box 0 rfl)
   have h9 := fun v => hn v _ (St.shutB _ (by rw [bc_length] at hle; simp only [List.length_append, List.length_drop, bc_length]; rw [hlg]; omega) (hS.rebox 0 rfl hw ((Mod.refl _ w).setRow _ _ (fun _ => rfl))))
   unfold Oper.wp
   simp only [execOp, resolve, invoke, builtin, Sem.run_bind, Sem.run_pure, Result.andThen_ok, List.map_toArray, List.map_cons, List.map_nil, hx, hy, hrun]
   exact hK _ _ (h9 _)
theorem dwriteI_st {w0 w : World} {db n m : Nat} {l : List Thing} (h : St w0 w (dsk db n m :: l)) (hn : n ≤ 100000) (hm : m ≤ 1000000) (z : Int) (k : Nat) (hz : z = (k : Int)) (hk : k < n) (s : ByteArray) (hs : s.size = 64) :
 Calls Tryz.prog 89 #[.pointer (some ⟨db, 0, none⟩), .int .i64 z, .string s] w (StPost (.int .i64 0) w0 (dsk db n (m + 1) :: l)) := by
 subst hz
 exact dwrite_st h hn hm k hk s hs
theorem wrap_lay (i : Nat) (h : i ≤ 31) : IntKind.i64.wrap (IntKind.i64.wrap (2 + IntKind.i64.wrap 0) + (i : Int)) = 2 + (i : Int) := by
 have h0 : IntKind.i64.wrap (2 + IntKind.i64.wrap 0) = 2 := by decide
 rw [h0]
 have := IntWalk.i64_left (2 + (i : Int))
 simp [IntKind.wrap, IntKind.bits, IntKind.signed]
 omega
theorem yieldsToStr {P : Program} {ops : Array Oper} {S : World → Prop} {o : Oper} {a : Act} {src dst e : TypeId} {x : Operand} (hw : Region.wanted o (yielded ops a.tmps) = true) (ho : o.op = .convert src dst x) (hs : P.underlying src = some (.slice e)) (he : P.underlying e = some (.int .u8)) (hd : P.underlying dst = some .string)
 (p : Option Addr) (n cap : Nat) (hx : a.eval x = .slice p n cap) (bs : List UInt8) (hS : ∀ w, S w → Rd w 1 p n cap (bc bs)) : YieldsIf P ops S o (.string ⟨bs.toArray⟩) a :=
 Or.inl ⟨hw, fun w h => by
  have hrun := toString_law (P := P) w src dst e hs he hd p n cap bs (hS w h)
  unfold execOp
  simp only [ho, hx, Sem.run_bind, Sem.run_pure, hrun, Result.andThen_ok]⟩
theorem lay_st {w0 w : World} {l : List Thing} (lb : Nat) (x : WlP) (hx : x.n = 64) (hm : x.m ≤ 900000) (a : Option Addr) (na ca : Nat) (bs : List UInt8) (hna : na ≤ 1984) (from_ : Nat) (hfr : from_ ≤ 1984) (h : St w0 w (wlg lb x :: sl 5 1 a na ca (bc bs) :: l)) :
 Calls Tryz.prog 97 #[.pointer (some ⟨lb, 0, none⟩), .int .i64 0, .slice a na ca, .int .i64 from_] w (StPost (.int .i64 0) w0 (wlg lb { x with m := x.m + 32 } :: sl 5 1 a na ca (bc bs) :: l)) := by
 obtain ⟨n, m, nr, nb, ns, ct⟩ := x
 simp only at hx hm ⊢
 subst hx
 obtain ⟨d, hS⟩ := h.openL
 obtain ⟨f0, hf0⟩ : ∃ f0, from_ / 64 = f0 := ⟨_, rfl⟩
 have hf31 : f0 ≤ 31 := by omega
 have hq : ((from_ : Int).tdiv 64) = (f0 : Int) := by rw [← hf0, Int.tdiv_eq_ediv_of_nonneg (by omega)]; omega
 have HS : Hid (St w0 w (bx lb #[.pointer (some ⟨d.db, 0, none⟩), .slice d.ra nr d.rc, .int .i64 ns, .slice d.ba nb d.bcap, .int .i64 0, .int .i64 ct, .int .i64 0, .int .i64 0, .bool false] 187 :: dsk d.db 64 m :: sl 9 1 d.ra nr d.rc (d.rs.map Value.string) :: sl 5 1 d.ba nb d.bcap (bc d.bs) :: sl 5 1 a na ca (bc bs) :: l)) := Lib.hid hS
 have HNA := Lib.hid hna
 clear h hS hf0 hna
 go_enter Tryz.func97, Tryz.ntmps97
 go_wp2
 go_loopg [9] (31 - f0) (fun g y wr => ∃ i : Nat, i + g = 31 ∧ f0 ≤ i ∧ y = .int .i64 i ∧ St w0 wr (bx lb #[.pointer (some ⟨d.db, 0, none⟩), .slice d.ra nr d.rc, .int .i64 ns, .slice d.ba nb d.bcap, .int .i64 0, .int .i64 ct, .int .i64 0, .int .i64 0, .bool false] 187 :: dsk d.db 64 (m + (i - f0)) :: sl 9 1 d.ra nr d.rc (d.rs.map Value.string) :: sl 5 1 d.ba nb d.bcap (bc d.bs) :: sl 5 1 a na ca (bc bs) :: l))
 case atStart => exact ⟨f0, by omega, Nat.le_refl _, rfl, by rw [Nat.sub_self]; exact HS.out⟩
 case round =>
  clear HS
  obtain ⟨i, hig, hfi, rfl, hS⟩ := hrel
  have hw1 : wrap64 ((i : Int) * 64) = (i : Int) * 64 := by unfold wrap64; omega
  by_cases hlt : i * 64 < na
  ·have hlt2 : (i : Int) * 64 < na := by omega
   have HS := Lib.hid hS
   have hn0 : 0 < na - i * 64 := by omega
   have HRR := Lib.hid (hS.slice 4 rfl).rd
   have hca : na ≤ ca := (hS.slice 4 rfl).2.1
   clear hS
   go_upto_region 6 with (first
    | (at_make; refine wpList_makeB rfl _ _ rfl 64 rfl rfl (by omega) HS.out wr.heap.size rfl ?_; intro w4 hS4; have HS4 := Lib.hid hS4; clear hS4)
    | ((with_reducible refine at_list ?_); refine wpList_cutR 5 1 Tryz.underlying93 (by kernel_rfl) (by kernel_rfl) a na ca (bc bs) rfl (HS4.out.slice 5 rfl).rd (some (.int .i64 ((i : Int) * 64))) none none rfl rfl rfl (i * 64) na ca (by rw [bounds_l _ _ _ _ (by omega) (by omega)]; simp; rfl) (by omega) (by omega) hca (by omega) ?_; intro p' hr' ho'; have HRD := Lib.hid hr'; clear hr' ho')
    | ((with_reducible refine at_list ?_); refine wpList_copyRd wr.heap.size 64 HS4.out rfl p' (na - i * 64) (ca - i * 64) rfl ((bs.drop (i * 64)).take (na - i * 64)) (by have := HRD.out; simp only [Nat.mul_one] at this; rwa [bc_drop, bc_take] at this) hn0 ?_; intro v5 w5 hS5; have HS5 := Lib.hid hS5; clear hS5))
   generalize wr.heap.size = gb at HS5 ⊢
   have hw2 : wrap64 (2 + (i : Int)) = 2 + (i : Int) := by unfold wrap64; omega
   have hz9 : 2 + (i : Int) = ((2 + i : Nat) : Int) := rfl
   have hk9 : 2 + i < 64 := Nat.lt_of_le_of_lt (Nat.add_le_add_left (show i ≤ 31 from hig ▸ Nat.le_add_right i gk) 2) (by decide)
   have hm9 : m + (i - f0) ≤ 1000000 := Nat.le_trans (Nat.add_le_add hm (Nat.le_trans (Nat.sub_le i f0) (show i ≤ 31 from hig ▸ Nat.le_add_right i gk))) (by decide)
   have HW := Lib.hid (And.intro hz9 (And.intro hk9 hm9))
   clear hz9 hk9 hm9
   obtain ⟨bq, hbq, hS6⟩ := HS5.out.openB
   have HA := Lib.hid hS6.drew
   have KP : Hid (∀ (w' : World) (G : List Thing), St w0 w' (bx gb (bc bq).toArray 5 :: bx lb #[.pointer (some ⟨d.db, 0, none⟩), .slice d.ra nr d.rc, .int .i64 ns, .slice d.ba nb d.bcap, .int .i64 0, .int .i64 ct, .int .i64 0, .int .i64 0, .bool false] 187 :: G) → w'.cell? ⟨lb, 0, none⟩ = some (.pointer (some ⟨d.db, 0, none⟩)) ∧ w'.heap[gb]? = some (.cells (bc bq).toArray 5 (0, 0))) := Lib.hid fun w' G h => ⟨blk_cell (h.box 1 rfl) 0 _ rfl, h.box 0 rfl⟩
   have zl := heap_lt (HA.out.box 1 rfl)
   have HQ := Lib.hid hbq
   have hrd : ∀ w' : World, w'.heap[gb]? = some (.cells (bc bq).toArray 5 (0, 0)) → Rd w' 1 (some ⟨gb, 0, none⟩) 64 64 (bc bq) := fun w' h' => (Sl.new (E := 5) (k := 1) (n := 64) h' (by rw [List.size_toArray, bc_length, hbq]) (by unfold maxLen; omega)).rd
   have HRB := Lib.hid hrd
   clear HS5 HS4 HRD HS HRR hn0 hS6 hbq hrd
   refine wp_region_last_held (n := 17) (S := fun w' => w'.cell? ⟨lb, 0, none⟩ = some (.pointer (some ⟨d.db, 0, none⟩)) ∧ w'.heap[gb]? = some (.cells (bc bq).toArray 5 (0, 0))) (by kernel_rfl) rfl (by simp only [List.pop_toArray, List.dropLast_cons_cons, List.dropLast_singleton]; rfl) (by kernel_rfl) (by kernel_rfl) (KP.out _ _ HA.out) (fun hHeld => ?_)
   generalize w5.drew = V at HA hHeld ⊢
   refine tk 0 (some 28) ?_ rfl rfl hHeld ?_ ?_
   rotate_left
   ·intro wq hSw; (try dsimp only at hSw); go_simp; try with_reducible rfl
   refine tk 1 (some 29) ?_ rfl rfl hHeld ?_ ?_
   rotate_left
   ·intro wq hSw; (try dsimp only at hSw); go_simp; try with_reducible rfl
   refine tk 2 (some 30) ?_ rfl rfl hHeld ?_ ?_
   rotate_left
   ·intro wq hSw; (try dsimp only at hSw); go_simp; try with_reducible rfl
   refine tk 3 (some 31) ?_ rfl rfl hHeld ?_ ?_
   rotate_left
   ·intro wq hSw; (try dsimp only at hSw); go_simp; try with_reducible rfl
   refine tk 4 (some 32) ?_ rfl rfl hHeld ?_ ?_
   rotate_left
   ·intro wq hSw; (try dsimp only at hSw); go_simp; try with_reducible rfl
   refine tk 5 (some 33) ?_ rfl rfl hHeld ?_ ?_
   rotate_left
   ·intro wq hSw; (try dsimp only at hSw); go_simp; try with_reducible rfl
   refine tk 6 (some 34) ?_ rfl rfl hHeld ?_ ?_
   rotate_left
   ·intro wq hSw; (try dsimp only at hSw); go_simp; try with_reducible rfl
   refine tk 7 (some 35) ?_ rfl rfl hHeld ?_ ?_
   rotate_left
   ·intro wq hSw; (try dsimp only at hSw); go_simp; try with_reducible rfl
   refine tk 8 (some 36) ?_ rfl rfl hHeld ?_ ?_
   rotate_left
   ·intro wq hSw; (try dsimp only at hSw); go_simp; try with_reducible rfl
   try simp only [Act.put, Nat.zero_add, zA, zB, zC]
   refine tk 12 (some 40) ?_ rfl rfl hHeld ?_ ?_
   rotate_left
   ·intro wq hSw; (try dsimp only at hSw); go_simp; try with_reducible rfl
   try simp only [Act.put, Nat.zero_add, zA, zB, zC]
   refine tk 14 (some 42) ?_ rfl rfl hHeld ?_ ?_
   rotate_left
   ·intro wq hSw; (try dsimp only at hSw); go_simp; try with_reducible rfl
   try simp only [Act.put, Nat.zero_add, zA, zB, zC]
   refine wpAnyH_take (i := 15) (oi := ⟨some 43, _, _, _, _, _⟩) (v := _) rfl (by kernel_rfl) (by kernel_rfl) (by kernel_rfl) (fun _ _ _ h => h) (yieldsToStr (by rfl) rfl Tryz.underlying93 Tryz.underlying5 Tryz.underlying9 (some ⟨gb, 0, none⟩) 64 64 (by rfl) bq (fun w' h => HRB.out w' h.2)) hHeld ?_
   try simp only [Act.put, Nat.zero_add, zA, zB, zC]
   refine wpAnyH_ready (rs := [9]) (by kernel_rfl) (by simp) ?_
   refine (AllReadyH.cons (o := ⟨some 37, _, _, _, _, _⟩) rfl (fun K hK => ?_) AllReadyH.nil)
   go_simp
   refine (half_any 2 HA.out rfl).mono ?_
   rintro e _ ⟨rfl, rfl⟩
   refine hK.out _ _ (KP.out _ _ HA.out) (fun hHeld => ?_)
   clear hK K
   try simp only [Act.put, Nat.zero_add, zA, zB, zC]
   refine tk 10 (some 38) ?_ rfl rfl hHeld ?_ ?_
   rotate_left
   ·intro wq hSw; (try dsimp only at hSw); go_simp; try with_reducible rfl
   refine tk 11 (some 39) ?_ rfl rfl hHeld ?_ ?_
   rotate_left
   ·intro wq hSw; (try dsimp only at hSw); go_simp; try with_reducible rfl
   try simp only [Act.put, Nat.zero_add, zA, zB, zC]
   refine wpAnyH_take (i := 13) (oi := ⟨some 41, _, _, _, _, _⟩) (v := .int .i64 (2 + (i : Int))) rfl (by kernel_rfl) (by kernel_rfl) (by kernel_rfl) (fun _ _ _ h => h) (Or.inl ⟨by rfl, ?_⟩) hHeld ?_
   ·intro wq hSw
    go_simp
    exact wrap_lay i (show i ≤ 31 from hig ▸ Nat.le_add_right i gk)
   try simp only [Act.put, Nat.zero_add, zA, zB, zC]
   refine wpAnyH_ready (rs := [16]) (by kernel_rfl) (by simp) ?_
   refine (AllReadyH.cons (o := ⟨some 44, _, _, _, _, _⟩) rfl (fun K hK => ?_) AllReadyH.nil)
   go_simp
   refine (dwriteI_st (HA.out.pick 2 rfl) (by decide) HW.out.2.2 (2 + (i : Int)) (2 + i) HW.out.1 HW.out.2.1 ⟨bq.toArray⟩ (by show bq.toArray.size = 64; rw [List.size_toArray]; exact HQ.out)).mono ?_
   rintro e wB ⟨rfl, hSB⟩
   have HB := Lib.hid (hSB.perm (List.perm_append_comm_assoc [_] [_, _] _))
   clear hSB
   refine hK.out _ _ (KP.out _ _ HB.out) (fun hHeld => ?_)
   clear hK K
   try simp only [Act.put, Nat.zero_add, zA, zB, zC]
   refine wpAnyH_done (by kernel_rfl) ?_ _
   refine LastQ.listP rfl ?_
   have HB2 := Lib.hid HB.out.tail
   clear HB HA KP HRB HQ hHeld hw2 zl hq
   go_wp2
   go_roundg (31 - (i + 1))
   case measure => have hna := HNA.out; omega
   case rel =>
    have hna := HNA.out
    have e9 : m + (i + 1 - f0) = m + (i - f0) + 1 := by omega
    refine ⟨i + 1, by omega, by omega, by simp, ?_⟩
    rw [e9]
    exact HB2.out
  ·have hlt2 : ¬ ((i : Int) * 64 < na) := by omega
   have HS := Lib.hid hS
   have hm9 : m + (i - f0) ≤ m + 32 := by omega
   have HM := Lib.hid hm9
   clear hS hq hm9
   go_wp2
   go_ret
   have h1 := ((HS.out.perm (List.Perm.swap _ _ _)).moreD HM.out).perm (List.Perm.swap _ _ _)
   exact ⟨rfl, St.shutL d h1⟩
theorem next_st {w0 w : World} {l : List Thing} (lb : Nat) (x : WlP) (hx : x.n = 64) (hm : x.m ≤ 900000) (hc : x.ct ≤ 1000000) (m0 m1 m2 m3 m4 m5 : Int) (d : WlD) (h : St w0 w (d.things lb x ++ l)) :
 Calls Tryz.prog 174 #[.pointer (some ⟨lb, 0, none⟩), .agg #[.int .i64 m0, .int .i64 m1, .int .i64 m2, .int .i64 m3, .int .i64 m4, .int .i64 m5]] w (StPost (.int .i64 0) w0 (d.things lb { x with m := x.m + 1, ct := x.ct + 1 } ++ l)) := by
 obtain ⟨n, m, nr, nb, ns, ct⟩ := x
 simp only at hx hm hc ⊢
 subst hx
 have hS := h
 have hS2 := hS.box1 #[.int .i64 m0, .int .i64 m1, .int .i64 m2, .int .i64 m3, .int .i64 m4, .int .i64 m5] 184
 have HS : Hid (St w0 _ (bx w.heap.size #[.int .i64 m0, .int .i64 m1, .int .i64 m2, .int .i64 m3, .int .i64 m4, .int .i64 m5] 184 :: bx lb #[.pointer (some ⟨d.db, 0, none⟩), .slice d.ra nr d.rc, .int .i64 ns, .slice d.ba nb d.bcap, .int .i64 0, .int .i64 ct, .int .i64 0, .int .i64 0, .bool false] 187 :: dsk d.db 64 m :: sl 9 1 d.ra nr d.rc (d.rs.map Value.string) :: sl 5 1 d.ba nb d.bcap (bc d.bs) :: l)) := Lib.hid hS2
 obtain ⟨c1, hc1⟩ : ∃ c1 : Int, (ct : Int) + 1 = c1 := ⟨_, rfl⟩
 have hw1 : wrap64 ((ct : Int) + 1) = c1 := by rw [← hc1]; unfold wrap64; omega
 obtain ⟨k, hk⟩ : ∃ k : Nat, (ct + 1) % 2 = k := ⟨_, rfl⟩
 have hk2 : k < 64 := by omega
 have hkt : c1.tmod 2 = (k : Int) := by rw [← hc1, ← hk, Int.tmod_eq_emod_of_nonneg (by omega)]; omega
 have c5 := blk_cell (hS2.box 1 rfl) 5 (.int .i64 ct) rfl
 have zl := heap_lt (hS2.box 1 rfl)
 have x0 := blk_cell (hS2.box 0 rfl) 0 (.int .i64 m0) rfl
 have f0 := blk_free (hS2.box 0 rfl) 0
 have zx := heap_lt (hS2.box 0 rfl)
 have HS1 : Hid (St w0 (w.alloc (.cells #[.int .i64 c1, .int .i64 m1, .int .i64 m2, .int .i64 m3, .int .i64 m4, .int .i64 m5] 184)) (bx w.heap.size #[.int .i64 c1, .int .i64 m1, .int .i64 m2, .int .i64 m3, .int .i64 m4, .int .i64 m5] 184 :: bx lb #[.pointer (some ⟨d.db, 0, none⟩), .slice d.ra nr d.rc, .int .i64 ns, .slice d.ba nb d.bcap, .int .i64 0, .int .i64 ct, .int .i64 0, .int .i64 0, .bool false] 187 :: dsk d.db 64 m :: sl 9 1 d.ra nr d.rc (d.rs.map Value.string) :: sl 5 1 d.ba nb d.bcap (bc d.bs) :: l)) := Lib.hid (hS.box1 _ _)
 have HC := Lib.hid (And.intro hc1 (And.intro hm hk2))
 clear h hS hS2 hc1 hk hm hk2 hc
 go_enter Tryz.func174, Tryz.ntmps174
 go_upto_region 2 with (fail)
 have HA := Lib.hid HS1.out.drew
 clear c5 zl x0 f0 zx hw1 HS HS1
 generalize World.alloc w _ = W1 at HA ⊢
 generalize w.heap.size = xb at HA ⊢
 have KP : Hid (∀ (w' : World) (G : List Thing) (i j : Nat), St w0 w' G → G[i]? = some (bx lb #[.pointer (some ⟨d.db, 0, none⟩), .slice d.ra nr d.rc, .int .i64 ns, .slice d.ba nb d.bcap, .int .i64 0, .int .i64 ct, .int .i64 0, .int .i64 0, .bool false] 187) → G[j]? = some (bx xb #[.int .i64 c1, .int .i64 m1, .int .i64 m2, .int .i64 m3, .int .i64 m4, .int .i64 m5] 184) → w'.cell? ⟨lb, 0, none⟩ = some (.pointer (some ⟨d.db, 0, none⟩)) ∧ w'.cell? ⟨xb, 0, none⟩ = some (.int .i64 c1) ∧ w'.cell? ⟨xb, 1, none⟩ = some (.int .i64 m1) ∧ w'.cell? ⟨xb, 2, none⟩ = some (.int .i64 m2) ∧ w'.cell? ⟨xb, 3, none⟩ = some (.int .i64 m3) ∧ w'.cell? ⟨xb, 4, none⟩ = some (.int .i64 m4) ∧ w'.cell? ⟨xb, 5, none⟩ = some (.int .i64 m5)) := Lib.hid fun w' G i j h hi hj => ⟨blk_cell (h.box i hi) 0 _ rfl, blk_cell (h.box j hj) 0 _ rfl, blk_cell (h.box j hj) 1 _ rfl, blk_cell (h.box j hj) 2 _ rfl, blk_cell (h.box j hj) 3 _ rfl, blk_cell (h.box j hj) 4 _ rfl, blk_cell (h.box j hj) 5 _ rfl⟩
 have zl := heap_lt (HA.out.box 1 rfl)
 have zx := heap_lt (HA.out.box 0 rfl)
 go_region_held3 (fun w' => w'.cell? ⟨lb, 0, none⟩ = some (.pointer (some ⟨d.db, 0, none⟩)) ∧ w'.cell? ⟨xb, 0, none⟩ = some (.int .i64 c1) ∧ w'.cell? ⟨xb, 1, none⟩ = some (.int .i64 m1) ∧ w'.cell? ⟨xb, 2, none⟩ = some (.int .i64 m2) ∧ w'.cell? ⟨xb, 3, none⟩ = some (.int .i64 m3) ∧ w'.cell? ⟨xb, 4, none⟩ = some (.int .i64 m4) ∧ w'.cell? ⟨xb, 5, none⟩ = some (.int .i64 m5)) (first | exact KP.out _ _ 1 0 HA.out rfl rfl | exact KP.out _ _ 1 0 HB.out rfl rfl | exact KP.out _ _ 2 1 HD.out rfl rfl | exact KP.out _ _ 2 1 HE.out rfl rfl)
  ((first
    | (go_at_call 91; refine (sector_st HA.out _ _ _ _ _ _).mono ?_; rintro e wB ⟨s, hs, rfl, hSB⟩; have HB := Lib.hid hSB; clear hSB)
    | (go_at_call 89; refine (dwriteI_st (HB.out.pick 2 rfl) (by decide) (Nat.le_trans HC.out.2.1 (by decide)) (k : Int) k rfl HC.out.2.2 s hs).mono ?_; rintro e wD ⟨rfl, hSD⟩; have HD := Lib.hid hSD; clear hSD)
    | (go_at_call 92; refine (dsync_st HD.out).mono ?_; rintro e wE ⟨rfl, hSE⟩; have HE := Lib.hid hSE; clear hSE)))
 have x0 := blk_cell (HE.out.box 1 rfl) 0 (.int .i64 c1) rfl
 have zx2 := heap_lt (HE.out.box 1 rfl)
 have l5 := blk_cell (HE.out.box 2 rfl) 5 (.int .i64 ct) rfl
 have fl := blk_free (HE.out.box 2 rfl) 5
 have zl2 := heap_lt (HE.out.box 2 rfl)
 clear HA HB HD KP zl zx hkt
 go_wp2
 go_ret
 have h9 := HE.out.set 2 rfl 5 (.int .i64 c1)
 have hc1 := HC.out.1
 subst hc1
 have h10 := (h9.perm (List.perm_append_comm_assoc [_] [_, _] _)).tail
 exact ⟨rfl, h10⟩
theorem infoU8R : (Tryz.prog.info? 5).map (fun i => (i.zero.map (·.cells.size), i.size, i.bytes)) = some (some 1, 1, 1) := by kernel_rfl
theorem cloneU8_any (a : Option Addr) (n cap : Nat) (cs : List Value) (w : World) (hr : Rd w 1 a n cap cs) (h1 : ∀ u ∈ cs, u.oneCell' = true) (hn : n ≤ 100000000) :
 Calls Tryz.prog 95 #[.slice a n cap] w (NewSl 5 1 cs n w) := by
 obtain ⟨ip, iz, hi1, hi2, hi3, hi4, hi5⟩ := info_rowT infoU8R
 have HI := Lib.hid (And.intro hi1 (And.intro hi2 (And.intro hi3 (And.intro hi4 hi5))))
 have HR := Lib.hid hr
 have HO := Lib.hid h1
 have hq : ∀ (w : World) (a : Option Addr) (n c : Nat), (binOp .eql 93 (.slice a n c) (.slice none 0 0)).run Tryz.prog w = .ok (.bool a.isNone) w := fun w a n c => Lib.run_eql_slice_nil w _ _ a n c 0 0 Tryz.underlying93
 clear hr h1 hi1 hi2 hi3 hi4 hi5
 cases a with
 | none =>
   have h2 : n = 0 ∧ cap = 0 ∧ cs = [] := by
    obtain ⟨hl, hnc, _, ⟨_, hc⟩ | ⟨x, hx, _⟩⟩ := HR.out
    ·subst hc
     have : n = 0 := by omega
     subst this
     exact ⟨rfl, rfl, List.eq_nil_of_length_eq_zero (by simpa using hl)⟩
    ·cases hx
   obtain ⟨rfl, rfl, rfl⟩ := h2
   go_enter Tryz.func95, Tryz.ntmps95
   go_wp2
   go_ret
   exact ⟨none, 0, rfl, Sl.nil _ _ _, fun b hb => by simp [own] at hb, Mod.refl _ _⟩
 | some x =>
   have HS := Lib.hid ((St.start w).slice0 5 1)
   go_enter Tryz.func95, Tryz.ntmps95
   go_wp2_with (at_builtin; refine wpList_append 5 ip iz 1 1 (by kernel_rfl) HI.out.1 HI.out.2.1 HI.out.2.2.1 HI.out.2.2.2.1 HI.out.2.2.2.2 (some ⟨w.heap.size, 0, none⟩) 0 0 [] rfl (HS.out.slice 0 rfl) (some x) n cap cs rfl (HR.out.mod HS.out.1 (fun _ _ h => h)) HO.out (by unfold maxLen; omega) (by omega) ?_; intro a2 cap2 w2 hS2 hM2 hF2 hN2 hR2)
   go_ret
   simp only [Nat.zero_add, List.nil_append] at hS2
   refine ⟨a2, cap2, rfl, hS2, fun b hb => ?_, HS.out.1.then hM2 (fun x hx hx2 => ?_)⟩
   ·rcases hF2 b hb with h | h
    ·simp [own] at h; omega
    ·have := HS.out.1.size; omega
   ·simp [own] at hx2; omega
theorem cloneStr_any (a : Option Addr) (n cap : Nat) (cs : List Value) (w : World) (hr : Rd w 1 a n cap cs) (h1 : ∀ u ∈ cs, u.oneCell' = true) (hn : n ≤ 100000000) :
 Calls Tryz.prog 175 #[.slice a n cap] w (NewSl 9 1 cs n w) := by
 obtain ⟨ip, iz, hi1, hi2, hi3, hi4, hi5⟩ := info_rowT infoStrR
 have HI := Lib.hid (And.intro hi1 (And.intro hi2 (And.intro hi3 (And.intro hi4 hi5))))
 have HR := Lib.hid hr
 have HO := Lib.hid h1
 have hq : ∀ (w : World) (a : Option Addr) (n c : Nat), (binOp .eql 22 (.slice a n c) (.slice none 0 0)).run Tryz.prog w = .ok (.bool a.isNone) w := fun w a n c => Lib.run_eql_slice_nil w _ _ a n c 0 0 Tryz.underlying22
 clear hr h1 hi1 hi2 hi3 hi4 hi5
 cases a with
 | none =>
   have h2 : n = 0 ∧ cap = 0 ∧ cs = [] := by
    obtain ⟨hl, hnc, _, ⟨_, hc⟩ | ⟨x, hx, _⟩⟩ := HR.out
    ·subst hc
     have : n = 0 := by omega
     subst this
     exact ⟨rfl, rfl, List.eq_nil_of_length_eq_zero (by simpa using hl)⟩
    ·cases hx
   obtain ⟨rfl, rfl, rfl⟩ := h2
   go_enter Tryz.func175, Tryz.ntmps175
   go_wp2
   go_ret
   exact ⟨none, 0, rfl, Sl.nil _ _ _, fun b hb => by simp [own] at hb, Mod.refl _ _⟩
 | some x =>
   have HS := Lib.hid ((St.start w).slice0 9 1)
   go_enter Tryz.func175, Tryz.ntmps175
   go_wp2_with (at_builtin; refine wpList_append 9 ip iz 1 16 (by kernel_rfl) HI.out.1 HI.out.2.1 HI.out.2.2.1 HI.out.2.2.2.1 HI.out.2.2.2.2 (some ⟨w.heap.size, 0, none⟩) 0 0 [] rfl (HS.out.slice 0 rfl) (some x) n cap cs rfl (HR.out.mod HS.out.1 (fun _ _ h => h)) HO.out (by unfold maxLen; omega) (by omega) ?_; intro a2 cap2 w2 hS2 hM2 hF2 hN2 hR2)
   go_ret
   simp only [Nat.zero_add, List.nil_append] at hS2
   refine ⟨a2, cap2, rfl, hS2, fun b hb => ?_, HS.out.1.then hM2 (fun x hx hx2 => ?_)⟩
   ·rcases hF2 b hb with h | h
    ·simp [own] at h; omega
    ·have := HS.out.1.size; omega
   ·simp [own] at hx2; omega
theorem seal_st {w0 w : World} {l : List Thing} (lb : Nat) (x : WlP) (hx : x.n = 64) (hm : x.m ≤ 900000) (hc : x.ct ≤ 1000000) (hr : x.nr ≤ 1000000 ∧ x.nb ≤ 1000000) (d : WlD) (h : St w0 w (d.things lb x ++ l)) :
 Calls Tryz.prog 102 #[.pointer (some ⟨lb, 0, none⟩), .int .i64 0, .slice d.ra x.nr d.rc, .slice d.ba x.nb d.bcap] w (StPost (.int .i64 0) w0 (wlg lb { x with m := x.m + 1, ns := x.nr, ct := x.ct + 1 } :: l)) := by
 obtain ⟨n, m, nr, nb, ns, ct⟩ := x
 simp only at hx hm hc hr ⊢
 subst hx
 have HS : Hid (St w0 w (bx lb #[.pointer (some ⟨d.db, 0, none⟩), .slice d.ra nr d.rc, .int .i64 ns, .slice d.ba nb d.bcap, .int .i64 0, .int .i64 ct, .int .i64 0, .int .i64 0, .bool false] 187 :: dsk d.db 64 m :: sl 9 1 d.ra nr d.rc (d.rs.map Value.string) :: sl 5 1 d.ba nb d.bcap (bc d.bs) :: l)) := Lib.hid h
 have c0 := blk_cell (HS.out.box 0 rfl) 0 (.pointer (some ⟨d.db, 0, none⟩)) rfl
 have zl := heap_lt (HS.out.box 0 rfl)
 have HM := Lib.hid (And.intro hm (And.intro hc hr))
 clear h hm hc hr
 go_enter Tryz.func102, Tryz.ntmps102
 go_upto_region 3 with (go_at_call 92; refine (dsync_st (HS.out.pick 1 rfl)).mono ?_; rintro e w1 ⟨rfl, hS1⟩; have HS1 := Lib.hid (hS1.perm (List.Perm.swap _ _ _)); clear hS1)
 have HA := Lib.hid HS1.out.drew
 clear HS HS1 c0 zl
 have KP : Hid (∀ (w' : World) (v2 v5 : Value) (G : List Thing), St w0 w' (bx lb #[.pointer (some ⟨d.db, 0, none⟩), .slice d.ra nr d.rc, v2, .slice d.ba nb d.bcap, .int .i64 0, v5, .int .i64 0, .int .i64 0, .bool false] 187 :: G) → w'.cell? ⟨lb, 6, none⟩ = some (.int .i64 0) ∧ w'.cell? ⟨lb, 7, none⟩ = some (.int .i64 0)) := Lib.hid fun w' v2 v5 G h => ⟨blk_cell (h.box 0 rfl) 6 _ rfl, blk_cell (h.box 0 rfl) 7 _ rfl⟩
 have zl := heap_lt (HA.out.box 0 rfl)
 go_region_held3 (fun w' => w'.cell? ⟨lb, 6, none⟩ = some (.int .i64 0) ∧ w'.cell? ⟨lb, 7, none⟩ = some (.int .i64 0)) (first | exact KP.out _ _ _ _ HA.out | exact KP.out _ _ _ _ HB.out)
  ((go_at_call 174; refine (next_st lb ⟨64, m, nr, nb, ns, ct⟩ rfl HM.out.1 HM.out.2.1 _ _ _ _ _ _ d HA.out).mono ?_; rintro e w2 ⟨rfl, hS2⟩; have HB : Hid (St w0 w2 (bx lb #[.pointer (some ⟨d.db, 0, none⟩), .slice d.ra nr d.rc, .int .i64 ns, .slice d.ba nb d.bcap, .int .i64 0, .int .i64 ((ct + 1 : Nat) : Int), .int .i64 0, .int .i64 0, .bool false] 187 :: dsk d.db 64 (m + 1) :: sl 9 1 d.ra nr d.rc (d.rs.map Value.string) :: sl 5 1 d.ba nb d.bcap (bc d.bs) :: l)) := Lib.hid hS2; clear hS2))
 clear HA KP zl
 have one1 : ∀ u ∈ d.rs.map Value.string, u.oneCell' = true := fun u hu => by obtain ⟨z, _, rfl⟩ := List.mem_map.1 hu; rfl
 have CS := Lib.hid (cloneStr_any d.ra nr d.rc (d.rs.map Value.string) w2 (HB.out.slice 2 rfl).rd one1 (Nat.le_trans HM.out.2.2.1 (by decide)))
 have CU := Lib.hid (fun w' (h : Mod (fun _ => False) w2 w') => cloneU8_any d.ba nb d.bcap (bc d.bs) w' ((HB.out.mod h).slice 3 rfl).rd (bc_one _) (Nat.le_trans HM.out.2.2.2 (by decide)))
 clear one1
 go_wp2_with (first
  | (go_at_call 175; refine CS.out.mono ?_; rintro e w3 ⟨a1, k1, rfl, hs1, hf1, hM1⟩; have H3 := Lib.hid (HB.out.newSlice hM1 hs1 hf1); have HM3 := Lib.hid hM1; clear hs1 hf1 hM1)
  | (go_at_call 95; refine (CU.out _ HM3.out).mono ?_; rintro e w4 ⟨a2, k2, rfl, hs2, hf2, hM2⟩; have H4 := Lib.hid (H3.out.newSlice hM2 hs2 hf2); have l1 := blk_cell (H4.out.box 2 rfl) 1 (.slice d.ra nr d.rc) rfl; have l2 := blk_cell (H4.out.box 2 rfl) 2 (.int .i64 ns) rfl; have l3 := blk_cell (H4.out.box 2 rfl) 3 (.slice d.ba nb d.bcap) rfl; have l4 := blk_cell (H4.out.box 2 rfl) 4 (.int .i64 0) rfl; have f1 := blk_free (H4.out.box 2 rfl) 1; have f2 := blk_free (H4.out.box 2 rfl) 2; have f3 := blk_free (H4.out.box 2 rfl) 3; have f4 := blk_free (H4.out.box 2 rfl) 4; have zl4 := heap_lt (H4.out.box 2 rfl); clear hs2 hf2 hM2))
 go_ret
 have h9 := ((((H4.out.set 2 rfl 4 (.int .i64 0)).set 2 rfl 1 (.slice a1 nr k1)).set 2 rfl 3 (.slice a2 nb k2)).set 2 rfl 2 (.int .i64 nr))
 simp only [zB, zC, zA] at h9
 have h10 := (h9.perm (List.perm_append_comm_assoc [_, _] [_, _] _)).perm (((List.Perm.swap _ _ _).cons _).cons _)
 have h11 := h10.sub (((((List.Sublist.refl _).cons _).cons _).cons_cons _ |>.cons_cons _).cons_cons _ |>.cons_cons _)
 exact ⟨rfl, St.shutL ⟨d.db, a1, k1, d.rs, a2, k2, d.bs⟩ h11⟩
end Go.Proofs.YtonnbkebjeoflaaGreatDoor
