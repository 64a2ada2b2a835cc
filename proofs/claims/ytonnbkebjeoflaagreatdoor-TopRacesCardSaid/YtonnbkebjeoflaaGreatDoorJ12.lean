/-
  Contracts and plain laws of PathN, PathC, PathD, PathE, TreeF, TreeH.
  Conditions: each law states its own.
-/
import Derived.Lib.ItoaLen
import Derived.Lib.SplitLaws
import Derived.Lib.IndexBytes
import Derived.Lib.RuneCount
import Derived.Lib.OthersKept
import Derived.Shelf.GgClosure.StringsIndexFunc
import Derived.Deep.LoopGhost
import Derived.Test.YtonnbkebjeoflaaGreatDoorJ10
import Derived.Test.YtonnbkebjeoflaaGreatDoorJ11
set_option linter.unusedSectionVars false
set_option linter.unusedSimpArgs false
set_option linter.unusedVariables false
set_option maxRecDepth 100000
namespace Go.Proofs.YtonnbkebjeoflaaGreatDoor
open Go.RowKit
def Tab (w : World) : Prop := Lib.TabIs Tryz.prog w "internal/strconv.uint64pow10" .u64 Lib.pow10Tab
theorem gPow : Tryz.prog.globalNamed "internal/strconv.uint64pow10" = some 0 := by kernel_rfl
theorem Tab.old {w w' : World} (h : Tab w) (k : Old w w') : Tab w' := by
 unfold Tab Lib.TabIs World.var? at h ⊢
 rw [gPow] at h ⊢
 simp only [Option.bind_some] at h ⊢
 have hlt : 0 < w.heap.size := by
  rcases Nat.lt_or_ge 0 w.heap.size with h' | h'
  ·exact h'
  ·rw [Array.getElem?_eq_none h'] at h; cases h
 rw [k.keep 0 hlt (fun h => h)]
 exact h
theorem Old.grow (w : World) (os : Array Obj) : Old w (Go.Sort.grow w os) := by
 refine ⟨rfl, rfl, rfl, by simp [Go.Sort.grow], fun b hb _ => ?_⟩
 show (w.heap ++ os)[b]? = _
 rw [Array.getElem?_append_left hb]
theorem repeat_zeros : ∀ n, Lib.repeatL [48] n = List.replicate n 48
 | 0 => rfl
 | n + 1 => by rw [Lib.repeatL, repeat_zeros n]; rfl
theorem dg_dec (u j : Nat) : Lib.dg u j = dec (u / 10 ^ j % 10) := rfl
theorem lowT_get : ∀ (u j t : Nat), t < j → (lowT u j)[t]? = some (Lib.dg u (j - 1 - t))
 | u, 0, t, h => by omega
 | u, j + 1, t, h => by
   rw [lowT_front]
   cases t with
   | zero => rw [List.getElem?_cons_zero, dg_dec]; rfl
   | succ t =>
     rw [List.getElem?_cons_succ, lowT_get u j t (by omega)]
     congr 2
     omega
theorem dg_zero {u j : Nat} (h : Lib.nDigits u ≤ j) : Lib.dg u j = 48 := by
 have h1 := Lib.lt_pow_nDigits u
 have h2 : u < 10 ^ j := Nat.lt_of_lt_of_le h1 (Nat.pow_le_pow_right (by omega) h)
 rw [Lib.dg, Nat.div_eq_of_lt h2]
 rfl
theorem last_ten (u : Nat) : (List.replicate 10 48 ++ Lib.decDigits u).drop (Lib.decDigits u).length = lowT u 10 := by
 apply List.ext_getElem?
 intro t
 rw [List.getElem?_drop]
 have hl : (Lib.decDigits u).length = Lib.nDigits u := Lib.decDigits_length u
 by_cases ht : t < 10
 ·rw [lowT_get u 10 t ht]
  by_cases h : (Lib.decDigits u).length + t < 10
  ·rw [List.getElem?_append_left (by simpa using h), List.getElem?_replicate, if_pos h, dg_zero (by omega)]
  ·rw [List.getElem?_append_right (by simpa using h), List.length_replicate, Lib.decDigits_eq]
   rw [List.getElem?_map, ← Lib.decDigits_eq, List.getElem?_range (by omega)]
   simp only [Option.map_some]
   congr 2
   omega
 ·rw [List.getElem?_eq_none (by rw [List.length_append, List.length_replicate]; omega), List.getElem?_eq_none (by rw [lowT_length]; omega)]
theorem Numbered_any (p : ByteArray) (n : Int) (hp : p.size ≤ 4611686018427387902) (h0 : -9223372036854775808 ≤ n) (h1 : n ≤ 9223372036854775807) (w : World) (hT : Tab w) :
 Calls Tryz.prog 185 #[.string p, .int .i64 n] w (CopyPost (.string (bs (numL p.data.toList n))) w) := by
 have cR := Tryz.strings_Repeat ⟨#[48]⟩ 10 w (by omega) (by decide)
 have hrp : Lib.repeatL ([48] : List UInt8) 10 = List.replicate 10 48 := repeat_zeros 10
 obtain ⟨u, hu⟩ : ∃ u : Nat, max n 0 = (u : Int) := ⟨(max n 0).toNat, (Int.toNat_of_nonneg (by omega)).symm⟩
 have hu63 : (u : Int) ≤ 9223372036854775807 := by omega
 have cI := fun w hT => Tryz.strconv_Itoa (u : Int) (by omega) hu63 w hT
 have hit : Lib.itoa (u : Int) = Lib.decDigits u := by unfold Lib.itoa; rw [if_neg (by omega)]; simp
 rw [hit] at cI
 obtain ⟨Y, hY⟩ : ∃ Y : ByteArray, (⟨(Lib.decDigits u).toArray⟩ : ByteArray) = Y := ⟨_, rfl⟩
 rw [hY] at cI
 have hYl : Y.data.toList = Lib.decDigits u := by rw [← hY]
 obtain ⟨S, hS⟩ : ∃ S : ByteArray, (⟨#[48, 48, 48, 48, 48, 48, 48, 48, 48, 48]⟩ : ByteArray) ++ Y = S := ⟨_, rfl⟩
 have hSl : S.data.toList = List.replicate 10 48 ++ Lib.decDigits u := by rw [← hS, ByteArray.data_append, Array.toList_append, hYl]; rfl
 have hYs : Y.size ≤ 20 := by
  rw [size_list, hYl, Lib.decDigits_length]
  exact Lib.nDigits_le20 u (by omega)
 have hSs : S.size = Y.size + 10 := by
  rw [size_list, hSl, size_list, hYl, List.length_append, List.length_replicate]; omega
 have zS : (S.size : Int) - 10 = (Y.size : Int) := by omega
 have zS2 : (Y.size : Int) ≤ (S.size : Int) := by omega
 have hX : p ++ S.extract Y.size (Y.size + 10) = bs (numL p.data.toList n) := by
  apply bs_of
  rw [ByteArray.data_append, Array.toList_append, Lib.extract_data, Nat.add_sub_cancel_left, hSl, size_list Y, hYl, last_ten, numL, hu]
  congr 1
 have HX := Lib.hid hX
 have HT := Lib.hid hT
 clear hT hX hSl hYl hY
 go_enter Tryz.func185, Tryz.ntmps185
 go_wp2_with (first
  | (go_at_call 35; refine cR.mono ?_; rintro e w1 ⟨rfl, hb⟩; have hO1 := Old.of hb; clear cR hb)
  | (go_at_call 254; refine (cI w1 (HT.out.old hO1)).mono ?_; rintro e w2 ⟨rfl, kk, os, hw2⟩; have hO2 : Old w1 w2 := (by rw [hw2]; exact Old.join ((Old.rfl' w1).drewN kk) (Old.grow _ os)); clear hw2))
 all_goals
  go_ret
  exact ⟨by first | (rw [← HX.out] <;> rfl) | rfl, hO1.join hO2⟩
end Go.Proofs.YtonnbkebjeoflaaGreatDoor
namespace Go.Proofs.YtonnbkebjeoflaaGreatDoor
open Go.RowKit
theorem idx_cases (c : UInt8) : ∀ l : List UInt8, (Lib.indexByte l c = -1 ∧ c ∉ l) ∨ ∃ a b, l = a ++ c :: b ∧ c ∉ a ∧ Lib.indexByte l c = (a.length : Int)
 | [] => .inl ⟨rfl, by simp⟩
 | x :: l => by
   rw [Lib.indexByte]
   by_cases hx : x = c
   ·subst hx
    exact .inr ⟨[], l, by simp, by simp, by simp⟩
   ·rcases idx_cases c l with ⟨h1, h2⟩ | ⟨a, b, rfl, h2, h3⟩
    ·exact .inl ⟨by rw [h1]; simp [hx], by simp [h2, Ne.symm hx]⟩
    ·refine .inr ⟨x :: a, b, by simp, by simp [h2, Ne.symm hx], ?_⟩
     have h4 : ¬ ((a.length : Int) = -1) := by omega
     rw [h3]
     simp [hx, h4]
theorem split_parts : ∀ (k : Nat) (l : List UInt8), l.count 47 ≤ k → Lib.splitK [47] 0 k l = parts l
 | 0, l, h => by
   have hn : (47 : UInt8) ∉ l := List.count_eq_zero.1 (by omega)
   rw [Lib.splitK, parts_clean l hn]
 | k + 1, l, h => by
   rw [Lib.splitK, Lib.index_one]
   rcases idx_cases 47 l with ⟨h1, h2⟩ | ⟨a, b, h0, h2, h3⟩
   ·rw [h1, if_pos (by decide), parts_clean l h2]
   ·have hne : ¬ ((Lib.indexByte l 47 == -1) = true) := by
     rw [h3, beq_iff_eq]; omega
    rw [if_neg hne, h3, Int.toNat_natCast, Nat.add_zero]
    subst h0
    rw [List.take_left, List.length_singleton, ← List.drop_drop, List.drop_left, parts_mid, parts_clean a h2]
    have hc : b.count 47 ≤ k := by
     rw [List.count_append, List.count_cons_self] at h
     omega
    rw [List.drop_succ_cons, List.drop_zero, split_parts k b hc]
    rfl
theorem split_is (s : ByteArray) : (Lib.splitB ⟨#[47]⟩ 0 (Lib.countB s ⟨#[47]⟩) s).map (·.data.toList) = parts s.data.toList := by
 rw [Lib.splitB_data]
 have : (Lib.countB s ⟨#[47]⟩) = s.data.toList.count 47 := Lib.count_one 47 _
 rw [this]
 exact split_parts _ _ (Nat.le_refl _)
theorem count_is (s : ByteArray) : Lib.countB s ⟨#[47]⟩ + 1 = (parts s.data.toList).length := by
 have h1 : (Lib.countB s ⟨#[47]⟩) = s.data.toList.count 47 := Lib.count_one 47 _
 rw [h1]
 have key : ∀ l : List UInt8, l.count 47 + 1 = (parts l).length := by
  intro l
  induction l with
  | nil => rfl
  | cons c l ih =>
    by_cases h : c = 47
    ·subst h; rw [parts_slash, List.count_cons_self, List.length_cons, ← ih]
    ·obtain ⟨x, t, h1, h2⟩ := parts_other h l
     rw [h2, List.count_cons_of_ne (by simpa using h), ih, h1]; rfl
 exact key _
theorem drop_cons (s : ByteArray) (i : Nat) (h : i < s.size) : s.data.toList.drop i = s[i] :: s.data.toList.drop (i + 1) :=
 List.drop_eq_getElem_cons (by rw [Array.length_toList]; exact h)
def allNm (l : List UInt8) : Bool := l.all fun b => nmB b.toNat
theorem allNm_cons (b : UInt8) (l : List UInt8) : allNm (b :: l) = (nmB b.toNat && allNm l) := rfl
end Go.Proofs.YtonnbkebjeoflaaGreatDoor
namespace Go.Proofs.YtonnbkebjeoflaaGreatDoor
open Go.RowKit
theorem nmB_iff (c : Nat) : nmB c = true ↔ ((((((97 ≤ c ∧ c ≤ 122) ∨ (65 ≤ c ∧ c ≤ 90)) ∨ (48 ≤ c ∧ c ≤ 57)) ∨ c = 95) ∨ c = 45) ∨ c = 46) := by simp [nmB]
theorem decode_low (s : ByteArray) (i : Nat) (h : (s.get! i).toNat < 128) : Utf8.decode s i = ((s.get! i).toNat, 1) := by
 unfold Utf8.decode
 simp [h]
theorem decode_high (s : ByteArray) (i : Nat) (h : ¬ (s.get! i).toNat < 128) : 128 ≤ (Utf8.decode s i).1 := by
 unfold Utf8.decode
 simp only [Nat.add_zero]
 rw [if_neg h]
 have e : 128 ≤ Utf8.runeError := by decide
 repeat' split
 all_goals first | exact e | omega | (simp_all; done) | (simp_all; omega)
theorem get_is (s : ByteArray) (i : Nat) (h : i < s.size) : s.get! i = s[i] := by
 show s.data[i]! = _
 rw [getElem!_pos s.data i h]; rfl
set_option maxHeartbeats 4000000 in
theorem isName_any (s : ByteArray) (hs : s.size ≤ 4611686018427387903) (w : World) : Calls Tryz.prog 212 #[.string s] w (CopyPost (.bool (isNm s.data.toList)) w) := by
 have hs' : s.size ≤ 9223372036854775807 := by omega
 have hv : isNm s.data.toList = (allNm s.data.toList && decide (s.data.toList ≠ []) && decide (s.data.toList ≠ [46]) && decide (s.data.toList ≠ [46, 46])) := rfl
 have HV := Lib.hid hv
 clear hv
 have b0 : (s.toList == ([] : List UInt8)) = decide (s.data.toList = []) := by rw [ByteArray.toList_eq, Bool.eq_iff_iff]; simp
 have b1 : (s.toList == [46]) = decide (s.data.toList = [46]) := by rw [ByteArray.toList_eq, Bool.eq_iff_iff]; simp
 have b2 : (s.toList == [46, 46]) = decide (s.data.toList = [46, 46]) := by rw [ByteArray.toList_eq, Bool.eq_iff_iff]; simp
 have B0 := Lib.hid b0
 have B1 := Lib.hid b1
 have B2 := Lib.hid b2
 clear b0 b1 b2
 go_enter Tryz.func212, Tryz.ntmps212
 go_wp2
 go_loopg [] s.size (fun gf wx => ∃ pos : Nat, wx.heap[w.heap.size]? = some (.stringIter s pos) ∧ Below w.heap.size w wx ∧ allNm (s.data.toList.drop pos) = allNm s.data.toList ∧ s.size ≤ pos + gf)
 case atStart => exact ⟨0, World.iter_heap w s 0, (Below.refl _ w).alloc (Nat.le_refl _) _, by rw [List.drop_zero], by omega⟩
 case round =>
  obtain ⟨pos, hit, hbw, hleft, hfu⟩ := hrel
  by_cases hps : pos < s.size
  ·obtain ⟨g', rfl⟩ : ∃ g', gk = g' + 1 := ⟨gk - 1, by omega⟩
   have hnx : ∀ ty, (Instr.next (.pointer (some ⟨w.heap.size, 0, none⟩)) true ty).run Tryz.prog wr = _ := fun ty => Lib.run_next_any_at wr w.heap.size s pos ty hit hps
   have hwd := Lib.width_pos s pos
   obtain ⟨R, K, hRK⟩ : ∃ R K : Nat, Utf8.decode s pos = (R, K) := ⟨_, _, rfl⟩
   rw [hRK] at hwd hnx
   simp only at hwd
   have hcs : (nmB R = false ∧ allNm (s.data.toList.drop pos) = false) ∨ (nmB R = true ∧ K = 1 ∧ allNm (s.data.toList.drop pos) = allNm (s.data.toList.drop (pos + 1))) := by
    rw [drop_cons s pos hps, allNm_cons, ← get_is s pos hps]
    by_cases h128 : (s.get! pos).toNat < 128
    ·have hlo := decode_low s pos h128
     rw [hRK] at hlo
     obtain ⟨rfl, rfl⟩ := Prod.mk.inj hlo
     cases hn : nmB (s.get! pos).toNat
     ·exact .inl ⟨rfl, rfl⟩
     ·exact .inr ⟨rfl, rfl, by rw [Bool.true_and]⟩
    ·have hx := decode_high s pos h128
     rw [hRK] at hx
     have h1 : ∀ c, 128 ≤ c → nmB c = false := fun c hc => Bool.eq_false_iff.2 fun h => by have := (nmB_iff c).1 h; omega
     exact .inl ⟨h1 _ hx, by rw [h1 _ (by omega)]; rfl⟩
   have hit2 := Lib.iterAt_heap wr w.heap.size s pos (pos + K) hit
   have hbw2 := Lib.below_iterAt hbw (k := w.heap.size) (Nat.le_refl _) s (pos + K)
   obtain ⟨W, hWd⟩ : ∃ W, wr.iterAt w.heap.size s (pos + K) = W := ⟨_, rfl⟩
   simp only [hWd] at hnx hit2 hbw2
   have hu := nmB_iff R
   rcases hcs with ⟨hn, hall⟩ | ⟨hn, rfl, hall⟩
   ·have hu2 : ¬ ((((((97 ≤ R ∧ R ≤ 122) ∨ (65 ≤ R ∧ R ≤ 90)) ∨ (48 ≤ R ∧ R ≤ 57)) ∨ R = 95) ∨ R = 45) ∨ R = 46) := fun h => by rw [hu.2 h] at hn; cases hn
    rw [hall] at hleft
    have HL := Lib.hid hleft
    clear hleft hall hu hn hit
    go_wp2
    all_goals first
     | (exfalso; omega)
     | (go_ret
        exact ⟨by rw [HV.out, ← HL.out] <;> rfl, Old.of hbw2⟩)
   ·have hu2 := hu.1 hn
    rw [hall] at hleft
    have HL := Lib.hid hleft
    clear hleft hall hu hn hit
    go_wp2
    all_goals first
     | (exfalso; omega)
     | (go_roundg g'
        case measure => omega
        case rel => exact ⟨pos + 1, hit2, hbw2, HL.out, by omega⟩)
  ·have hnx : ∀ ty, (Instr.next (.pointer (some ⟨w.heap.size, 0, none⟩)) true ty).run Tryz.prog wr = _ := fun ty => Lib.run_next_end_at wr w.heap.size s pos ty hit hps
   have hd : s.data.toList.drop pos = [] := List.drop_eq_nil_of_le (by rw [← size_list]; omega)
   rw [hd] at hleft
   have hv2 : isNm s.data.toList = ((s.toList != []) && (s.toList != [46]) && (s.toList != [46, 46])) := by
    rw [HV.out, ← hleft]
    simp only [bne, B0.out, B1.out, B2.out]
    simp [allNm]
   have HV2 := Lib.hid hv2
   clear hleft hd hv2
   go_wp2
   all_goals
    go_ret
    refine ⟨?_, Old.of hbw⟩
    rw [HV2.out]
    show Ending.returned (Value.bool _) = _
    refine congrArg (fun b => Ending.returned (Value.bool b)) ?_
    first | (simp_all; done) | (simp; done) | (generalize s.toList = L; cases L <;> rfl)
end Go.Proofs.YtonnbkebjeoflaaGreatDoor
namespace Go.Proofs.YtonnbkebjeoflaaGreatDoor
open Go.RowKit
theorem parts_le : ∀ (l x : List UInt8), x ∈ parts l → x.length ≤ l.length
 | [], x, h => by simp [parts] at h; subst h; simp
 | c :: l, x, h => by
   by_cases hc : c = 47
   ·subst hc
    rw [parts_slash] at h
    rcases List.mem_cons.1 h with rfl | h
    ·simp
    ·have := parts_le l x h; simp; omega
   ·obtain ⟨a, t, h1, h2⟩ := parts_other hc l
    rw [h2] at h
    rcases List.mem_cons.1 h with rfl | h
    ·have := parts_le l a (by rw [h1]; exact List.mem_cons_self); simp; omega
    ·have := parts_le l x (by rw [h1]; exact List.mem_cons_of_mem _ h); simp; omega
theorem all_snoc {α : Type} (f : α → Bool) {L : List α} {k : Nat} {t : α} (h : L[k]? = some t) : (L.take (k + 1)).all f = ((L.take k).all f && f t) := by
 obtain ⟨hk, rfl⟩ := List.getElem?_eq_some_iff.1 h
 rw [List.take_succ_eq_append_getElem hk, List.all_append]
 simp
theorem all_no {α : Type} (f : α → Bool) {L : List α} {k : Nat} {t : α} (h : L[k]? = some t) (hf : f t = false) : L.all f = false := by
 rw [Bool.eq_false_iff]
 intro hx
 rw [List.all_eq_true.1 hx t (List.mem_of_getElem? h)] at hf
 cases hf
theorem check_bad {l : List UInt8} (h : ¬ l = [47]) (hf : formL l = false) : checkL l = 40 := by rw [checkL, if_neg h, if_pos hf]
set_option maxHeartbeats 2000000 in
theorem Check_any (s : ByteArray) (hs : s.size ≤ 4000000000) (mx : Int) (w : World) (hmx : w.cell? ⟨1, 0, none⟩ = some (.int .i64 mx)) :
 Calls Tryz.prog 121 #[.string s] w (CopyPost (.int .i64 (checkL s.data.toList)) w) := by
 have hs' : s.size ≤ 9223372036854775807 := by omega
 by_cases hr : s.data.toList = [47]
 ·have hv : checkL s.data.toList = 0 := by rw [checkL, if_pos hr]
  have hq := toList_beq' hr
  rw [hv]
  clear hmx
  go_enter Tryz.func121, Tryz.ntmps121
  go_wp2
  go_ret
  exact ⟨rfl, Old.rfl' _⟩
 have hq := toList_beq hr
 have cS := Tryz.strings_Split s ⟨#[47]⟩ mx w (by omega) hmx (by decide)
 have hP := split_is s
 rw [count_is] at cS
 generalize Lib.splitB ⟨#[47]⟩ 0 (Lib.countB s ⟨#[47]⟩) s = P at cS hP
 obtain ⟨a, ns, hpa, hl⟩ := join_parts s.data.toList
 rw [hpa] at hP cS
 obtain ⟨X, Q, rfl⟩ : ∃ X Q, P = X :: Q := by
  cases P with
  | nil => simp at hP
  | cons X Q => exact ⟨X, Q, rfl⟩
 rw [List.map_cons] at hP
 obtain ⟨hX, hQ⟩ := List.cons.inj hP
 have hQl : Q.length = ns.length := by rw [← hQ, List.length_map]
 obtain ⟨m, hm⟩ : ∃ m, ns.length = m := ⟨_, rfl⟩
 rw [List.length_cons, hm] at cS
 have hcl : (w.alloc (.cells (((X :: Q).map Value.string).toArray) 9)).cell? ⟨w.heap.size, 0, none⟩ = some (.string X) := blk_cell (heap_alloc_new w _) 0 _ rfl
 have hcQ : ∀ (k : Nat) (q : ByteArray), Q[k]? = some q → (w.alloc (.cells (((X :: Q).map Value.string).toArray) 9)).cell? ⟨w.heap.size, 1 + k, none⟩ = some (.string q) := fun k q h => by
  refine blk_cell (heap_alloc_new w _) (1 + k) _ ?_
  rw [List.getElem?_toArray, List.getElem?_map, Nat.add_comm, List.getElem?_cons_succ, h]; rfl
 have hOa : Old w (w.alloc (.cells (((X :: Q).map Value.string).toArray) 9)) := (Old.rfl' w).alloc _
 generalize w.alloc (.cells (((X :: Q).map Value.string).toArray) 9) = wa at cS hcl hcQ hOa
 generalize hbl : w.heap.size = bl at cS hcl hcQ
 by_cases ha : a = []
 ·have hXb := toList_beq' (hX.trans ha)
  by_cases hm0 : m = 0
  ·have hv : checkL s.data.toList = 40 := check_bad hr (by
    rw [formL, hpa]
    have : ns = [] := List.eq_nil_of_length_eq_zero (hm.trans hm0)
    simp [this])
   rw [hv]
   subst hm0
   clear hcQ hl hpa hP hQ hQl hm
   go_enter Tryz.func121, Tryz.ntmps121
   go_wp2_with (go_at_call 211; refine cS.mono ?_; rintro e w' ⟨rfl, rfl⟩)
   go_ret
   exact ⟨rfl, hOa⟩
  ·have hm1 : 1 ≤ m := by omega
   have zm : ((m : Int) + 1 == 1) = false := by rw [Bool.eq_false_iff]; intro h; have := beq_iff_eq.1 h; omega
   have hforma : formL s.data.toList = ns.all isNm := by
    rw [formL, hpa]
    have : ns ≠ [] := by rintro rfl; simp at hm; omega
    simp [ha, this]
   have hv : checkL s.data.toList = if ns.all isNm = false then 40 else if 60 < s.size ∨ 6 < m then 41 else 0 := by
    rw [checkL, if_neg hr, hforma, hpa, ← size_list, List.length_cons, Nat.add_sub_cancel, hm]
   have HV := Lib.hid hv
   have HQ := Lib.hid hQ
   have HCQ := Lib.hid hcQ
   have HM := Lib.hid hm
   have HQL := Lib.hid hQl
   have hle : ∀ q ∈ ns, q.length ≤ s.size := fun q hq => by rw [size_list]; exact parts_le _ q (by rw [hpa]; exact List.mem_cons_of_mem _ hq)
   have HLE := Lib.hid hle
   have hmL : m + 1 ≤ s.size + 1 := by
    have h1 := count_is s
    have h2 : Lib.countB s ⟨#[47]⟩ = s.data.toList.count 47 := Lib.count_one 47 _
    have h3 := List.count_le_length (a := (47 : UInt8)) (l := s.data.toList)
    rw [hpa, List.length_cons, hm] at h1
    rw [size_list]
    omega
   clear hv hforma hP hpa hl hcQ hQ hm hQl hle hmx
   go_enter Tryz.func121, Tryz.ntmps121
   go_wp2_with (go_at_call 211; refine cS.mono ?_; rintro e w' ⟨rfl, rfl⟩)
   go_loopg [22] m (fun g y22 wx => ∃ k : Nat, k + g = m ∧ y22 = .int .i64 k ∧ Old w' wx ∧ (ns.take k).all isNm = true)
   case atStart => exact ⟨0, by omega, rfl, Old.rfl' _, rfl⟩
   case round =>
    obtain ⟨k, hk, rfl, hO, hall⟩ := hrel
    by_cases hlt : k < m
    ·have hkq : k < Q.length := by rw [HQL.out, HM.out]; exact hlt
     have hx : Q[k]? = some Q[k] := List.getElem?_eq_getElem _
     obtain ⟨q, hqq⟩ : ∃ x, Q[k] = x := ⟨_, rfl⟩
     rw [hqq] at hx
     have hns : ns[k]? = some q.data.toList := by rw [← HQ.out, List.getElem?_map, hx]; rfl
     have hqs : q.size ≤ s.size := by rw [size_list q]; exact HLE.out _ (List.mem_of_getElem? hns)
     have hc := hO.cell (HCQ.out k q hx) (fun h => h)
     have cN := isName_any q (by omega) wr
     have HX := Lib.hid hns
     have HA := Lib.hid hall
     clear hx hqq hns hall hkq
     cases hn : isNm q.data.toList
     all_goals
      rw [hn] at cN
      have HNN := Lib.hid hn
      clear hn
      go_wp2_with (go_at_call 212; refine cN.mono ?_; rintro e w2 ⟨rfl, hO2⟩; clear cN)
     ·go_ret
      exact ⟨by rw [HV.out, if_pos (all_no isNm HX.out HNN.out)] <;> rfl, (hOa.join hO).join hO2⟩
     ·go_roundg (gk - 1)
      case measure => omega
      case rel => exact ⟨k + 1, by omega, by simp, hO.join hO2, by rw [all_snoc isNm HX.out, HA.out, HNN.out]; rfl⟩
    ·have hkm : k = m := by omega
     have hall2 : ns.all isNm = true := by rw [← hall, hkm, ← HM.out, List.take_length]
     have hv2 : checkL s.data.toList = if 60 < s.size ∨ 6 < m then 41 else 0 := by
      rw [HV.out, hall2, if_neg (by decide)]
     have HV2 := Lib.hid hv2
     clear hall hall2 hv2 hkm
     by_cases h60 : 60 < s.size
     ·have z60 : (60 : Int) < (s.size : Int) := by omega
      go_wp2
      go_ret
      exact ⟨by rw [HV2.out, if_pos (.inl h60)] <;> rfl, hOa.join hO⟩
     ·have z60 : ¬ (60 : Int) < (s.size : Int) := by omega
      by_cases h6 : 6 < m
      ·have z6 : (6 : Int) < (m : Int) := by omega
       go_wp2
       go_ret
       exact ⟨by rw [HV2.out, if_pos (.inr h6)] <;> rfl, hOa.join hO⟩
      ·have z6 : ¬ (6 : Int) < (m : Int) := by omega
       go_wp2
       go_ret
       exact ⟨by rw [HV2.out, if_neg (by omega)] <;> rfl, hOa.join hO⟩
 ·have hXb := toList_beq (s := X) (l := []) (by rw [hX]; exact ha)
  have hv : checkL s.data.toList = 40 := check_bad hr (by rw [formL, hpa]; simp [ha])
  rw [hv]
  clear hcQ hl hpa hP hQ hQl hm
  go_enter Tryz.func121, Tryz.ntmps121
  go_wp2_with (go_at_call 211; refine cS.mono ?_; rintro e w' ⟨rfl, rfl⟩)
  go_ret
  exact ⟨rfl, hOa⟩
end Go.Proofs.YtonnbkebjeoflaaGreatDoor
namespace Go.Proofs.YtonnbkebjeoflaaGreatDoor
open Go.RowKit Go.Maps
def Rdy (w : World) : Prop := ∃ mx : Int, w.cell? ⟨1, 0, none⟩ = some (.int .i64 mx)
theorem Rdy.old {w w' : World} (h : Rdy w) (k : Mod (fun _ => False) w w') : Rdy w' := h.imp fun _ hc => k.cell hc (fun h => h)
theorem checkP_any (s : ByteArray) (hs : s.size ≤ 4000000000) (w : World) (h : Rdy w) : Calls Tryz.prog 121 #[.string s] w (CpPost (.int .i64 (checkB s)) w) := by
 obtain ⟨mx, hm⟩ := h
 exact (Check_any s hs mx w hm).mono fun e w' h => h
theorem root_beq (p : ByteArray) : (p.toList == [47]) = decide (p = rootP) := by
 rw [ByteArray.toList_eq, Bool.eq_iff_iff, beq_iff_eq, decide_eq_true_eq]
 constructor
 ·intro h
  refine ByteArray.ext (Array.toList_inj.1 ?_)
  rw [h]; rfl
 ·rintro rfl; rfl
set_option maxHeartbeats 1000000 in
theorem able_any (p : ByteArray) (hp : p.size ≤ 4000000000) (w : World) (h : Rdy w) : Calls Tryz.prog 159 #[.string p] w (CpPost (.bool (Tree.able p)) w) := by
 have CC := Lib.hid (checkP_any p hp w h)
 have hr := root_beq p
 by_cases h1 : p = rootP
 ·have h2 : (p.toList == [47]) = true := by rw [hr]; simpa using h1
  have HA : Hid (Tree.able p = false) := Lib.hid (by unfold Tree.able; simp [h1])
  clear hr h1
  go_enter Tryz.func159, Tryz.ntmps159
  go_wp2
  go_ret
  exact ⟨by rw [HA.out]; rfl, Mod.refl _ _⟩
 ·have h2 : (p.toList == [47]) = false := by rw [hr]; simpa using h1
  have HA : Hid (Tree.able p = (checkB p == 0)) := Lib.hid (by unfold Tree.able; rw [decide_eq_true h1, Bool.true_and]; rfl)
  clear hr h1
  generalize checkB p = z at CC HA
  go_enter Tryz.func159, Tryz.ntmps159
  go_wp2_with (go_at_call 121; refine CC.out.mono ?_; rintro e w2 ⟨rfl, hM⟩)
  go_ret
  exact ⟨by rw [HA.out]; rfl, hM⟩
end Go.Proofs.YtonnbkebjeoflaaGreatDoor
namespace Go.Proofs.YtonnbkebjeoflaaGreatDoor
open Go.RowKit Go.Maps
def ob (r : Nat) (o : Obj) : Thing where
 lies w F := w.heap[r]? = some o ∧ ∀ x, F x ↔ x = r
 keep := fun ⟨h, hF⟩ _ hk => ⟨by rw [hk r (heap_lt h) ((hF _).2 rfl)]; exact h, hF⟩
 below := fun ⟨h, hF⟩ x hx => by rw [(hF x).1 hx]; exact heap_lt h
theorem St.obAt {w0 w : World} {l : List Thing} (h : St w0 w l) (i : Nat) {r : Nat} {o : Obj} (hi : l[i]? = some (ob r o)) : w.heap[r]? = some o := by
 obtain ⟨F1, hl, _⟩ := h.at i hi
 exact hl.1
theorem St.reob {w0 w w' : World} {l : List Thing} (h : St w0 w l) (i : Nat) {r : Nat} {o o' : Obj} (hi : l[i]? = some (ob r o)) (hw : w'.heap[r]? = some o') (hm : Mod (fun b => b = r) w w') : St w0 w' (l.set i (ob r o')) := by
 obtain ⟨F1, ⟨hh, hF⟩, hz, hk⟩ := h.at i hi
 exact hk w' (ob r o') F1 (hm.mono (fun x _ hx => (hF x).2 hx)) ⟨hw, hF⟩ (fun x hx => .inl hx)
theorem St.newOb {w0 w w' : World} {l : List Thing} (h : St w0 w l) {r : Nat} {o : Obj} (hm : Mod (fun _ => False) w w') (hr : w.heap.size ≤ r) (ho : w'.heap[r]? = some o) : St w0 w' (ob r o :: l) :=
 h.cons (F := fun x => x = r) hm ⟨ho, fun _ => Iff.rfl⟩ (fun x hx => by rw [hx]; exact hr)
theorem RangeL.obj {P : Program} {k : TypeId} {α : Type} [DecidableEq α] {B : KB P k α} {w : World} {b r : Nat} {M : List (α × Value)} {left : α → Bool} {cnt : Nat} (h : RangeL B w b r M left cnt) : ∃ o, w.heap[r]? = some o := ⟨_, Array.getElem?_eq_getElem h.lt.2⟩
theorem infoStrR : (Tryz.prog.info? 9).map (fun i => (i.zero.map (·.cells.size), i.size, i.bytes)) = some (some 1, 1, 16) := by kernel_rfl
def past (N : List ByteArray) (left : ByteArray → Bool) (p : ByteArray) : List ByteArray := (N.filter fun q => !left q && (decide (q ≠ rootP) && decide (parentB q = p))).map baseB
theorem past_all (N : List ByteArray) (left : ByteArray → Bool) (p : ByteArray) (h : ∀ q ∈ N, left q = false) : past N left p = (N.filter fun q => decide (q ≠ rootP) && decide (parentB q = p)).map baseB := by
 unfold past
 congr 1
 refine List.filter_congr fun q hq => ?_
 rw [h q hq]; rfl
theorem past_none (N : List ByteArray) (left : ByteArray → Bool) (p : ByteArray) (h : ∀ q ∈ N, left q = true) : past N left p = [] := by
 unfold past
 rw [List.filter_eq_nil_iff.2 (fun q hq => by rw [h q hq]; simp)]
 rfl
theorem past_step {N : List ByteArray} (hn : N.Nodup) {left : ByteArray → Bool} {x : ByteArray} (hx : x ∈ N) (hl : left x = true) (p : ByteArray) :
 (past N (fun z => left z && decide (z ≠ x)) p).Perm (past N left p ++ (if x ≠ rootP ∧ parentB x = p then [baseB x] else [])) := by
 induction N with
 | nil => cases hx
 | cons q N ih =>
   rw [List.nodup_cons] at hn
   by_cases hq : q = x
   ·subst hq
    have hsame : past N (fun z => left z && decide (z ≠ q)) p = past N left p := by
     unfold past
     congr 1
     refine List.filter_congr fun z hz => ?_
     have : z ≠ q := fun e => hn.1 (by rw [← e]; exact hz)
     simp [this]
    unfold past at hsame ⊢
    rw [List.filter_cons, List.filter_cons]
    simp only [ne_eq, not_true, decide_false, Bool.and_false, Bool.not_false, Bool.true_and, hl, Bool.not_true, Bool.false_and, Bool.false_eq_true, if_false]
    simp only [ne_eq] at hsame
    by_cases hk : q ≠ rootP ∧ parentB q = p
    ·have : (decide (¬ q = rootP) && decide (parentB q = p)) = true := by simp [hk.1, hk.2]
     rw [if_pos this, if_pos hk, List.map_cons, hsame]
     exact List.perm_append_comm (l₁ := [_])
    ·have : ¬ (decide (¬ q = rootP) && decide (parentB q = p)) = true := by simpa using hk
     rw [if_neg this, if_neg hk, hsame, List.append_nil]
   ·have hx' : x ∈ N := by
     rcases List.mem_cons.1 hx with h | h
     ·exact absurd h.symm hq
     ·exact h
    have h1 := ih hn.2 hx'
    unfold past at h1 ⊢
    rw [List.filter_cons, List.filter_cons]
    simp only [ne_eq, hq, not_false_iff, decide_true, Bool.and_true] at h1 ⊢
    split
    ·rw [List.map_cons, List.map_cons, List.cons_append]
     exact h1.cons _
    ·exact h1
end Go.Proofs.YtonnbkebjeoflaaGreatDoor
