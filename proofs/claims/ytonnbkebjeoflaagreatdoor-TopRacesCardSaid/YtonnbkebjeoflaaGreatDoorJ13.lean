/-
  Contracts and plain laws of TreeI, AclS, AclT, AclU.
  Conditions: each law states its own.
-/
import Derived.Test.YtonnbkebjeoflaaGreatDoorProg
import Derived.BigRegion
import Derived.Deep.LoopGhost
import Derived.Deep.DeepCutAuto
import Derived.LoopN
import Derived.Lib.OthersKept
import Derived.Lib.RuneCount
import Derived.Shelf.GgClosure.StringsIndexFunc
import Derived.Lib.Bytealg
import Derived.Lib.Strings
import Derived.Test.YtonnbkebjeoflaaGreatDoorJ0
import Derived.Test.YtonnbkebjeoflaaGreatDoorJ5
import Derived.Test.YtonnbkebjeoflaaGreatDoorJ9
import Derived.Test.YtonnbkebjeoflaaGreatDoorJ10
import Derived.Test.YtonnbkebjeoflaaGreatDoorJ12
set_option linter.unusedSectionVars false
set_option linter.unusedSimpArgs false
set_option linter.unusedVariables false
set_option maxRecDepth 100000
namespace Go.Proofs.YtonnbkebjeoflaaGreatDoor
open Go.RowKit Go.Maps Go.Sort
theorem St.slYoung {w0 w : World} {l : List Thing} (h : St w0 w l) (i : Nat) {E k n cap : Nat} {a : Option Addr} {cs : List Value} (hi : l[i]? = some (sl E k a n cap cs)) : ∀ b, own a = some b → w0.heap.size ≤ b := by
 obtain ⟨F1, ⟨_, hF⟩, hz, _⟩ := h.at i hi
 exact fun b hb => hz b ((hF b).2 hb)
theorem sort_same {l m : List ByteArray} (h : l.Perm m) : l.mergeSort Tree.leB = m.mergeSort Tree.leB := by
 have h3 : (l.map fun s : ByteArray => s.data.toList).Perm (m.map fun s : ByteArray => s.data.toList) := h.map _
 have h4 : (l.map fun s : ByteArray => s.data.toList).mergeSort (fun x y => decide (x ≤ y)) = (m.map fun s : ByteArray => s.data.toList).mergeSort (fun x y => decide (x ≤ y)) := mergeSort_of_perm h3
 rw [← sort_lists, ← sort_lists] at h4
 exact (List.map_inj_right (fun a b e => ByteArray.ext (Array.toList_inj.1 e))).1 h4
set_option maxHeartbeats 4000000 in
theorem kids_any (w : World) (tb : Nat) (T : Tree) (h : TreeAt w tb T) (p : ByteArray) (hn : T.nodes.length ≤ 1000000) (hps : ∀ n ∈ T.nodes, n.1.size ≤ 1000000) :
 Calls Tryz.prog 168 #[.pointer (some ⟨tb, 0, none⟩), .string p] w (NewSl 9 1 ((T.kids p).map Value.string) (T.kids p).length w) := by
 obtain ⟨d, hd, ht, hm, _⟩ := h.open
 obtain ⟨ip, iz, hi1, hi2, hi3, hi4, hi5⟩ := info_rowT infoStrR
 have HI := Lib.hid (And.intro hi1 (And.intro hi2 (And.intro hi3 (And.intro hi4 hi5))))
 have c0 : w.cell? ⟨tb, 0, none⟩ = some (.map (some d.mb)) := blk_cell ht 0 _ rfl
 have zt := heap_lt ht
 have hN : ((d.recs.map fun p => (p.1, p.2.ptr)).map (·.1)) = T.nodes.map (·.1) := by rw [hd, List.map_map, List.map_map]; rfl
 obtain ⟨M, hM⟩ : ∃ M, (d.recs.map fun p => (p.1, p.2.ptr)) = M := ⟨_, rfl⟩
 obtain ⟨N, hNN⟩ : ∃ N, T.nodes.map (·.1) = N := ⟨_, rfl⟩
 rw [hM] at hm hN
 rw [hNN] at hN
 have hnd : N.Nodup := by rw [← hN]; exact hm.nodup
 have hNl : N.length ≤ 1000000 := by rw [← hNN, List.length_map]; exact hn
 have hsz : ∀ q ∈ N, q.size ≤ 1000000 := fun q hq => by
  rw [← hNN] at hq
  obtain ⟨x, hx, rfl⟩ := List.mem_map.1 hq
  exact hps x hx
 have hkk : T.kids p = ((N.filter fun q => decide (q ≠ rootP) && decide (parentB q = p)).map baseB).mergeSort Tree.leB := by
  unfold Tree.kids
  rw [← hNN, List.filter_map, List.map_map]
  rfl
 have HM := Lib.hid hm
 have HN := Lib.hid (And.intro hN (And.intro hnd (And.intro hNl hsz)))
 have HK := Lib.hid hkk
 clear hd ht hm hN hnd hNl hsz hkk hn hps h hM hNN hi1 hi2 hi3 hi4 hi5
 go_enter Tryz.func168, Tryz.ntmps168
 go_wp2_with ((with_reducible refine at_list ?_); refine wpList_rangeL (B := kbP) mapNodes d.mb M HM.out rfl ?_; intro w2 cnt hR2 hM2 hz2)
 obtain ⟨o, ho⟩ := hR2.obj
 have hS2 : St w w2 [sl 9 1 none 0 0 [], ob w.heap.size o] := ((St.start w).newOb hM2 (Nat.le_refl _) ho).nilSlice 9 1
 generalize w.heap.size = r at hR2 hS2 ⊢
 have HR2 := Lib.hid hR2
 have HS2 := Lib.hid hS2
 clear hR2 hM2 hz2 ho hS2
 simp only [Act.put, List.setIfInBounds_toArray, List.set_cons_zero, List.set_cons_succ]
 go_loopg [5, 6] cnt (fun g y5 y6 wr => ∃ (left : ByteArray → Bool) (out : List ByteArray) (a : Option Addr) (cap : Nat) (o : Obj), y5 = .slice a out.length cap ∧ Hid (out.Perm (past N left p)) ∧ Hid (RangeL kbP wr d.mb r M left g) ∧ Hid (wr.heap[r]? = some o) ∧ St w wr [sl 9 1 a out.length cap (out.map Value.string), ob r o])
 case atStart =>
  refine ⟨_, [], none, 0, o, rfl, Lib.hid ?_, HR2, Lib.hid (HS2.out.obAt 1 rfl), HS2.out⟩
  rw [past_none]
  intro q hq
  rw [← HN.out.1] at hq
  cases hx : getK M q with
  | none => exact absurd hq (getK_none.1 hx)
  | some v => rfl
 case round =>
  clear HS2 HR2
  obtain ⟨left, out, a, cap, o, rfl, HO, HR, HB, hS⟩ := hrel
  have HS := Lib.hid hS
  have TX := Lib.hid trivial
  clear hS
  go_wp2_with (at_next; refine wpList_nextL (B := kbP) d.mb M HR.out rfl ?_ ?_)
  ·intro hl0
   have hp := HO.out
   rw [past_all N left p (fun q _ => hl0 q)] at hp
   have hperm : out.mergeSort Tree.leB = T.kids p := by rw [HK.out]; exact sort_same hp
   have hlen : (T.kids p).length = out.length := by rw [← hperm, List.length_mergeSort]
   have hle : out.length ≤ 1000000 := by
    have h1 := hp.length_eq
    rw [List.length_map] at h1
    have h2 := List.length_filter_le (fun q : ByteArray => decide (q ≠ rootP) && decide (parentB q = p)) N
    have h3 := HN.out.2.2.1
    omega
   have CS := Lib.hid (sortStr_any wr a out.length cap out (HS.out.slice 0 rfl) hle)
   rw [hperm] at CS
   have HL := Lib.hid hlen
   clear hl0 hp hperm hlen
   go_wp2_with (go_at_call 239; refine CS.out.mono ?_; rintro e w4 ⟨rfl, hs4, hM4⟩)
   go_ret
   rw [HL.out]
   exact ⟨a, cap, rfl, hs4, HS.out.slYoung 0 rfl, HS.out.1.then hM4 (fun x hx hx2 => by have := HS.out.slYoung 0 rfl x hx2; omega)⟩
  ·intro x v w3 cnt2 hg hx hR3 hlt hM3 hz3 hen
   have hxN : x ∈ N := by rw [← HN.out.1]; exact List.mem_map_of_mem (f := (·.1)) (getK_some_mem hg)
   have hxs := HN.out.2.2.2 x hxN
   obtain ⟨o3, ho3⟩ := hR3.obj
   have hS3 := HS.out.reob 1 rfl ho3 hM3
   rw [show kbP.inj x = Value.string x from rfl] at hen ⊢
   simp only [List.set_cons_succ, List.set_cons_zero] at hS3
   have hstep := past_step HN.out.2.1 hxN hx p
   have HS3 := Lib.hid hS3
   have HR3 := Lib.hid hR3
   have HST := Lib.hid hstep
   have hr := root_beq x
   have CP := Lib.hid fun w => Parent_any x (by omega) w
   have CB := Lib.hid fun w => Base_any x (by omega) w
   clear hS3 hR3 hstep hM3 hz3 hg ho3
   have CA : Hid (∀ w1, Mod (fun _ => False) w3 w1 → ∃ o4, w1.heap[r]? = some o4 ∧ RangeL kbP w1 d.mb r M (fun z => left z && decide (z ≠ x)) cnt2 ∧ St w w1 [sl 9 1 a out.length cap (out.map Value.string), ob r o4]) := Lib.hid fun w1 hm => by
    have h1 := HS3.out.mod hm
    have hk := HR3.out.kept (w' := w1) (hm.keep _ HR3.out.lt.1 (fun h => h)) (hm.keep _ HR3.out.lt.2 (fun h => h))
    exact ⟨o3, h1.obAt 1 rfl, hk, h1⟩
   by_cases h1 : x = rootP
   ·have h2 : (x.toList == [47]) = true := by rw [hr]; simpa using h1
    have HP : Hid (out.Perm (past N (fun z => left z && decide (z ≠ x)) p)) := Lib.hid (by
     refine HO.out.trans ?_
     have := HST.out
     rw [if_neg (fun h => h.1 h1), List.append_nil] at this
     exact this.symm)
    clear hr h1
    go_wp2
    go_roundg cnt2
    obtain ⟨o4, h5, h6, h7⟩ := CA.out _ (Mod.refl _ _)
    exact ⟨_, out, a, cap, o4, rfl, HP, Lib.hid h6, Lib.hid h5, h7⟩
    exact hlt
   ·have h2 : (x.toList == [47]) = false := by rw [hr]; simpa using h1
    have heq : ((bs (parentL x.data.toList)).toList == p.toList) = decide (parentB x = p) := by
     rw [ByteArray.toList_eq, ByteArray.toList_eq, Bool.eq_iff_iff, beq_iff_eq, decide_eq_true_eq]
     exact ⟨fun h => ByteArray.ext (Array.toList_inj.1 h), fun h => by rw [← h]; rfl⟩
    by_cases h4 : parentB x = p
    ·have h5 : ((bs (parentL x.data.toList)).toList == p.toList) = true := by rw [heq]; simpa using h4
     have HP : Hid ((past N (fun z => left z && decide (z ≠ x)) p).Perm (past N left p ++ [baseB x])) := Lib.hid (by
      have := HST.out
      rw [if_pos ⟨h1, h4⟩] at this
      exact this)
     clear hr heq h1 h4
     have HL : Hid (out.length ≤ 1000000) := Lib.hid (by
      have h1 := HO.out.length_eq
      unfold past at h1
      rw [List.length_map] at h1
      have h2 := List.length_filter_le (fun q : ByteArray => !left q && (decide (q ≠ rootP) && decide (parentB q = p))) N
      have h3 := HN.out.2.2.1
      omega)
     go_wp2_with (first
      | (go_at_call 115; refine (CP.out _).mono ?_; rintro e w4 ⟨rfl, hM4⟩)
      | (go_at_call 238; refine (CB.out _).mono ?_; rintro e w5 ⟨rfl, hM5⟩; obtain ⟨o4, h5, h6, h7⟩ := CA.out _ ((Mod.then hM4 hM5 (fun _ _ h => h)).alloc (.cells #[.string (bs (baseL x.data.toList))] 9)); have HC := Lib.hid (And.intro h5 (And.intro h6 h7)); clear h5 h6 h7)
      | (at_builtin; refine wpList_append 9 ip iz 1 16 (by kernel_rfl) HI.out.1 HI.out.2.1 HI.out.2.2.1 HI.out.2.2.2.1 HI.out.2.2.2.2 a out.length cap (out.map Value.string) rfl (HC.out.2.2.slice 0 rfl) (some ⟨w5.heap.size, 0, none⟩) 1 1 [.string (bs (baseL x.data.toList))] rfl (Sl.new (E := 9) (k := 1) (n := 1) (heap_alloc_new w5 _) (by simp) (by unfold maxLen; omega)).rd (by intro u hu; rw [List.mem_singleton] at hu; subst hu; rfl) (by have := HL.out; unfold maxLen; omega) (by have := HL.out; omega) ?_; intro a2 cap2 w6 hS6 hM6 hF6 hN6 hR6))
     have h8 := HC.out.2.2.regrow 0 rfl hS6 hM6 hF6
     simp only [List.set_cons_zero] at h8
     go_roundg cnt2
     refine ⟨_, out ++ [baseB x], a2, cap2, o4, by rw [List.length_append]; rfl, Lib.hid ?_, Lib.hid (HC.out.2.1.kept ?_ ?_), Lib.hid (h8.obAt 1 rfl), ?_⟩
     ·exact (HO.out.append_right _).trans HP.out.symm
     ·exact hM6.keep _ HC.out.2.1.lt.1 (fun h => by have h1 := HC.out.2.2.slYoung 0 rfl _ h; have h2 := HM.out.lt; omega)
     ·rw [h8.obAt 1 rfl, HC.out.1]
     ·rw [List.length_append, List.map_append]; exact h8
     exact hlt
    ·have h5 : ((bs (parentL x.data.toList)).toList == p.toList) = false := by rw [heq]; simpa using h4
     have HP : Hid (out.Perm (past N (fun z => left z && decide (z ≠ x)) p)) := Lib.hid (by
      refine HO.out.trans ?_
      have := HST.out
      rw [if_neg (fun h => h4 h.2), List.append_nil] at this
      exact this.symm)
     clear hr heq h1 h4
     go_wp2_with (go_at_call 115; refine (CP.out _).mono ?_; rintro e w4 ⟨rfl, hM4⟩)
     go_roundg cnt2
     obtain ⟨o4, h5, h6, h7⟩ := CA.out _ hM4
     exact ⟨_, out, a, cap, o4, rfl, HP, Lib.hid h6, Lib.hid h5, h7⟩
     exact hlt
end Go.Proofs.YtonnbkebjeoflaaGreatDoor
namespace Go.Proofs.YtonnbkebjeoflaaGreatDoor.A
open Go.RowKit
abbrev Old (w w' : World) : Prop := Mod (fun _ => False) w w'
theorem Old.of {w w' : World} (h : Below w.heap.size w w') : Old w w' := ⟨h.os, h.tape, h.output, h.size, fun b hb _ => h.block b hb⟩
theorem Old.join {a b c : World} (h : Old a b) (k : Old b c) : Old a c := h.trans k (fun _ _ h => h) (fun _ _ h => h)
theorem Old.rfl' (w : World) : Old w w := Mod.refl _ w
def RetPost (v : Value) (w : World) (e : Ending) (w' : World) : Prop := e = .returned v ∧ w = w'
def CopyPost (v : Value) (w : World) (e : Ending) (w' : World) : Prop := e = .returned v ∧ Old w w'
def dig (c : Nat) : Bool := decide (48 ≤ c) && decide (c ≤ 57)
def usr (c : Nat) : Bool := dig c || (decide (97 ≤ c) && decide (c ≤ 122))
def hex (c : Nat) : Bool := dig c || (decide (97 ≤ c) && decide (c ≤ 102))
def onlyB (q : Nat → Bool) (l : List UInt8) : Bool := l.all fun b => q b.toNat
theorem usr_low (c : Nat) (h : usr c = true) : c < 128 := by simp [usr, dig] at h; omega
theorem hex_low (c : Nat) (h : hex c = true) : c < 128 := by simp [hex, dig] at h; omega
theorem decode_low (s : ByteArray) (i : Nat) (h : (s.get! i).toNat < 128) : Utf8.decode s i = ((s.get! i).toNat, 1) := by
 unfold Utf8.decode
 simp [h]
theorem decode_high (s : ByteArray) (i : Nat) (h : ¬ (s.get! i).toNat < 128) : 128 ≤ (Utf8.decode s i).1 := by
 unfold Utf8.decode
 simp only [Nat.add_zero]
 rw [if_neg h]
 have e : 128 ≤ Utf8.runeError := by decide
 repeat' split
 all_goals first | exact e | omega | (simp_all; done) | (simp_all; omega)
theorem get_list (s : ByteArray) (i : Nat) (h : i < s.size) : s.data.toList[i]? = some (s.get! i) := by
 have h' : i < s.data.size := h
 rw [Array.getElem?_toList, Array.getElem?_eq_getElem h']
 show _ = some (s.data[i]!)
 rw [getElem!_pos s.data i h']
theorem idx_only (q : Nat → Bool) (hq : ∀ c, q c = true → c < 128) (s : ByteArray) : ∀ (f pos : Nat), s.size ≤ pos + f → (decide (Lib.idxFuncFrom (fun c => !q c) true s f pos < 0) = onlyB q (s.data.toList.drop pos))
 | 0, pos, hf => by
   have : s.data.toList.drop pos = [] := List.drop_eq_nil_of_le (by rw [Array.length_toList]; exact hf)
   rw [this]; simp [Lib.idxFuncFrom, onlyB]
 | f + 1, pos, hf => by
   unfold Lib.idxFuncFrom
   by_cases hp : pos < s.size
   ·rw [if_pos hp]
    have hd : s.data.toList.drop pos = s.get! pos :: s.data.toList.drop (pos + 1) := by
     have := get_list s pos hp
     obtain ⟨h1, h2⟩ := List.getElem?_eq_some_iff.1 this
     rw [List.drop_eq_getElem_cons h1, h2]
    rw [hd, onlyB, List.all_cons]
    by_cases h128 : (s.get! pos).toNat < 128
    ·rw [decode_low s pos h128]
     cases hc : q (s.get! pos).toNat
     ·simp [hc]
     ·simp only [hc, Bool.not_true, Bool.false_eq_true, if_false, Bool.true_and]
      exact idx_only q hq s f (pos + 1) (by omega)
    ·have hx := decode_high s pos h128
     have hc : q (Utf8.decode s pos).1 = false := by
      cases h : q (Utf8.decode s pos).1
      ·rfl
      ·have := hq _ h; omega
     have hc2 : q (s.get! pos).toNat = false := by
      cases h : q (s.get! pos).toNat
      ·rfl
      ·have := hq _ h; omega
     simp [hc, hc2]
   ·rw [if_neg hp]
    have : s.data.toList.drop pos = [] := List.drop_eq_nil_of_le (by rw [Array.length_toList]; exact Nat.not_lt.1 hp)
    rw [this]; simp [onlyB]
theorem isDigit_any (c : Nat) (w : World) : Calls Tryz.prog 70 #[.int .i32 (c : Int)] w (RetPost (.bool (dig c)) w) := by
 have z1 : (48 : Int) ≤ (c : Int) ↔ 48 ≤ c := by omega
 have z2 : (c : Int) ≤ 57 ↔ c ≤ 57 := by omega
 by_cases h1 : 48 ≤ c <;> by_cases h2 : c ≤ 57
 all_goals
  go_enter Tryz.func70, Tryz.ntmps70
  go_wp2
  all_goals first | (exfalso; omega) | (go_ret; exact ⟨by simp [dig, h1, h2], rfl⟩)
theorem isUser1_any (c : Nat) (w : World) : Calls Tryz.prog 69 #[.int .i32 (c : Int)] w (RetPost (.bool (usr c)) w) := by
 have z1 : (97 : Int) ≤ (c : Int) ↔ 97 ≤ c := by omega
 have z2 : (c : Int) ≤ 122 ↔ c ≤ 122 := by omega
 cases hd : dig c <;> by_cases h1 : 97 ≤ c <;> by_cases h2 : c ≤ 122
 all_goals
  have cD := isDigit_any c w
  rw [hd] at cD
  go_enter Tryz.func69, Tryz.ntmps69
  go_wp2_with (go_at_call 70; refine cD.mono ?_; rintro e w' ⟨rfl, rfl⟩)
  all_goals first | (exfalso; omega) | (go_ret; exact ⟨by simp [usr, hd, h1, h2], rfl⟩)
theorem isID1_any (c : Nat) (w : World) : Calls Tryz.prog 278 #[.int .i32 (c : Int)] w (RetPost (.bool (hex c)) w) := by
 have z1 : (97 : Int) ≤ (c : Int) ↔ 97 ≤ c := by omega
 have z2 : (c : Int) ≤ 102 ↔ c ≤ 102 := by omega
 cases hd : dig c <;> by_cases h1 : 97 ≤ c <;> by_cases h2 : c ≤ 102
 all_goals
  have cD := isDigit_any c w
  rw [hd] at cD
  go_enter Tryz.func278, Tryz.ntmps278
  go_wp2_with (go_at_call 70; refine cD.mono ?_; rintro e w' ⟨rfl, rfl⟩)
  all_goals first | (exfalso; omega) | (go_ret; exact ⟨by simp [hex, hd, h1, h2], rfl⟩)
def Takes (g : Nat) (q : Nat → Bool) : Prop := (∀ args w, (callFunc g args).run Tryz.prog w = .ok (.enter g args) w) ∧ ∀ (c : Nat) (w : World), Calls Tryz.prog g #[.int .i32 (c : Int)] w (RetPost (.bool (q c)) w)
theorem takes_user : Takes 69 usr := ⟨enters_of Tryz.func69 (by kernel_rfl) rfl, isUser1_any⟩
theorem takes_hex : Takes 278 hex := ⟨enters_of Tryz.func278 (by kernel_rfl) rfl, isID1_any⟩
theorem only1_any (g : Nat) (q : Nat → Bool) (hg : Takes g q) (c B : Nat) (w : World) (hB : w.cell? ⟨B, 0, none⟩ = some (.func (.func g) #[] #[])) :
 Calls Tryz.prog 141 #[.int .i32 (c : Int), .pointer (some ⟨B, 0, none⟩)] w (RetPost (.bool (!q c)) w) := by
 have eg := hg.1
 have cG := hg.2 c w
 go_enter Tryz.func141, Tryz.ntmps141
 go_wp2_with (go_at_fn g; refine cG.mono ?_; rintro e w' ⟨rfl, rfl⟩)
 go_ret
 exact ⟨rfl, rfl⟩
def Tells (g : Nat) (lb : Array Value) (p : Nat → Bool) (w : World) : Prop := ∀ (W : World) (c : Nat), Below w.heap.size w W → Calls Tryz.prog g (#[.int .i32 (c : Int)] ++ lb) W (RetPost (.bool (p c)) W)
set_option maxHeartbeats 2000000 in
theorem indexFunc_any (g : Nat) (lb : Array Value) (eg : ∀ args w, (callFunc g args).run Tryz.prog w = .ok (.enter g args) w) (p : Nat → Bool) (s : ByteArray) (w : World) (hp : Tells g lb p w) :
 Calls Tryz.prog 216 #[.string s, .func (.func g) #[] lb, .bool true] w fun e w' => e = .returned (.int .i64 (Lib.idxFunc p true s)) ∧ Below w.heap.size w w' := by
 go_enter Tryz.func216, Tryz.ntmps216
 go_wp2
 go_loopg [] s.size (fun gf wx => ∃ pos : Nat, wx.heap[w.heap.size]? = some (.stringIter s pos) ∧ Below w.heap.size w wx ∧ Lib.idxFuncFrom p true s gf pos = Lib.idxFunc p true s ∧ s.size ≤ pos + gf)
 case atStart => exact ⟨0, World.iter_heap w s 0, (Below.refl _ w).alloc (Nat.le_refl _) _, rfl, by omega⟩
 case round =>
  obtain ⟨pos, hit, hbw, hleft, hfu⟩ := hrel
  by_cases hps : pos < s.size
  ·obtain ⟨g', rfl⟩ : ∃ g', gk = g' + 1 := ⟨gk - 1, by omega⟩
   have hnx : ∀ ty, (Instr.next (.pointer (some ⟨w.heap.size, 0, none⟩)) true ty).run Tryz.prog wr = _ := fun ty => Lib.run_next_any_at wr w.heap.size s pos ty hit hps
   have hwd := Lib.width_pos s pos
   obtain ⟨R, hR⟩ : ∃ R, (Utf8.decode s pos).1 = R := ⟨_, rfl⟩
   obtain ⟨K, hK⟩ : ∃ K, (Utf8.decode s pos).2 = K := ⟨_, rfl⟩
   simp only [Lib.idxFuncFrom, hps, if_true, hR, hK] at hleft
   rw [hR, hK] at hnx
   rw [hK] at hwd
   have hit2 := Lib.iterAt_heap wr w.heap.size s pos (pos + K) hit
   have hbw2 := Lib.below_iterAt hbw (k := w.heap.size) (Nat.le_refl _) s (pos + K)
   obtain ⟨W, hWd⟩ : ∃ W, wr.iterAt w.heap.size s (pos + K) = W := ⟨_, rfl⟩
   rw [hWd] at hnx hit2 hbw2
   have cS : Calls Tryz.prog g (#[.int .i32 (R : Int)] ++ lb) W _ := hp W R hbw2
   clear hp
   cases hsp : p R <;> rw [hsp] at cS <;> simp only [hsp, if_true, Bool.false_eq_true, if_false] at hleft
   ·go_wp2_with (go_at_fn g; refine cS.mono ?_; rintro e W' ⟨rfl, rfl⟩)
    go_roundg g'
    case measure => omega
    case rel => exact ⟨pos + K, hit2, hbw2, hleft, by omega⟩
   ·go_wp2_with (go_at_fn g; refine cS.mono ?_; rintro e W' ⟨rfl, rfl⟩)
    go_ret
    exact ⟨by rw [← hleft] <;> rfl, hbw2⟩
  ·have hnx : ∀ ty, (Instr.next (.pointer (some ⟨w.heap.size, 0, none⟩)) true ty).run Tryz.prog wr = _ := fun ty => Lib.run_next_end_at wr w.heap.size s pos ty hit hps
   rw [Lib.idxFuncFrom_end p true s gk pos hps] at hleft
   go_wp2
   go_ret
   exact ⟨by rw [← hleft] <;> rfl, hbw⟩
theorem IndexFunc_any (g : Nat) (lb : Array Value) (eg : ∀ args w, (callFunc g args).run Tryz.prog w = .ok (.enter g args) w) (p : Nat → Bool) (s : ByteArray) (w : World) (hp : Tells g lb p w) :
 Calls Tryz.prog 140 #[.string s, .func (.func g) #[] lb] w fun e w' => e = .returned (.int .i64 (Lib.idxFunc p true s)) ∧ Below w.heap.size w w' := by
 have cI := indexFunc_any g lb eg p s w hp
 clear hp
 go_enter Tryz.func140, Tryz.ntmps140
 go_wp2_with (go_at_call 216; refine cI.mono ?_; rintro e w' ⟨rfl, hb⟩)
 go_ret
 exact ⟨rfl, hb⟩
theorem only_any (g : Nat) (q : Nat → Bool) (hg : Takes g q) (hq : ∀ c, q c = true → c < 128) (s : ByteArray) (w : World) :
 Calls Tryz.prog 68 #[.string s, .func (.func g) #[] #[]] w (CopyPost (.bool (onlyB q s.data.toList)) w) := by
 have hi : decide (Lib.idxFunc (fun c => !q c) true s < 0) = onlyB q s.data.toList := idx_only q hq s s.size 0 (by omega)
 have hC := fun (W : World) (hB : W.cell? ⟨w.heap.size, 0, none⟩ = some (.func (.func g) #[] #[])) =>
  IndexFunc_any 141 #[.pointer (some ⟨w.heap.size, 0, none⟩)] (enters_of Tryz.func141 (by kernel_rfl) rfl) (fun c => !q c) s W
   (fun W' c hb => only1_any g q hg c w.heap.size W' ((hb.cell (p := ⟨w.heap.size, 0, none⟩) (World.block_lt_of_cell? _ _ hB)).trans hB))
 generalize Lib.idxFunc (fun c => !q c) true s = I at hi hC
 go_enter Tryz.func68, Tryz.ntmps68
 go_wp2_with (go_at_call 140; refine (hC _ (by simp)).mono ?_; rintro e w' ⟨rfl, hb⟩)
 all_goals
  go_ret
  refine ⟨by rw [← hi]; rfl, ?_⟩
  exact Old.of (((Below.refl _ w).alloc (Nat.le_refl _) _).trans (hb.mono (by simp)))
def isUserL (l : List UInt8) : Bool := decide (1 ≤ l.length) && decide (l.length ≤ 12) && onlyB usr l
theorem isUser_any (s : ByteArray) (hs : s.size ≤ maxLen) (w : World) : Calls Tryz.prog 33 #[.string s] w (CopyPost (.bool (isUserL s.data.toList)) w) := by
 have cO := only_any _ usr takes_user usr_low s w
 have hl : s.data.toList.length = s.size := by rw [Array.length_toList]; rfl
 by_cases h0 : s.size = 0
 ·have he : s = ByteArray.empty := by
   apply ByteArray.ext
   exact Array.eq_empty_of_size_eq_zero h0
  subst he
  go_enter Tryz.func33, Tryz.ntmps33
  go_wp2
  go_ret
  exact ⟨rfl, Old.rfl' _⟩
 ·have hE : ¬ s.toList = [] := by
   rw [ByteArray.toList_eq]
   intro e
   rw [e] at hl
   exact h0 hl.symm
  by_cases h12 : s.size ≤ 12
  ·have hv : isUserL s.data.toList = onlyB usr s.data.toList := by
    simp [isUserL, hl, h12]; omega
   rw [hv]
   have z : (s.size : Int) ≤ 12 := by omega
   generalize onlyB usr s.data.toList = V at cO ⊢
   go_enter Tryz.func33, Tryz.ntmps33
   go_wp2_with (go_at_call 68; refine cO.mono ?_; rintro e w' ⟨rfl, hb⟩)
   all_goals
    go_ret
    exact ⟨by simp [hE], hb⟩
  ·have hv : isUserL s.data.toList = false := by
    simp [isUserL, hl, h12]
   rw [hv]
   have z : ¬ (s.size : Int) ≤ 12 := by omega
   go_enter Tryz.func33, Tryz.ntmps33
   go_wp2
   go_ret
   exact ⟨rfl, Old.rfl' _⟩
end Go.Proofs.YtonnbkebjeoflaaGreatDoor.A
namespace Go.Proofs.YtonnbkebjeoflaaGreatDoor.A
open Go.RowKit
theorem idx_cases (c : UInt8) : ∀ l : List UInt8, (Lib.indexByte l c = -1 ∧ c ∉ l) ∨ ∃ a b, l = a ++ c :: b ∧ c ∉ a ∧ Lib.indexByte l c = (a.length : Int)
 | [] => .inl ⟨rfl, by simp⟩
 | x :: l => by
   rw [Lib.indexByte]
   by_cases hx : x = c
   ·subst hx
    exact .inr ⟨[], l, by simp, by simp, by simp⟩
   ·have hx' : (x == c) = false := by simpa using hx
    rcases idx_cases c l with ⟨h1, h2⟩ | ⟨a, b, rfl, h2, h3⟩
    ·exact .inl ⟨by rw [h1]; simp [hx], by simp [h2, Ne.symm hx]⟩
    ·refine .inr ⟨x :: a, b, by simp, by simp [h2, Ne.symm hx], ?_⟩
     have h4 : ¬ ((a.length : Int) = -1) := by omega
     rw [h3]
     simp [hx, h4]
set_option maxRecDepth 100000 in
theorem Index_any (s : ByteArray) (w : World) : Calls Tryz.prog 300 #[.string s, .string ⟨#[58]⟩] w (RetPost (.int .i64 (Lib.indexByte s.data.toList 58)) w) :=
 (Tryz.stringslite_Index_one s 58 w).mono fun e w' h => ⟨h.1, h.2.symm⟩
theorem sCut_none (s : ByteArray) (w : World) (h : Lib.indexByte s.data.toList 58 = -1) : Calls Tryz.prog 296 #[.string s, .string ⟨#[58]⟩] w (RetPost (.tuple #[.string s, .string ByteArray.empty, .bool false]) w) := by
 have cI := Index_any s w
 rw [h] at cI
 go_enter Tryz.func296, Tryz.ntmps296
 go_wp2_with (go_at_call 300; refine cI.mono ?_; rintro e w' ⟨rfl, rfl⟩)
 go_ret3
 exact ⟨rfl, rfl⟩
theorem sCut_some (s : ByteArray) (n : Nat) (hn : n < s.size) (hs : s.size ≤ maxLen) (w : World) (h : Lib.indexByte s.data.toList 58 = (n : Int)) :
 Calls Tryz.prog 296 #[.string s, .string ⟨#[58]⟩] w (CopyPost (.tuple #[.string (s.extract 0 n), .string (s.extract (n + 1) s.size), .bool true]) w) := by
 have cI := Index_any s w
 rw [h] at cI
 have hs' : s.size ≤ 9223372036854775807 := by unfold maxLen at hs; omega
 have z0 : (0 : Int) ≤ (n : Int) := by omega
 have z1 : (n : Int) ≤ (s.size : Int) := by omega
 have z2 : (n : Int) + 1 ≤ (s.size : Int) := by omega
 go_enter Tryz.func296, Tryz.ntmps296
 go_wp2_with (go_at_call 300; refine cI.mono ?_; rintro e w' ⟨rfl, rfl⟩)
 go_quiet (fail)
 go_wp2
 go_ret3
 exact ⟨rfl, (Old.rfl' _).drewN _⟩
end Go.Proofs.YtonnbkebjeoflaaGreatDoor.A
namespace Go.Proofs.YtonnbkebjeoflaaGreatDoor.A
open Go.RowKit
theorem Cut_none (s : ByteArray) (w : World) (h : Lib.indexByte s.data.toList 58 = -1) : Calls Tryz.prog 277 #[.string s, .string ⟨#[58]⟩] w (RetPost (.tuple #[.string s, .string ByteArray.empty, .bool false]) w) := by
 have cI := sCut_none s w h
 go_enter Tryz.func277, Tryz.ntmps277
 go_wp2_with (go_at_call 296; refine cI.mono ?_; rintro e w' ⟨rfl, rfl⟩)
 go_ret3
 exact ⟨rfl, rfl⟩
theorem Cut_some (s : ByteArray) (n : Nat) (hn : n < s.size) (hs : s.size ≤ maxLen) (w : World) (h : Lib.indexByte s.data.toList 58 = (n : Int)) :
 Calls Tryz.prog 277 #[.string s, .string ⟨#[58]⟩] w (CopyPost (.tuple #[.string (s.extract 0 n), .string (s.extract (n + 1) s.size), .bool true]) w) := by
 have cI := sCut_some s n hn hs w h
 go_enter Tryz.func277, Tryz.ntmps277
 go_wp2_with (go_at_call 296; refine cI.mono ?_; rintro e w' ⟨rfl, hb⟩)
 go_ret3
 exact ⟨rfl, hb⟩
def pairL (a b : List UInt8) : Bool := isUserL a && decide (b.length = 16) && onlyB hex b
def longIDL (l : List UInt8) : Bool := decide (18 ≤ l.length) && decide (l[l.length - 17]? = some 58) && isUserL (l.take (l.length - 17)) && onlyB hex (l.drop (l.length - 17 + 1))
def isIDL (s : ByteArray) : Bool := decide (s = world) || longIDL s.data.toList
theorem onlyB_mem (q : Nat → Bool) (l : List UInt8) : onlyB q l = true ↔ ∀ b ∈ l, q b.toNat = true := by simp [onlyB]
theorem longIDL_none (l : List UInt8) (h : (58 : UInt8) ∉ l) : longIDL l = false := by
 rw [Bool.eq_false_iff]
 intro hx
 simp only [longIDL, Bool.and_eq_true, decide_eq_true_eq] at hx
 exact h (List.mem_of_getElem? hx.1.1.2)
theorem longIDL_pair (a b : List UInt8) (h : (58 : UInt8) ∉ a) : longIDL (a ++ 58 :: b) = pairL a b := by
 by_cases hb : b.length = 16
 ·have hn : (a ++ 58 :: b).length - 17 = a.length := by simp [hb]
  have ht : (a ++ 58 :: b).take a.length = a := List.take_left
  have hd : (a ++ 58 :: b).drop (a.length + 1) = b := by
   rw [← List.drop_drop, List.drop_left]; rfl
  have hg : (a ++ 58 :: b)[a.length]? = some 58 := by simp
  rw [longIDL, hn, ht, hd, hg, pairL]
  by_cases h1 : 1 ≤ a.length
  ·have : 18 ≤ (a ++ 58 :: b).length := by simp [hb]; omega
   rw [decide_eq_true this]
   simp [hb]
  ·have : isUserL a = false := by simp [isUserL]; omega
   simp [this]
 ·have hp : pairL a b = false := by simp [pairL, hb]
  rw [hp, Bool.eq_false_iff]
  intro hx
  simp only [longIDL, Bool.and_eq_true, decide_eq_true_eq, isUserL] at hx
  obtain ⟨⟨⟨h18, hg⟩, ⟨-, -⟩, hu⟩, -⟩ := hx
  rcases Nat.lt_trichotomy ((a ++ 58 :: b).length - 17) a.length with hlt | heq | hgt
  ·rw [List.getElem?_append_left hlt] at hg
   exact h (List.mem_of_getElem? hg)
  ·apply hb
   simp at heq h18
   omega
  ·have := (onlyB_mem _ _).1 hu 58 (by
    rw [List.take_append]
    refine List.mem_append_right _ ?_
    obtain ⟨k, hk⟩ : ∃ k, (a ++ 58 :: b).length - 17 - a.length = k + 1 := ⟨(a ++ 58 :: b).length - 17 - a.length - 1, by omega⟩
    rw [hk, List.take_succ_cons]
    exact List.mem_cons_self)
   exact absurd this (by decide)
theorem toList_ne {s t : ByteArray} (h : ¬ s = t) : ¬ s.toList = t.data.toList := by
 intro e
 rw [ByteArray.toList_eq] at e
 exact h (ByteArray.ext (Array.toList_inj.1 e))
theorem toList_beq {s t : ByteArray} (h : ¬ s = t) : (s.toList == t.data.toList) = false := by
 rw [Bool.eq_false_iff]
 intro e
 exact toList_ne h (by simpa using e)
theorem isID_world (w : World) : Calls Tryz.prog 256 #[.string ⟨#[119, 111, 114, 108, 100]⟩] w (CopyPost (.bool true) w) := by
 have cC := Cut_none ⟨#[119, 111, 114, 108, 100]⟩ w (by decide)
 go_enter Tryz.func256, Tryz.ntmps256
 go_wp2_with (go_at_call 277; refine cC.mono ?_; rintro e w' ⟨rfl, rfl⟩)
 go_ret
 exact ⟨rfl, Old.rfl' _⟩
theorem isID_none (s : ByteArray) (hne : ¬ s = world) (h : Lib.indexByte s.data.toList 58 = -1) (w : World) : Calls Tryz.prog 256 #[.string s] w (CopyPost (.bool false) w) := by
 have cC := Cut_none s w h
 have hE : (s.toList == [119, 111, 114, 108, 100]) = false := toList_beq hne
 go_enter Tryz.func256, Tryz.ntmps256
 go_wp2_with (go_at_call 277; refine cC.mono ?_; rintro e w' ⟨rfl, rfl⟩)
 go_ret
 exact ⟨rfl, Old.rfl' _⟩
theorem isID_some (s : ByteArray) (hne : ¬ s = world) (a b : List UInt8) (hl : s.data.toList = a ++ 58 :: b) (h : Lib.indexByte s.data.toList 58 = (a.length : Int)) (hs : s.size ≤ maxLen) (w : World) : Calls Tryz.prog 256 #[.string s] w (CopyPost (.bool (pairL a b)) w) := by
 have hsz : s.size = a.length + (b.length + 1) := by
  have : s.data.toList.length = s.size := by rw [Array.length_toList]; rfl
  rw [← this, hl]; simp
 have cC := Cut_some s a.length (by omega) hs w h
 have hE : (s.toList == [119, 111, 114, 108, 100]) = false := toList_beq hne
 obtain ⟨X, hX⟩ : ∃ X, s.extract 0 a.length = X := ⟨_, rfl⟩
 obtain ⟨Y, hY⟩ : ∃ Y, s.extract (a.length + 1) s.size = Y := ⟨_, rfl⟩
 have hXl : X.data.toList = a := by
  rw [← hX, Lib.extract_data, hl]; simp
 have hYl : Y.data.toList = b := by
  rw [← hY, Lib.extract_data, hl, hsz, ← List.drop_drop, List.drop_left]
  exact List.take_of_length_le (by simp; omega)
 have hXs : X.size = a.length := by rw [← hXl, Array.length_toList]; rfl
 have hYs : Y.size = b.length := by rw [← hYl, Array.length_toList]; rfl
 rw [hX, hY] at cC
 have cU := fun w => isUser_any X (by omega) w
 have cO := fun w => only_any _ hex takes_hex hex_low Y w
 rw [hXl] at cU
 rw [hYl] at cO
 clear hX hY hXl hYl hl h hsz
 cases hu : isUserL a
 ·have hp : pairL a b = false := by simp [pairL, hu]
  rw [hu] at cU
  rw [hp]
  go_enter Tryz.func256, Tryz.ntmps256
  go_wp2_with (first | (go_at_call 277; refine cC.mono ?_; rintro e w' ⟨rfl, hb1⟩) | (go_at_call 33; refine (cU _).mono ?_; rintro e w'' ⟨rfl, hb2⟩))
  go_ret
  exact ⟨rfl, hb1.join hb2⟩
 ·rw [hu] at cU
  by_cases h16 : b.length = 16
  ·have z : (Y.size : Int) = 16 := by omega
   have hp : pairL a b = onlyB hex b := by simp [pairL, hu, h16]
   rw [hp]
   generalize onlyB hex b = V at cO ⊢
   clear hp h16 hYs hXs
   go_enter Tryz.func256, Tryz.ntmps256
   go_wp2_with (first | (go_at_call 277; refine cC.mono ?_; rintro e w' ⟨rfl, hb1⟩) | (go_at_call 33; refine (cU _).mono ?_; rintro e w'' ⟨rfl, hb2⟩) | (go_at_call 68; refine (cO _).mono ?_; rintro e w3 ⟨rfl, hb3⟩))
   go_ret
   exact ⟨rfl, (hb1.join hb2).join hb3⟩
  ·have z : ((Y.size : Int) == 16) = false := by simpa using (show ¬ (Y.size : Int) = 16 by omega)
   have hp : pairL a b = false := by simp [pairL, h16]
   rw [hp]
   clear hp h16 hYs hXs
   go_enter Tryz.func256, Tryz.ntmps256
   go_wp2_with (first | (go_at_call 277; refine cC.mono ?_; rintro e w' ⟨rfl, hb1⟩) | (go_at_call 33; refine (cU _).mono ?_; rintro e w'' ⟨rfl, hb2⟩))
   go_ret
   exact ⟨rfl, hb1.join hb2⟩
theorem isID_any (s : ByteArray) (hs : s.size ≤ maxLen) (w : World) : Calls Tryz.prog 256 #[.string s] w (CopyPost (.bool (isIDL s)) w) := by
 by_cases hw : s = world
 ·have hv : isIDL s = true := by simp [isIDL, hw]
  rw [hv, hw]
  exact isID_world w
 ·rcases idx_cases 58 s.data.toList with ⟨h1, h2⟩ | ⟨a, b, hl, h2, h3⟩
  ·have hv : isIDL s = false := by simp [isIDL, hw, longIDL_none _ h2]
   rw [hv]
   exact isID_none s hw h1 w
  ·have hv : isIDL s = pairL a b := by rw [isIDL, hl, longIDL_pair _ _ h2]; simp [hw]
   rw [hv]
   exact isID_some s hw a b hl h3 hs w
end Go.Proofs.YtonnbkebjeoflaaGreatDoor.A
