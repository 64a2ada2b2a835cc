/-
  Things with lists: what package wire lays them as.
  Conditions: the lists lie in the world at the start; the bytes fit.
-/
import Derived.Test.YtmbkbkfcbloafabJsmall
namespace Go.Proofs.Ytmbkbkfcbloafab
open Go.RowKit
set_option linter.unusedSectionVars false
set_option linter.unusedSimpArgs false
set_option linter.unusedVariables false
set_option maxRecDepth 100000

theorem St.swap {w0 w : World} {a b : Thing} {l : List Thing} (h : St w0 w (a :: b :: l)) : St w0 w (b :: a :: l) := h.perm (.swap _ _ _)
theorem St.box2 {w0 w : World} {t : Thing} {l : List Thing} (h : St w0 w (t :: l)) (c : Array Value) (T : TypeId) : St w0 (w.alloc (.cells c T)) (t :: bx w.heap.size c T :: l) := (h.box1 c T).swap
theorem St.slice2 {w0 w : World} {t : Thing} {l : List Thing} (h : St w0 w (t :: l)) (c : Array Value) (T : TypeId) (k n : Nat) (hn : c.size = n * k) (hm : n ≤ maxLen) :
    St w0 (w.alloc (.cells c T)) (t :: sl T k (some ⟨w.heap.size, 0, none⟩) n n c.toList :: l) := (h.slice1 c T k n hn hm).swap
theorem St.tail2 {w0 w : World} {a b : Thing} {l : List Thing} (h : St w0 w (a :: b :: l)) : St w0 w (a :: l) := h.swap.tail

def flagB (b : Bool) : List UInt8 := [if b then 1 else 0]
def strC (s : ByteArray) : List Value := [.string s]
def listB {α : Type} (f : α → List UInt8) (L : List α) : List UInt8 := sevens L.length ++ L.flatMap f
theorem flat_take_snoc {α β : Type} (f : α → List β) {L : List α} {k : Nat} {t : α} (h : L[k]? = some t) : (L.take (k + 1)).flatMap f = (L.take k).flatMap f ++ f t := by
  obtain ⟨hk, rfl⟩ := List.getElem?_eq_some_iff.1 h
  rw [List.take_succ_eq_append_getElem hk, List.flatMap_append]
  congr 1
  simp
theorem flat_take_le {α β : Type} (f : α → List β) {L : List α} {k : Nat} {t : α} (h : L[k]? = some t) : ((L.take k).flatMap f).length + (f t).length ≤ (L.flatMap f).length := by
  have e := flat_take_snoc f h
  have : L.flatMap f = (L.take (k + 1)).flatMap f ++ (L.drop (k + 1)).flatMap f := by rw [← List.flatMap_append, List.take_append_drop]
  rw [this, e]
  simp only [List.length_append]
  omega

theorem wflag_st {w0 w : World} {l : List Thing} {pb : Nat} {xs : List UInt8} (h : St w0 w l) (i : Nat) (hi : l[i]? = some (wrt pb xs)) (b : Bool) (hf : bfits (xs.length + 10)) :
    Calls Try.prog 97 #[.pointer (some ⟨pb, 0, none⟩), .bool b] w (StPost (.tuple #[]) w0 (l.set i (wrt pb (xs ++ flagB b)))) :=
  h.wr i hi fun a cap hw => wflag_any pb a cap xs w hw b hf

theorem layText_st {w0 w : World} {l : List Thing} {pb : Nat} {xs : List UInt8} (h : St w0 w (wrt pb xs :: l)) (s : ByteArray) (hf : bfits ((xs ++ txtB s).length + 100)) :
    Calls Try.prog 59 #[.pointer (some ⟨pb, 0, none⟩), .string s] w (StPost (.tuple #[]) w0 (wrt pb (xs ++ txtB s) :: l)) := by
  have HF := Lib.hid hf
  clear hf
  go_enter Try.func59, Try.ntmps59
  go_wp2_with fail
  refine (wtext_st h 0 rfl s (HF.out.mono (by simp only [List.length_append, txtB, toList_size]; omega))).mono ?_
  rintro e w1 ⟨rfl, hS⟩
  go_wp2
  go_end0
  exact ⟨rfl, hS⟩

set_option maxHeartbeats 2000000 in
theorem listStr_st {w0 w : World} {l : List Thing} {pb : Nat} {xs : List UInt8} (h : St w0 w (wrt pb xs :: l)) (a : Option Addr) (cap : Nat) (L : List ByteArray) (hr : Rd w0 1 a L.length cap (L.flatMap strC)) (hf : bfits ((xs ++ listB txtB L).length + 100)) :
    Calls Try.prog 58 #[.pointer (some ⟨pb, 0, none⟩), .slice a L.length cap, .func (.func 59) #[] #[]] w (StPost (.tuple #[]) w0 (wrt pb (xs ++ listB txtB L) :: l)) := by
  obtain ⟨n, hn⟩ : ∃ n, L.length = n := ⟨_, rfl⟩
  rw [hn] at hr ⊢
  have hl63 : n ≤ 2 ^ 63 - 1 := by have := hr.2.1; have := hr.2.2.1; unfold maxLen at this; omega
  have HN := Lib.hid hn
  have HR := Lib.hid hr
  have HF := Lib.hid hf
  have HS := Lib.hid h

  clear h hn hr hf
  go_enter Try.func58, Try.ntmps58
  go_wp2_with fail
  refine (wcount_st HS.out 0 rfl (n : Int) (by omega) (HF.out.mono (by rw [List.length_append]; omega))).mono ?_
  rintro e w1 ⟨rfl, hS⟩
  simp only [List.set_cons_zero, Int.toNat_natCast] at hS
  clear HS
  have HS := Lib.hid hS
  clear hS
  go_wp2
  go_loopg [14] n (fun g y wr => ∃ k : Nat, k + g = n ∧ y = .int .i64 k ∧ St w0 wr (wrt pb (xs ++ sevens n ++ (L.take k).flatMap txtB) :: l))
  case atStart => exact ⟨0, by omega, rfl, by rw [List.take_zero, List.flatMap_nil, List.append_nil]; exact HS.out⟩
  case round =>
    obtain ⟨k, hkg, rfl, hS⟩ := hrel
    by_cases hlt : k < n
    · have hx : L[k]? = some (L[k]'(HN.out ▸ hlt)) := List.getElem?_eq_getElem _
      obtain ⟨t, hxx⟩ : ∃ x, L[k]'(HN.out ▸ hlt) = x := ⟨_, rfl⟩
      rw [hxx] at hx
      obtain ⟨b, o, rfl, hbl, hc⟩ := (hS.old HR.out).elem (k := 1) strC (fun _ => rfl) (by omega) hx
      have hft : bfits ((xs ++ sevens n ++ (L.take k).flatMap txtB ++ txtB t).length + 100) := HF.out.mono (by
        have h1 := flat_take_le txtB hx
        unfold listB
        simp only [List.length_append, HN.out] at h1 ⊢
        omega)
      have HX := Lib.hid hx
      have HFT := Lib.hid hft
      have c0 : wr.cell? ⟨b, o + k, none⟩ = some (.string t) := by have := hc 0 _ rfl; simpa using this
      clear hx hxx hft hc
      go_wp2_with fail
      refine (layText_st hS t HFT.out).mono ?_
      clear hS
      rintro e w2 ⟨rfl, hS⟩
      go_wp2
      go_roundg (gk - 1)
      case measure => omega
      case rel =>
        refine ⟨k + 1, by omega, by simp, ?_⟩
        rw [flat_take_snoc txtB HX.out, ← List.append_assoc]
        exact hS
    · have hk : k = n := by omega
      clear hkg hlt
      rw [hk, List.take_of_length_le (by rw [HN.out]; exact Nat.le_refl _)] at hS
      go_wp2
      go_end0
      refine ⟨rfl, ?_⟩
      unfold listB
      rw [HN.out, ← List.append_assoc]
      exact hS

structure Acl where
  perms : Int
  id : ByteArray
def Acl.cells (x : Acl) : List Value := [.int .i64 x.perms, .string x.id]
def Acl.bytes (x : Acl) : List UInt8 := numB x.perms ++ txtB x.id
def Acl.ok (w : World) (x : Acl) : Prop := i64 x.perms
theorem sizeAcl : (Try.prog.info? 146).map (·.size) = some 2 := by kernel_rfl

set_option maxHeartbeats 2000000 in
theorem layAcl_st {w0 w : World} {l : List Thing} {pb : Nat} {xs : List UInt8} (h : St w0 w (wrt pb xs :: l)) (x : Acl) (hx : x.ok w0) (hf : bfits ((xs ++ x.bytes).length + 100)) :
    Calls Try.prog 86 #[.pointer (some ⟨pb, 0, none⟩), .agg x.cells.toArray] w (StPost (.tuple #[]) w0 (wrt pb (xs ++ x.bytes) :: l)) := by
  have hS := h.box2 #[.int .i64 x.perms, .string x.id] 146
  have hz0 : (w.alloc (.cells #[.int .i64 x.perms, .string x.id] 146)).heap.size = w.heap.size + 1 := World.size_alloc ..
  have HX := Lib.hid hx
  have HF := Lib.hid hf
  simp only [Acl.cells]
  clear h hx hf
  go_enter Try.func86, Try.ntmps86
  go_wp2_with fail
  generalize w.alloc (.cells #[.int .i64 x.perms, .string x.id] 146) = W at *
  generalize w.heap.size = tb at *
  refine (wnum_st hS 0 rfl x.perms HX.out (HF.out.mono (by unfold Acl.bytes; simp only [List.length_append, txtB, numB, toList_size]; omega))).mono ?_
  clear hS hz0
  rintro e w1 ⟨rfl, hS⟩
  simp only [List.set_cons_zero] at hS
  have z0 := heap_lt (hS.box 1 rfl)
  have c1 : w1.cell? ⟨tb, 1, none⟩ = some (.string x.id) := blk_cell (hS.box 1 rfl) 1 _ rfl
  go_wp2_with fail
  refine (wtext_st hS 0 rfl x.id (HF.out.mono (by unfold Acl.bytes; simp only [List.length_append, txtB, numB, toList_size]; omega))).mono ?_
  clear hS z0 c1
  rintro e w2 ⟨rfl, hS⟩
  simp only [List.set_cons_zero] at hS
  go_wp2
  go_end0
  refine ⟨rfl, ?_⟩
  have e : xs ++ x.bytes = xs ++ (numB x.perms) ++ (txtB x.id) := by simp only [Acl.bytes, List.append_assoc]
  rw [e]
  exact hS.tail2

set_option maxHeartbeats 2000000 in
theorem listAcl_st {w0 w : World} {l : List Thing} {pb : Nat} {xs : List UInt8} (h : St w0 w (wrt pb xs :: l)) (a : Option Addr) (cap : Nat) (L : List Acl) (hr : Rd w0 2 a L.length cap (L.flatMap Acl.cells)) (hok : ∀ x ∈ L, Acl.ok w0 x) (hf : bfits ((xs ++ listB Acl.bytes L).length + 100)) :
    Calls Try.prog 85 #[.pointer (some ⟨pb, 0, none⟩), .slice a L.length cap, .func (.func 86) #[] #[]] w (StPost (.tuple #[]) w0 (wrt pb (xs ++ listB Acl.bytes L) :: l)) := by
  obtain ⟨n, hn⟩ : ∃ n, L.length = n := ⟨_, rfl⟩
  rw [hn] at hr ⊢
  have hl63 : n ≤ 2 ^ 63 - 1 := by have := hr.2.1; have := hr.2.2.1; unfold maxLen at this; omega
  have HN := Lib.hid hn
  have HR := Lib.hid hr
  have HF := Lib.hid hf
  have HS := Lib.hid h
  have HO := Lib.hid hok
  clear h hn hr hf hok
  go_enter Try.func85, Try.ntmps85
  go_wp2_with fail
  refine (wcount_st HS.out 0 rfl (n : Int) (by omega) (HF.out.mono (by rw [List.length_append]; omega))).mono ?_
  rintro e w1 ⟨rfl, hS⟩
  simp only [List.set_cons_zero, Int.toNat_natCast] at hS
  clear HS
  have HS := Lib.hid hS
  clear hS
  go_wp2
  go_loopg [14] n (fun g y wr => ∃ k : Nat, k + g = n ∧ y = .int .i64 k ∧ St w0 wr (wrt pb (xs ++ sevens n ++ (L.take k).flatMap Acl.bytes) :: l))
  case atStart => exact ⟨0, by omega, rfl, by rw [List.take_zero, List.flatMap_nil, List.append_nil]; exact HS.out⟩
  case round =>
    obtain ⟨k, hkg, rfl, hS⟩ := hrel
    by_cases hlt : k < n
    · have hx : L[k]? = some (L[k]'(HN.out ▸ hlt)) := List.getElem?_eq_getElem _
      obtain ⟨t, hxx⟩ : ∃ x, L[k]'(HN.out ▸ hlt) = x := ⟨_, rfl⟩
      rw [hxx] at hx
      obtain ⟨b, o, rfl, hbl, hc⟩ := (hS.old HR.out).elem (k := 2) Acl.cells (fun _ => rfl) (by omega) hx
      have hft : bfits ((xs ++ sevens n ++ (L.take k).flatMap Acl.bytes ++ Acl.bytes t).length + 100) := HF.out.mono (by
        have h1 := flat_take_le Acl.bytes hx
        unfold listB
        simp only [List.length_append, HN.out] at h1 ⊢
        omega)
      have HX := Lib.hid hx
      have HFT := Lib.hid hft
      have HC : Hid (∀ j u, (Acl.cells t)[j]? = some u → wr.cell? ((⟨b, o + k * 2, none⟩ : Addr).add j) = some u) := Lib.hid (fun j u hj => by rw [add_none]; exact hc j u hj)
      have hS := hS.box2 #[.int .i64 0, .string ⟨#[]⟩] 146
      clear hx hxx hft hc
      go_wp2_with (first | ((with_reducible refine at_list ?_); refine wpList_load_chunk 2 _ Try.underlying146 rfl sizeAcl ⟨b, o + k * 2, none⟩ rfl t.cells rfl HC.out ?_) | ((with_reducible refine at_list ?_); refine wpList_store_whole 2 sizeAcl wr.heap.size rfl _ _ (hS.box 1 rfl) rfl t.cells rfl rfl (by kernel_rfl) ?_; intro w8 hg8 hM8 hz8; have hS := hS.rebox 1 rfl hg8 hM8; simp only [List.set_cons_succ, List.set_cons_zero] at hS; generalize wr.heap.size = tb at hS ⊢; clear hg8 hM8 hz8 HC) | ((with_reducible refine at_list ?_); refine wpList_load_chunk 2 _ Try.underlying146 rfl sizeAcl ⟨tb, 0, none⟩ rfl t.cells rfl (box_chunk (hS.box 1 rfl)) ?_))
      refine (layAcl_st hS t (HO.out t (List.mem_of_getElem? HX.out)) HFT.out).mono ?_
      clear hS
      rintro e w2 ⟨rfl, hS⟩
      have hS := hS.tail2
      go_wp2
      go_roundg (gk - 1)
      case measure => omega
      case rel =>
        refine ⟨k + 1, by omega, by simp, ?_⟩
        rw [flat_take_snoc Acl.bytes HX.out, ← List.append_assoc]
        exact hS
    · have hk : k = n := by omega
      clear hkg hlt
      rw [hk, List.take_of_length_le (by rw [HN.out]; exact Nat.le_refl _)] at hS
      go_wp2
      go_end0
      refine ⟨rfl, ?_⟩
      unfold listB
      rw [HN.out, ← List.append_assoc]
      exact hS

structure Txn where
  kind : Int
  path : ByteArray
  data : ByteArray
  acl : List Acl
  aclA : Option Addr
  aclC : Nat
  owner : Int
  number : Int
  err : Int
  subsA : Option Addr
  subsN : Nat
  subsC : Nat
def Txn.cells (x : Txn) : List Value := [.int .i64 x.kind, .string x.path, .string x.data, .slice x.aclA x.acl.length x.aclC, .int .i64 x.owner, .int .i64 x.number, .int .i64 x.err, .slice x.subsA x.subsN x.subsC]
def Txn.bytes (x : Txn) : List UInt8 := numB x.kind ++ txtB x.path ++ txtB x.data ++ listB Acl.bytes x.acl ++ numsB [x.owner, x.number, x.err]
def Txn.ok (w : World) (x : Txn) : Prop := i64 x.kind ∧ i64 x.owner ∧ i64 x.number ∧ i64 x.err ∧ Rd w 2 x.aclA x.acl.length x.aclC (x.acl.flatMap Acl.cells) ∧ (∀ a ∈ x.acl, Acl.ok w a)
theorem sizeTxn : (Try.prog.info? 26).map (·.size) = some 8 := by kernel_rfl

set_option maxHeartbeats 2000000 in
theorem layPart_st {w0 w : World} {l : List Thing} {pb : Nat} {xs : List UInt8} (h : St w0 w (wrt pb xs :: l)) (x : Txn) (hx : x.ok w0) (hf : bfits ((xs ++ x.bytes).length + 100)) :
    Calls Try.prog 52 #[.pointer (some ⟨pb, 0, none⟩), .agg x.cells.toArray] w (StPost (.tuple #[]) w0 (wrt pb (xs ++ x.bytes) :: l)) := by
  have hS := h.box2 #[.int .i64 x.kind, .string x.path, .string x.data, .slice x.aclA x.acl.length x.aclC, .int .i64 x.owner, .int .i64 x.number, .int .i64 x.err, .slice x.subsA x.subsN x.subsC] 26
  have hz0 : (w.alloc (.cells #[.int .i64 x.kind, .string x.path, .string x.data, .slice x.aclA x.acl.length x.aclC, .int .i64 x.owner, .int .i64 x.number, .int .i64 x.err, .slice x.subsA x.subsN x.subsC] 26)).heap.size = w.heap.size + 1 := World.size_alloc ..
  have HX := Lib.hid hx
  have HF := Lib.hid hf
  simp only [Txn.cells]
  clear h hx hf
  go_enter Try.func52, Try.ntmps52
  go_wp2_with fail
  generalize w.alloc (.cells #[.int .i64 x.kind, .string x.path, .string x.data, .slice x.aclA x.acl.length x.aclC, .int .i64 x.owner, .int .i64 x.number, .int .i64 x.err, .slice x.subsA x.subsN x.subsC] 26) = W at *
  generalize w.heap.size = tb at *
  refine (wnum_st hS 0 rfl x.kind HX.out.1 (HF.out.mono (by unfold Txn.bytes; simp only [List.length_append, txtB, numB, toList_size]; omega))).mono ?_
  clear hS hz0
  rintro e w1 ⟨rfl, hS⟩
  simp only [List.set_cons_zero] at hS
  have z0 := heap_lt (hS.box 1 rfl)
  have c1 : w1.cell? ⟨tb, 1, none⟩ = some (.string x.path) := blk_cell (hS.box 1 rfl) 1 _ rfl
  go_wp2_with fail
  refine (wtext_st hS 0 rfl x.path (HF.out.mono (by unfold Txn.bytes; simp only [List.length_append, txtB, numB, toList_size]; omega))).mono ?_
  clear hS z0 c1
  rintro e w2 ⟨rfl, hS⟩
  simp only [List.set_cons_zero] at hS
  have z0 := heap_lt (hS.box 1 rfl)
  have c2 : w2.cell? ⟨tb, 2, none⟩ = some (.string x.data) := blk_cell (hS.box 1 rfl) 2 _ rfl
  go_wp2_with fail
  refine (wtext_st hS 0 rfl x.data (HF.out.mono (by unfold Txn.bytes; simp only [List.length_append, txtB, numB, toList_size]; omega))).mono ?_
  clear hS z0 c2
  rintro e w3 ⟨rfl, hS⟩
  simp only [List.set_cons_zero] at hS
  have z0 := heap_lt (hS.box 1 rfl)
  have c3 : w3.cell? ⟨tb, 3, none⟩ = some (.slice x.aclA x.acl.length x.aclC) := blk_cell (hS.box 1 rfl) 3 _ rfl
  go_wp2_with fail
  refine (listAcl_st hS x.aclA x.aclC x.acl HX.out.2.2.2.2.1 HX.out.2.2.2.2.2 (HF.out.mono (by unfold Txn.bytes; simp only [List.length_append, txtB, numB, toList_size]; omega))).mono ?_
  clear hS z0 c3
  rintro e w4 ⟨rfl, hS⟩
  have z0 := heap_lt (hS.box 1 rfl)
  have c4 : w4.cell? ⟨tb, 4, none⟩ = some (.int .i64 x.owner) := blk_cell (hS.box 1 rfl) 4 _ rfl
  have c5 : w4.cell? ⟨tb, 5, none⟩ = some (.int .i64 x.number) := blk_cell (hS.box 1 rfl) 5 _ rfl
  have c6 : w4.cell? ⟨tb, 6, none⟩ = some (.int .i64 x.err) := blk_cell (hS.box 1 rfl) 6 _ rfl
  go_wp2_with fail
  have hS := hS.slice2 #[.int .i64 x.owner, .int .i64 x.number, .int .i64 x.err] 3 1 3 rfl (by unfold maxLen; omega)
  refine (numbers_st hS 0 1 rfl _ 3 3 [x.owner, x.number, x.err] rfl (by omega) rfl (by intro t ht; simp only [List.mem_cons, List.not_mem_nil, or_false] at ht; rcases ht with rfl | rfl | rfl <;> first | exact HX.out.2.1 | exact HX.out.2.2.1 | exact HX.out.2.2.2.1) (HF.out.mono (by unfold Txn.bytes; simp only [List.length_append, txtB, numB, toList_size]; omega)) (by omega)).mono ?_
  clear hS z0 c4 c5 c6
  rintro e w5 ⟨rfl, hS⟩
  simp only [List.set_cons_zero] at hS
  have hS := hS.tail2
  go_wp2
  go_end0
  refine ⟨rfl, ?_⟩
  have e : xs ++ x.bytes = xs ++ (numB x.kind) ++ (txtB x.path) ++ (txtB x.data) ++ (listB Acl.bytes x.acl) ++ (numsB [x.owner, x.number, x.err]) := by simp only [Txn.bytes, List.append_assoc]
  rw [e]
  exact hS.tail2

set_option maxHeartbeats 2000000 in
theorem listTxn_st {w0 w : World} {l : List Thing} {pb : Nat} {xs : List UInt8} (h : St w0 w (wrt pb xs :: l)) (a : Option Addr) (cap : Nat) (L : List Txn) (hr : Rd w0 8 a L.length cap (L.flatMap Txn.cells)) (hok : ∀ x ∈ L, Txn.ok w0 x) (hf : bfits ((xs ++ listB Txn.bytes L).length + 100)) :
    Calls Try.prog 53 #[.pointer (some ⟨pb, 0, none⟩), .slice a L.length cap, .func (.func 52) #[] #[]] w (StPost (.tuple #[]) w0 (wrt pb (xs ++ listB Txn.bytes L) :: l)) := by
  obtain ⟨n, hn⟩ : ∃ n, L.length = n := ⟨_, rfl⟩
  rw [hn] at hr ⊢
  have hl63 : n ≤ 2 ^ 63 - 1 := by have := hr.2.1; have := hr.2.2.1; unfold maxLen at this; omega
  have HN := Lib.hid hn
  have HR := Lib.hid hr
  have HF := Lib.hid hf
  have HS := Lib.hid h
  have HO := Lib.hid hok
  clear h hn hr hf hok
  go_enter Try.func53, Try.ntmps53
  go_wp2_with fail
  refine (wcount_st HS.out 0 rfl (n : Int) (by omega) (HF.out.mono (by rw [List.length_append]; omega))).mono ?_
  rintro e w1 ⟨rfl, hS⟩
  simp only [List.set_cons_zero, Int.toNat_natCast] at hS
  clear HS
  have HS := Lib.hid hS
  clear hS
  go_wp2
  go_loopg [14] n (fun g y wr => ∃ k : Nat, k + g = n ∧ y = .int .i64 k ∧ St w0 wr (wrt pb (xs ++ sevens n ++ (L.take k).flatMap Txn.bytes) :: l))
  case atStart => exact ⟨0, by omega, rfl, by rw [List.take_zero, List.flatMap_nil, List.append_nil]; exact HS.out⟩
  case round =>
    obtain ⟨k, hkg, rfl, hS⟩ := hrel
    by_cases hlt : k < n
    · have hx : L[k]? = some (L[k]'(HN.out ▸ hlt)) := List.getElem?_eq_getElem _
      obtain ⟨t, hxx⟩ : ∃ x, L[k]'(HN.out ▸ hlt) = x := ⟨_, rfl⟩
      rw [hxx] at hx
      obtain ⟨b, o, rfl, hbl, hc⟩ := (hS.old HR.out).elem (k := 8) Txn.cells (fun _ => rfl) (by omega) hx
      have hft : bfits ((xs ++ sevens n ++ (L.take k).flatMap Txn.bytes ++ Txn.bytes t).length + 100) := HF.out.mono (by
        have h1 := flat_take_le Txn.bytes hx
        unfold listB
        simp only [List.length_append, HN.out] at h1 ⊢
        omega)
      have HX := Lib.hid hx
      have HFT := Lib.hid hft
      have HC : Hid (∀ j u, (Txn.cells t)[j]? = some u → wr.cell? ((⟨b, o + k * 8, none⟩ : Addr).add j) = some u) := Lib.hid (fun j u hj => by rw [add_none]; exact hc j u hj)
      have hS := hS.box2 #[.int .i64 0, .string ⟨#[]⟩, .string ⟨#[]⟩, .slice none 0 0, .int .i64 0, .int .i64 0, .int .i64 0, .slice none 0 0] 26
      clear hx hxx hft hc
      go_wp2_with (first | ((with_reducible refine at_list ?_); refine wpList_load_chunk 8 _ Try.underlying26 rfl sizeTxn ⟨b, o + k * 8, none⟩ rfl t.cells rfl HC.out ?_) | ((with_reducible refine at_list ?_); refine wpList_store_whole 8 sizeTxn wr.heap.size rfl _ _ (hS.box 1 rfl) rfl t.cells rfl rfl (by kernel_rfl) ?_; intro w8 hg8 hM8 hz8; have hS := hS.rebox 1 rfl hg8 hM8; simp only [List.set_cons_succ, List.set_cons_zero] at hS; generalize wr.heap.size = tb at hS ⊢; clear hg8 hM8 hz8 HC) | ((with_reducible refine at_list ?_); refine wpList_load_chunk 8 _ Try.underlying26 rfl sizeTxn ⟨tb, 0, none⟩ rfl t.cells rfl (box_chunk (hS.box 1 rfl)) ?_))
      refine (layPart_st hS t (HO.out t (List.mem_of_getElem? HX.out)) HFT.out).mono ?_
      clear hS
      rintro e w2 ⟨rfl, hS⟩
      have hS := hS.tail2
      go_wp2
      go_roundg (gk - 1)
      case measure => omega
      case rel =>
        refine ⟨k + 1, by omega, by simp, ?_⟩
        rw [flat_take_snoc Txn.bytes HX.out, ← List.append_assoc]
        exact hS
    · have hk : k = n := by omega
      clear hkg hlt
      rw [hk, List.take_of_length_le (by rw [HN.out]; exact Nat.le_refl _)] at hS
      go_wp2
      go_end0
      refine ⟨rfl, ?_⟩
      unfold listB
      rw [HN.out, ← List.append_assoc]
      exact hS

structure Op where
  kind : Int
  xid : Int
  path : ByteArray
  data : ByteArray
  acl : List Acl
  aclA : Option Addr
  aclC : Nat
  flags : Int
  version : Int
  watch : Bool
  subsA : Option Addr
  subsN : Nat
  subsC : Nat
  armedA : Option Addr
  armedN : Nat
  armedC : Nat
def Op.cells (x : Op) : List Value := [.int .i64 x.kind, .int .i64 x.xid, .string x.path, .string x.data, .slice x.aclA x.acl.length x.aclC, .int .i64 x.flags, .int .i64 x.version, .bool x.watch, .slice x.subsA x.subsN x.subsC, .slice x.armedA x.armedN x.armedC]
def Op.bytes (x : Op) : List UInt8 := numsB [x.kind, x.xid] ++ txtB x.path ++ txtB x.data ++ listB Acl.bytes x.acl ++ numsB [x.flags, x.version] ++ flagB x.watch
def Op.ok (w : World) (x : Op) : Prop := i64 x.kind ∧ i64 x.xid ∧ i64 x.flags ∧ i64 x.version ∧ Rd w 2 x.aclA x.acl.length x.aclC (x.acl.flatMap Acl.cells) ∧ (∀ a ∈ x.acl, Acl.ok w a)
theorem sizeOp : (Try.prog.info? 34).map (·.size) = some 10 := by kernel_rfl

set_option maxHeartbeats 2000000 in
theorem layOp_st {w0 w : World} {l : List Thing} {pb : Nat} {xs : List UInt8} (h : St w0 w (wrt pb xs :: l)) (x : Op) (hx : x.ok w0) (hf : bfits ((xs ++ x.bytes).length + 100)) :
    Calls Try.prog 78 #[.pointer (some ⟨pb, 0, none⟩), .agg x.cells.toArray] w (StPost (.tuple #[]) w0 (wrt pb (xs ++ x.bytes) :: l)) := by
  have hS := h.box2 #[.int .i64 x.kind, .int .i64 x.xid, .string x.path, .string x.data, .slice x.aclA x.acl.length x.aclC, .int .i64 x.flags, .int .i64 x.version, .bool x.watch, .slice x.subsA x.subsN x.subsC, .slice x.armedA x.armedN x.armedC] 34
  have hz0 : (w.alloc (.cells #[.int .i64 x.kind, .int .i64 x.xid, .string x.path, .string x.data, .slice x.aclA x.acl.length x.aclC, .int .i64 x.flags, .int .i64 x.version, .bool x.watch, .slice x.subsA x.subsN x.subsC, .slice x.armedA x.armedN x.armedC] 34)).heap.size = w.heap.size + 1 := World.size_alloc ..
  have HX := Lib.hid hx
  have HF := Lib.hid hf
  simp only [Op.cells]
  clear h hx hf
  go_enter Try.func78, Try.ntmps78
  go_wp2_with fail
  generalize w.alloc (.cells #[.int .i64 x.kind, .int .i64 x.xid, .string x.path, .string x.data, .slice x.aclA x.acl.length x.aclC, .int .i64 x.flags, .int .i64 x.version, .bool x.watch, .slice x.subsA x.subsN x.subsC, .slice x.armedA x.armedN x.armedC] 34) = W at *
  generalize w.heap.size = tb at *
  have hS := hS.slice2 #[.int .i64 x.kind, .int .i64 x.xid] 3 1 2 rfl (by unfold maxLen; omega)
  rw [hz0] at hS
  refine (numbers_st hS 0 1 rfl _ 2 2 [x.kind, x.xid] rfl (by omega) rfl (by intro t ht; simp only [List.mem_cons, List.not_mem_nil, or_false] at ht; rcases ht with rfl | rfl <;> first | exact HX.out.1 | exact HX.out.2.1) (HF.out.mono (by unfold Op.bytes; simp only [List.length_append, txtB, numB, toList_size]; omega)) (by omega)).mono ?_
  clear hS hz0
  rintro e w1 ⟨rfl, hS⟩
  simp only [List.set_cons_zero] at hS
  have hS := hS.tail2
  have z0 := heap_lt (hS.box 1 rfl)
  have c2 : w1.cell? ⟨tb, 2, none⟩ = some (.string x.path) := blk_cell (hS.box 1 rfl) 2 _ rfl
  go_wp2_with fail
  refine (wtext_st hS 0 rfl x.path (HF.out.mono (by unfold Op.bytes; simp only [List.length_append, txtB, numB, toList_size]; omega))).mono ?_
  clear hS z0 c2
  rintro e w2 ⟨rfl, hS⟩
  simp only [List.set_cons_zero] at hS
  have z0 := heap_lt (hS.box 1 rfl)
  have c3 : w2.cell? ⟨tb, 3, none⟩ = some (.string x.data) := blk_cell (hS.box 1 rfl) 3 _ rfl
  go_wp2_with fail
  refine (wtext_st hS 0 rfl x.data (HF.out.mono (by unfold Op.bytes; simp only [List.length_append, txtB, numB, toList_size]; omega))).mono ?_
  clear hS z0 c3
  rintro e w3 ⟨rfl, hS⟩
  simp only [List.set_cons_zero] at hS
  have z0 := heap_lt (hS.box 1 rfl)
  have c4 : w3.cell? ⟨tb, 4, none⟩ = some (.slice x.aclA x.acl.length x.aclC) := blk_cell (hS.box 1 rfl) 4 _ rfl
  go_wp2_with fail
  refine (listAcl_st hS x.aclA x.aclC x.acl HX.out.2.2.2.2.1 HX.out.2.2.2.2.2 (HF.out.mono (by unfold Op.bytes; simp only [List.length_append, txtB, numB, toList_size]; omega))).mono ?_
  clear hS z0 c4
  rintro e w4 ⟨rfl, hS⟩
  have z0 := heap_lt (hS.box 1 rfl)
  have c5 : w4.cell? ⟨tb, 5, none⟩ = some (.int .i64 x.flags) := blk_cell (hS.box 1 rfl) 5 _ rfl
  have c6 : w4.cell? ⟨tb, 6, none⟩ = some (.int .i64 x.version) := blk_cell (hS.box 1 rfl) 6 _ rfl
  go_wp2_with fail
  have hS := hS.slice2 #[.int .i64 x.flags, .int .i64 x.version] 3 1 2 rfl (by unfold maxLen; omega)
  refine (numbers_st hS 0 1 rfl _ 2 2 [x.flags, x.version] rfl (by omega) rfl (by intro t ht; simp only [List.mem_cons, List.not_mem_nil, or_false] at ht; rcases ht with rfl | rfl <;> first | exact HX.out.2.2.1 | exact HX.out.2.2.2.1) (HF.out.mono (by unfold Op.bytes; simp only [List.length_append, txtB, numB, toList_size]; omega)) (by omega)).mono ?_
  clear hS z0 c5 c6
  rintro e w5 ⟨rfl, hS⟩
  simp only [List.set_cons_zero] at hS
  have hS := hS.tail2
  have z0 := heap_lt (hS.box 1 rfl)
  have c7 : w5.cell? ⟨tb, 7, none⟩ = some (.bool x.watch) := blk_cell (hS.box 1 rfl) 7 _ rfl
  go_wp2_with fail
  refine (wflag_st hS 0 rfl x.watch (HF.out.mono (by unfold Op.bytes; simp only [List.length_append, txtB, numB, toList_size]; omega))).mono ?_
  clear hS z0 c7
  rintro e w6 ⟨rfl, hS⟩
  simp only [List.set_cons_zero] at hS
  go_wp2
  go_end0
  refine ⟨rfl, ?_⟩
  have e : xs ++ x.bytes = xs ++ (numsB [x.kind, x.xid]) ++ (txtB x.path) ++ (txtB x.data) ++ (listB Acl.bytes x.acl) ++ (numsB [x.flags, x.version]) ++ (flagB x.watch) := by simp only [Op.bytes, List.append_assoc]
  rw [e]
  exact hS.tail2

set_option maxHeartbeats 2000000 in
theorem listOp_st {w0 w : World} {l : List Thing} {pb : Nat} {xs : List UInt8} (h : St w0 w (wrt pb xs :: l)) (a : Option Addr) (cap : Nat) (L : List Op) (hr : Rd w0 10 a L.length cap (L.flatMap Op.cells)) (hok : ∀ x ∈ L, Op.ok w0 x) (hf : bfits ((xs ++ listB Op.bytes L).length + 100)) :
    Calls Try.prog 79 #[.pointer (some ⟨pb, 0, none⟩), .slice a L.length cap, .func (.func 78) #[] #[]] w (StPost (.tuple #[]) w0 (wrt pb (xs ++ listB Op.bytes L) :: l)) := by
  obtain ⟨n, hn⟩ : ∃ n, L.length = n := ⟨_, rfl⟩
  rw [hn] at hr ⊢
  have hl63 : n ≤ 2 ^ 63 - 1 := by have := hr.2.1; have := hr.2.2.1; unfold maxLen at this; omega
  have HN := Lib.hid hn
  have HR := Lib.hid hr
  have HF := Lib.hid hf
  have HS := Lib.hid h
  have HO := Lib.hid hok
  clear h hn hr hf hok
  go_enter Try.func79, Try.ntmps79
  go_wp2_with fail
  refine (wcount_st HS.out 0 rfl (n : Int) (by omega) (HF.out.mono (by rw [List.length_append]; omega))).mono ?_
  rintro e w1 ⟨rfl, hS⟩
  simp only [List.set_cons_zero, Int.toNat_natCast] at hS
  clear HS
  have HS := Lib.hid hS
  clear hS
  go_wp2
  go_loopg [14] n (fun g y wr => ∃ k : Nat, k + g = n ∧ y = .int .i64 k ∧ St w0 wr (wrt pb (xs ++ sevens n ++ (L.take k).flatMap Op.bytes) :: l))
  case atStart => exact ⟨0, by omega, rfl, by rw [List.take_zero, List.flatMap_nil, List.append_nil]; exact HS.out⟩
  case round =>
    obtain ⟨k, hkg, rfl, hS⟩ := hrel
    by_cases hlt : k < n
    · have hx : L[k]? = some (L[k]'(HN.out ▸ hlt)) := List.getElem?_eq_getElem _
      obtain ⟨t, hxx⟩ : ∃ x, L[k]'(HN.out ▸ hlt) = x := ⟨_, rfl⟩
      rw [hxx] at hx
      obtain ⟨b, o, rfl, hbl, hc⟩ := (hS.old HR.out).elem (k := 10) Op.cells (fun _ => rfl) (by omega) hx
      have hft : bfits ((xs ++ sevens n ++ (L.take k).flatMap Op.bytes ++ Op.bytes t).length + 100) := HF.out.mono (by
        have h1 := flat_take_le Op.bytes hx
        unfold listB
        simp only [List.length_append, HN.out] at h1 ⊢
        omega)
      have HX := Lib.hid hx
      have HFT := Lib.hid hft
      have HC : Hid (∀ j u, (Op.cells t)[j]? = some u → wr.cell? ((⟨b, o + k * 10, none⟩ : Addr).add j) = some u) := Lib.hid (fun j u hj => by rw [add_none]; exact hc j u hj)
      have hS := hS.box2 #[.int .i64 0, .int .i64 0, .string ⟨#[]⟩, .string ⟨#[]⟩, .slice none 0 0, .int .i64 0, .int .i64 0, .bool false, .slice none 0 0, .slice none 0 0] 34
      clear hx hxx hft hc
      go_wp2_with (first | ((with_reducible refine at_list ?_); refine wpList_load_chunk 10 _ Try.underlying34 rfl sizeOp ⟨b, o + k * 10, none⟩ rfl t.cells rfl HC.out ?_) | ((with_reducible refine at_list ?_); refine wpList_store_whole 10 sizeOp wr.heap.size rfl _ _ (hS.box 1 rfl) rfl t.cells rfl rfl (by kernel_rfl) ?_; intro w8 hg8 hM8 hz8; have hS := hS.rebox 1 rfl hg8 hM8; simp only [List.set_cons_succ, List.set_cons_zero] at hS; generalize wr.heap.size = tb at hS ⊢; clear hg8 hM8 hz8 HC) | ((with_reducible refine at_list ?_); refine wpList_load_chunk 10 _ Try.underlying34 rfl sizeOp ⟨tb, 0, none⟩ rfl t.cells rfl (box_chunk (hS.box 1 rfl)) ?_))
      refine (layOp_st hS t (HO.out t (List.mem_of_getElem? HX.out)) HFT.out).mono ?_
      clear hS
      rintro e w2 ⟨rfl, hS⟩
      have hS := hS.tail2
      go_wp2
      go_roundg (gk - 1)
      case measure => omega
      case rel =>
        refine ⟨k + 1, by omega, by simp, ?_⟩
        rw [flat_take_snoc Op.bytes HX.out, ← List.append_assoc]
        exact hS
    · have hk : k = n := by omega
      clear hkg hlt
      rw [hk, List.take_of_length_le (by rw [HN.out]; exact Nat.le_refl _)] at hS
      go_wp2
      go_end0
      refine ⟨rfl, ?_⟩
      unfold listB
      rw [HN.out, ← List.append_assoc]
      exact hS

structure Arm where
  kind : Int
  path : ByteArray
  czxid : Int
  mzxid : Int
  pzxid : Int
def Arm.cells (x : Arm) : List Value := [.int .i64 x.kind, .string x.path, .int .i64 x.czxid, .int .i64 x.mzxid, .int .i64 x.pzxid]
def Arm.bytes (x : Arm) : List UInt8 := numB x.kind ++ txtB x.path ++ numsB [x.czxid, x.mzxid, x.pzxid]
def Arm.ok (w : World) (x : Arm) : Prop := i64 x.kind ∧ i64 x.czxid ∧ i64 x.mzxid ∧ i64 x.pzxid
theorem sizeArm : (Try.prog.info? 130).map (·.size) = some 5 := by kernel_rfl

set_option maxHeartbeats 2000000 in
theorem layArmed_st {w0 w : World} {l : List Thing} {pb : Nat} {xs : List UInt8} (h : St w0 w (wrt pb xs :: l)) (x : Arm) (hx : x.ok w0) (hf : bfits ((xs ++ x.bytes).length + 100)) :
    Calls Try.prog 81 #[.pointer (some ⟨pb, 0, none⟩), .agg x.cells.toArray] w (StPost (.tuple #[]) w0 (wrt pb (xs ++ x.bytes) :: l)) := by
  have hS := h.box2 #[.int .i64 x.kind, .string x.path, .int .i64 x.czxid, .int .i64 x.mzxid, .int .i64 x.pzxid] 130
  have hz0 : (w.alloc (.cells #[.int .i64 x.kind, .string x.path, .int .i64 x.czxid, .int .i64 x.mzxid, .int .i64 x.pzxid] 130)).heap.size = w.heap.size + 1 := World.size_alloc ..
  have HX := Lib.hid hx
  have HF := Lib.hid hf
  simp only [Arm.cells]
  clear h hx hf
  go_enter Try.func81, Try.ntmps81
  go_wp2_with fail
  generalize w.alloc (.cells #[.int .i64 x.kind, .string x.path, .int .i64 x.czxid, .int .i64 x.mzxid, .int .i64 x.pzxid] 130) = W at *
  generalize w.heap.size = tb at *
  refine (wnum_st hS 0 rfl x.kind HX.out.1 (HF.out.mono (by unfold Arm.bytes; simp only [List.length_append, txtB, numB, toList_size]; omega))).mono ?_
  clear hS hz0
  rintro e w1 ⟨rfl, hS⟩
  simp only [List.set_cons_zero] at hS
  have z0 := heap_lt (hS.box 1 rfl)
  have c1 : w1.cell? ⟨tb, 1, none⟩ = some (.string x.path) := blk_cell (hS.box 1 rfl) 1 _ rfl
  go_wp2_with fail
  refine (wtext_st hS 0 rfl x.path (HF.out.mono (by unfold Arm.bytes; simp only [List.length_append, txtB, numB, toList_size]; omega))).mono ?_
  clear hS z0 c1
  rintro e w2 ⟨rfl, hS⟩
  simp only [List.set_cons_zero] at hS
  have z0 := heap_lt (hS.box 1 rfl)
  have c2 : w2.cell? ⟨tb, 2, none⟩ = some (.int .i64 x.czxid) := blk_cell (hS.box 1 rfl) 2 _ rfl
  have c3 : w2.cell? ⟨tb, 3, none⟩ = some (.int .i64 x.mzxid) := blk_cell (hS.box 1 rfl) 3 _ rfl
  have c4 : w2.cell? ⟨tb, 4, none⟩ = some (.int .i64 x.pzxid) := blk_cell (hS.box 1 rfl) 4 _ rfl
  go_wp2_with fail
  have hS := hS.slice2 #[.int .i64 x.czxid, .int .i64 x.mzxid, .int .i64 x.pzxid] 3 1 3 rfl (by unfold maxLen; omega)
  refine (numbers_st hS 0 1 rfl _ 3 3 [x.czxid, x.mzxid, x.pzxid] rfl (by omega) rfl (by intro t ht; simp only [List.mem_cons, List.not_mem_nil, or_false] at ht; rcases ht with rfl | rfl | rfl <;> first | exact HX.out.2.1 | exact HX.out.2.2.1 | exact HX.out.2.2.2) (HF.out.mono (by unfold Arm.bytes; simp only [List.length_append, txtB, numB, toList_size]; omega)) (by omega)).mono ?_
  clear hS z0 c2 c3 c4
  rintro e w3 ⟨rfl, hS⟩
  simp only [List.set_cons_zero] at hS
  have hS := hS.tail2
  go_wp2
  go_end0
  refine ⟨rfl, ?_⟩
  have e : xs ++ x.bytes = xs ++ (numB x.kind) ++ (txtB x.path) ++ (numsB [x.czxid, x.mzxid, x.pzxid]) := by simp only [Arm.bytes, List.append_assoc]
  rw [e]
  exact hS.tail2

set_option maxHeartbeats 2000000 in
theorem listArm_st {w0 w : World} {l : List Thing} {pb : Nat} {xs : List UInt8} (h : St w0 w (wrt pb xs :: l)) (a : Option Addr) (cap : Nat) (L : List Arm) (hr : Rd w0 5 a L.length cap (L.flatMap Arm.cells)) (hok : ∀ x ∈ L, Arm.ok w0 x) (hf : bfits ((xs ++ listB Arm.bytes L).length + 100)) :
    Calls Try.prog 80 #[.pointer (some ⟨pb, 0, none⟩), .slice a L.length cap, .func (.func 81) #[] #[]] w (StPost (.tuple #[]) w0 (wrt pb (xs ++ listB Arm.bytes L) :: l)) := by
  obtain ⟨n, hn⟩ : ∃ n, L.length = n := ⟨_, rfl⟩
  rw [hn] at hr ⊢
  have hl63 : n ≤ 2 ^ 63 - 1 := by have := hr.2.1; have := hr.2.2.1; unfold maxLen at this; omega
  have HN := Lib.hid hn
  have HR := Lib.hid hr
  have HF := Lib.hid hf
  have HS := Lib.hid h
  have HO := Lib.hid hok
  clear h hn hr hf hok
  go_enter Try.func80, Try.ntmps80
  go_wp2_with fail
  refine (wcount_st HS.out 0 rfl (n : Int) (by omega) (HF.out.mono (by rw [List.length_append]; omega))).mono ?_
  rintro e w1 ⟨rfl, hS⟩
  simp only [List.set_cons_zero, Int.toNat_natCast] at hS
  clear HS
  have HS := Lib.hid hS
  clear hS
  go_wp2
  go_loopg [14] n (fun g y wr => ∃ k : Nat, k + g = n ∧ y = .int .i64 k ∧ St w0 wr (wrt pb (xs ++ sevens n ++ (L.take k).flatMap Arm.bytes) :: l))
  case atStart => exact ⟨0, by omega, rfl, by rw [List.take_zero, List.flatMap_nil, List.append_nil]; exact HS.out⟩
  case round =>
    obtain ⟨k, hkg, rfl, hS⟩ := hrel
    by_cases hlt : k < n
    · have hx : L[k]? = some (L[k]'(HN.out ▸ hlt)) := List.getElem?_eq_getElem _
      obtain ⟨t, hxx⟩ : ∃ x, L[k]'(HN.out ▸ hlt) = x := ⟨_, rfl⟩
      rw [hxx] at hx
      obtain ⟨b, o, rfl, hbl, hc⟩ := (hS.old HR.out).elem (k := 5) Arm.cells (fun _ => rfl) (by omega) hx
      have hft : bfits ((xs ++ sevens n ++ (L.take k).flatMap Arm.bytes ++ Arm.bytes t).length + 100) := HF.out.mono (by
        have h1 := flat_take_le Arm.bytes hx
        unfold listB
        simp only [List.length_append, HN.out] at h1 ⊢
        omega)
      have HX := Lib.hid hx
      have HFT := Lib.hid hft
      have HC : Hid (∀ j u, (Arm.cells t)[j]? = some u → wr.cell? ((⟨b, o + k * 5, none⟩ : Addr).add j) = some u) := Lib.hid (fun j u hj => by rw [add_none]; exact hc j u hj)
      have hS := hS.box2 #[.int .i64 0, .string ⟨#[]⟩, .int .i64 0, .int .i64 0, .int .i64 0] 130
      clear hx hxx hft hc
      go_wp2_with (first | ((with_reducible refine at_list ?_); refine wpList_load_chunk 5 _ Try.underlying130 rfl sizeArm ⟨b, o + k * 5, none⟩ rfl t.cells rfl HC.out ?_) | ((with_reducible refine at_list ?_); refine wpList_store_whole 5 sizeArm wr.heap.size rfl _ _ (hS.box 1 rfl) rfl t.cells rfl rfl (by kernel_rfl) ?_; intro w8 hg8 hM8 hz8; have hS := hS.rebox 1 rfl hg8 hM8; simp only [List.set_cons_succ, List.set_cons_zero] at hS; generalize wr.heap.size = tb at hS ⊢; clear hg8 hM8 hz8 HC) | ((with_reducible refine at_list ?_); refine wpList_load_chunk 5 _ Try.underlying130 rfl sizeArm ⟨tb, 0, none⟩ rfl t.cells rfl (box_chunk (hS.box 1 rfl)) ?_))
      refine (layArmed_st hS t (HO.out t (List.mem_of_getElem? HX.out)) HFT.out).mono ?_
      clear hS
      rintro e w2 ⟨rfl, hS⟩
      have hS := hS.tail2
      go_wp2
      go_roundg (gk - 1)
      case measure => omega
      case rel =>
        refine ⟨k + 1, by omega, by simp, ?_⟩
        rw [flat_take_snoc Arm.bytes HX.out, ← List.append_assoc]
        exact hS
    · have hk : k = n := by omega
      clear hkg hlt
      rw [hk, List.take_of_length_le (by rw [HN.out]; exact Nat.le_refl _)] at hS
      go_wp2
      go_end0
      refine ⟨rfl, ?_⟩
      unfold listB
      rw [HN.out, ← List.append_assoc]
      exact hS
end Go.Proofs.Ytmbkbkfcbloafab
