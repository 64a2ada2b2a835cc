/-
  Messages: package wire's PutMessage.
  Conditions: the lists lie in the world; the bytes fit.
-/
import Derived.Test.YtmbkbkfcbloafabWireO
import Derived.Test.YtmbkbkfcbloafabWireS
import Derived.Test.YtmbkbkfcbloafabWireL2
namespace Go.Proofs.Ytmbkbkfcbloafab
open Go.RowKit
set_option linter.unusedSectionVars false
set_option linter.unusedSimpArgs false
set_option linter.unusedVariables false
set_option maxRecDepth 100000

def intC (n : Int) : List Value := [.int .i64 n]
structure Msg where
  kind : Int
  epoch : Int
  zxid : Int
  number : Int
  session : Int
  marks : List Int
  marksA : Option Addr
  marksC : Nat
  data : ByteArray
  ents : List Ent
  entsA : Option Addr
  entsC : Nat
  q : Req
  ids : List ByteArray
  idsA : Option Addr
  idsC : Nat
def Msg.cells (x : Msg) : List Value := [.int .i64 x.kind, .int .i64 x.epoch, .int .i64 x.zxid, .int .i64 x.number, .int .i64 x.session, .slice x.marksA x.marks.length x.marksC, .string x.data, .slice x.entsA x.ents.length x.entsC, .int .i64 x.q.q.kind, .int .i64 x.q.q.xid, .string x.q.q.path, .string x.q.q.data, .slice x.q.q.aclA x.q.q.acl.length x.q.q.aclC, .int .i64 x.q.q.flags, .int .i64 x.q.q.version, .bool x.q.q.watch, .slice x.q.q.subsA x.q.q.subsN x.q.q.subsC, .slice x.q.q.armedA x.q.q.armedN x.q.q.armedC, .slice x.idsA x.ids.length x.idsC]
def Msg.bytes (x : Msg) : List UInt8 := numsB [x.kind, x.epoch, x.zxid, x.number, x.session] ++ listB numB x.marks ++ txtB x.data ++ listB Ent.bytes x.ents ++ x.q.bytes ++ listB txtB x.ids
structure Msg.ok (w : World) (x : Msg) : Prop where
  kind : i64 x.kind
  epoch : i64 x.epoch
  zxid : i64 x.zxid
  number : i64 x.number
  session : i64 x.session
  mrd : Rd w 1 x.marksA x.marks.length x.marksC (x.marks.flatMap intC)
  mall : ∀ t ∈ x.marks, i64 t
  erd : Rd w 11 x.entsA x.ents.length x.entsC (x.ents.flatMap Ent.cells)
  eall : ∀ t ∈ x.ents, Ent.ok w t
  q : x.q.ok w
  ird : Rd w 1 x.idsA x.ids.length x.idsC (x.ids.flatMap strC)
theorem sizeMsg : (Try.prog.info? 37).map (·.size) = some 19 := by kernel_rfl

theorem layNum_st {w0 w : World} {l : List Thing} {pb : Nat} {xs : List UInt8} (h : St w0 w (wrt pb xs :: l)) (s : Int) (hs : i64 s) (hf : bfits ((xs ++ numB s).length + 100)) :
    Calls Try.prog 55 #[.pointer (some ⟨pb, 0, none⟩), .int .i64 s] w (StPost (.tuple #[]) w0 (wrt pb (xs ++ numB s) :: l)) := by
  have HF := Lib.hid hf
  clear hf
  go_enter Try.func55, Try.ntmps55
  go_wp2_with fail
  refine (wnum_st h 0 rfl s hs (HF.out.mono (by simp only [List.length_append]; omega))).mono ?_
  rintro e w1 ⟨rfl, hS⟩
  go_wp2
  go_end0
  exact ⟨rfl, hS⟩

set_option maxHeartbeats 2000000 in
theorem listInt_st {w0 w : World} {l : List Thing} {pb : Nat} {xs : List UInt8} (h : St w0 w (wrt pb xs :: l)) (a : Option Addr) (cap : Nat) (L : List Int) (hr : Rd w0 1 a L.length cap (L.flatMap intC)) (hok : ∀ t ∈ L, i64 t) (hf : bfits ((xs ++ listB numB L).length + 100)) :
    Calls Try.prog 54 #[.pointer (some ⟨pb, 0, none⟩), .slice a L.length cap, .func (.func 55) #[] #[]] w (StPost (.tuple #[]) w0 (wrt pb (xs ++ listB numB L) :: l)) := by
  obtain ⟨n, hn⟩ : ∃ n, L.length = n := ⟨_, rfl⟩
  rw [hn] at hr ⊢
  have hl63 : n ≤ 2 ^ 63 - 1 := by have := hr.2.1; have := hr.2.2.1; unfold maxLen at this; omega
  have HN := Lib.hid hn
  have HR := Lib.hid hr
  have HF := Lib.hid hf
  have HS := Lib.hid h
  have HO := Lib.hid hok
  clear h hn hr hf hok
  go_enter Try.func54, Try.ntmps54
  go_wp2_with fail
  refine (wcount_st HS.out 0 rfl (n : Int) (by omega) (HF.out.mono (by rw [List.length_append]; omega))).mono ?_
  rintro e w1 ⟨rfl, hS⟩
  simp only [List.set_cons_zero, Int.toNat_natCast] at hS
  clear HS
  have HS := Lib.hid hS
  clear hS
  go_wp2
  go_loopg [14] n (fun g y wr => ∃ k : Nat, k + g = n ∧ y = .int .i64 k ∧ St w0 wr (wrt pb (xs ++ sevens n ++ (L.take k).flatMap numB) :: l))
  case atStart => exact ⟨0, by omega, rfl, by rw [List.take_zero, List.flatMap_nil, List.append_nil]; exact HS.out⟩
  case round =>
    obtain ⟨k, hkg, rfl, hS⟩ := hrel
    by_cases hlt : k < n
    · have hx : L[k]? = some (L[k]'(HN.out ▸ hlt)) := List.getElem?_eq_getElem _
      obtain ⟨t, hxx⟩ : ∃ x, L[k]'(HN.out ▸ hlt) = x := ⟨_, rfl⟩
      rw [hxx] at hx
      obtain ⟨b, o, rfl, hbl, hc⟩ := (hS.old HR.out).elem (k := 1) intC (fun _ => rfl) (by omega) hx
      have hft : bfits ((xs ++ sevens n ++ (L.take k).flatMap numB ++ numB t).length + 100) := HF.out.mono (by
        have h1 := flat_take_le numB hx
        unfold listB
        simp only [List.length_append, HN.out] at h1 ⊢
        omega)
      have HX := Lib.hid hx
      have HFT := Lib.hid hft
      have c0 : wr.cell? ⟨b, o + k, none⟩ = some (.int .i64 t) := by have := hc 0 _ rfl; simpa using this
      clear hx hxx hft hc
      go_wp2_with fail
      refine (layNum_st hS t (HO.out t (List.mem_of_getElem? HX.out)) HFT.out).mono ?_
      clear hS
      rintro e w2 ⟨rfl, hS⟩
      go_wp2
      go_roundg (gk - 1)
      case measure => omega
      case rel =>
        refine ⟨k + 1, by omega, by simp, ?_⟩
        rw [flat_take_snoc numB HX.out, ← List.append_assoc]
        exact hS
    · have hk : k = n := by omega
      clear hkg hlt
      rw [hk, List.take_of_length_le (by rw [HN.out]; exact Nat.le_refl _)] at hS
      go_wp2
      go_end0
      refine ⟨rfl, ?_⟩
      unfold listB
      rw [HN.out, ← List.append_assoc]
      exact hS

set_option maxHeartbeats 2000000 in
theorem listEnt_st {w0 w : World} {l : List Thing} {pb : Nat} {xs : List UInt8} (h : St w0 w (wrt pb xs :: l)) (a : Option Addr) (cap : Nat) (L : List Ent) (hr : Rd w0 11 a L.length cap (L.flatMap Ent.cells)) (hok : ∀ x ∈ L, Ent.ok w0 x) (hf : bfits ((xs ++ listB Ent.bytes L).length + 100)) :
    Calls Try.prog 57 #[.pointer (some ⟨pb, 0, none⟩), .slice a L.length cap, .func (.func 22) #[] #[]] w (StPost (.tuple #[]) w0 (wrt pb (xs ++ listB Ent.bytes L) :: l)) := by
  obtain ⟨n, hn⟩ : ∃ n, L.length = n := ⟨_, rfl⟩
  rw [hn] at hr ⊢
  have hl63 : n ≤ 2 ^ 63 - 1 := by have := hr.2.1; have := hr.2.2.1; unfold maxLen at this; omega
  have HN := Lib.hid hn
  have HR := Lib.hid hr
  have HF := Lib.hid hf
  have HS := Lib.hid h
  have HO := Lib.hid hok
  clear h hn hr hf hok
  go_enter Try.func57, Try.ntmps57
  go_wp2_with fail
  refine (wcount_st HS.out 0 rfl (n : Int) (by omega) (HF.out.mono (by rw [List.length_append]; omega))).mono ?_
  rintro e w1 ⟨rfl, hS⟩
  simp only [List.set_cons_zero, Int.toNat_natCast] at hS
  clear HS
  have HS := Lib.hid hS
  clear hS
  go_wp2
  go_loopg [14] n (fun g y wr => ∃ k : Nat, k + g = n ∧ y = .int .i64 k ∧ St w0 wr (wrt pb (xs ++ sevens n ++ (L.take k).flatMap Ent.bytes) :: l))
  case atStart => exact ⟨0, by omega, rfl, by rw [List.take_zero, List.flatMap_nil, List.append_nil]; exact HS.out⟩
  case round =>
    obtain ⟨k, hkg, rfl, hS⟩ := hrel
    by_cases hlt : k < n
    · have hx : L[k]? = some (L[k]'(HN.out ▸ hlt)) := List.getElem?_eq_getElem _
      obtain ⟨t, hxx⟩ : ∃ x, L[k]'(HN.out ▸ hlt) = x := ⟨_, rfl⟩
      rw [hxx] at hx
      obtain ⟨b, o, rfl, hbl, hc⟩ := (hS.old HR.out).elem (k := 11) Ent.cells (fun _ => rfl) (by omega) hx
      have hft : bfits ((xs ++ sevens n ++ (L.take k).flatMap Ent.bytes ++ Ent.bytes t).length + 100) := HF.out.mono (by
        have h1 := flat_take_le Ent.bytes hx
        unfold listB
        simp only [List.length_append, HN.out] at h1 ⊢
        omega)
      have HX := Lib.hid hx
      have HFT := Lib.hid hft
      have HC : Hid (∀ j u, (Ent.cells t)[j]? = some u → wr.cell? ((⟨b, o + k * 11, none⟩ : Addr).add j) = some u) := Lib.hid (fun j u hj => by rw [add_none]; exact hc j u hj)
      have hS := hS.box2 #[.int .i64 0, .int .i64 0, .int .i64 0, .int .i64 0, .string ⟨#[]⟩, .string ⟨#[]⟩, .slice none 0 0, .int .i64 0, .int .i64 0, .int .i64 0, .slice none 0 0] 28
      clear hx hxx hft hc
      go_wp2_with (first | ((with_reducible refine at_list ?_); refine wpList_load_chunk 11 _ Try.underlying28 rfl sizeEnt ⟨b, o + k * 11, none⟩ rfl t.cells rfl HC.out ?_) | ((with_reducible refine at_list ?_); refine wpList_store_whole 11 sizeEnt wr.heap.size rfl _ _ (hS.box 1 rfl) rfl t.cells rfl rfl (by kernel_rfl) ?_; intro w8 hg8 hM8 hz8; have hS := hS.rebox 1 rfl hg8 hM8; simp only [List.set_cons_succ, List.set_cons_zero] at hS; generalize wr.heap.size = tb at hS ⊢; clear hg8 hM8 hz8 HC) | ((with_reducible refine at_list ?_); refine wpList_load_chunk 11 _ Try.underlying28 rfl sizeEnt ⟨tb, 0, none⟩ rfl t.cells rfl (box_chunk (hS.box 1 rfl)) ?_))
      refine (layEntry_st hS t (HO.out t (List.mem_of_getElem? HX.out)) HFT.out).mono ?_
      clear hS
      rintro e w2 ⟨rfl, hS⟩
      have hS := hS.tail2
      go_wp2
      go_roundg (gk - 1)
      case measure => omega
      case rel =>
        refine ⟨k + 1, by omega, by simp, ?_⟩
        rw [flat_take_snoc Ent.bytes HX.out, ← List.append_assoc]
        exact hS
    · have hk : k = n := by omega
      clear hkg hlt
      rw [hk, List.take_of_length_le (by rw [HN.out]; exact Nat.le_refl _)] at hS
      go_wp2
      go_end0
      refine ⟨rfl, ?_⟩
      unfold listB
      rw [HN.out, ← List.append_assoc]
      exact hS

set_option maxHeartbeats 4000000 in
theorem layMessage_st {w0 w : World} {l : List Thing} {pb : Nat} {xs : List UInt8} (h : St w0 w (wrt pb xs :: l)) (x : Msg) (hx : x.ok w0) (hf : bfits ((xs ++ x.bytes).length + 100)) :
    Calls Try.prog 24 #[.pointer (some ⟨pb, 0, none⟩), .agg x.cells.toArray] w (StPost (.tuple #[]) w0 (wrt pb (xs ++ x.bytes) :: l)) := by
  have hS := h.box2 #[.int .i64 x.kind, .int .i64 x.epoch, .int .i64 x.zxid, .int .i64 x.number, .int .i64 x.session, .slice x.marksA x.marks.length x.marksC, .string x.data, .slice x.entsA x.ents.length x.entsC, .int .i64 x.q.q.kind, .int .i64 x.q.q.xid, .string x.q.q.path, .string x.q.q.data, .slice x.q.q.aclA x.q.q.acl.length x.q.q.aclC, .int .i64 x.q.q.flags, .int .i64 x.q.q.version, .bool x.q.q.watch, .slice x.q.q.subsA x.q.q.subsN x.q.q.subsC, .slice x.q.q.armedA x.q.q.armedN x.q.q.armedC, .slice x.idsA x.ids.length x.idsC] 37
  have hz0 : (w.alloc (.cells #[.int .i64 x.kind, .int .i64 x.epoch, .int .i64 x.zxid, .int .i64 x.number, .int .i64 x.session, .slice x.marksA x.marks.length x.marksC, .string x.data, .slice x.entsA x.ents.length x.entsC, .int .i64 x.q.q.kind, .int .i64 x.q.q.xid, .string x.q.q.path, .string x.q.q.data, .slice x.q.q.aclA x.q.q.acl.length x.q.q.aclC, .int .i64 x.q.q.flags, .int .i64 x.q.q.version, .bool x.q.q.watch, .slice x.q.q.subsA x.q.q.subsN x.q.q.subsC, .slice x.q.q.armedA x.q.q.armedN x.q.q.armedC, .slice x.idsA x.ids.length x.idsC] 37)).heap.size = w.heap.size + 1 := World.size_alloc ..
  have HX := Lib.hid hx
  have HF := Lib.hid hf
  simp only [Msg.cells]
  clear h hx hf
  go_enter Try.func24, Try.ntmps24
  go_wp2_with fail
  generalize w.alloc (.cells #[.int .i64 x.kind, .int .i64 x.epoch, .int .i64 x.zxid, .int .i64 x.number, .int .i64 x.session, .slice x.marksA x.marks.length x.marksC, .string x.data, .slice x.entsA x.ents.length x.entsC, .int .i64 x.q.q.kind, .int .i64 x.q.q.xid, .string x.q.q.path, .string x.q.q.data, .slice x.q.q.aclA x.q.q.acl.length x.q.q.aclC, .int .i64 x.q.q.flags, .int .i64 x.q.q.version, .bool x.q.q.watch, .slice x.q.q.subsA x.q.q.subsN x.q.q.subsC, .slice x.q.q.armedA x.q.q.armedN x.q.q.armedC, .slice x.idsA x.ids.length x.idsC] 37) = W at *
  generalize w.heap.size = tb at *
  have hS := hS.slice2 #[.int .i64 x.kind, .int .i64 x.epoch, .int .i64 x.zxid, .int .i64 x.number, .int .i64 x.session] 3 1 5 rfl (by unfold maxLen; omega)
  rw [hz0] at hS
  refine (numbers_st hS 0 1 rfl _ 5 5 [x.kind, x.epoch, x.zxid, x.number, x.session] rfl (by omega) rfl (by intro t ht; simp only [List.mem_cons, List.not_mem_nil, or_false] at ht; rcases ht with rfl | rfl | rfl | rfl | rfl <;> first | exact HX.out.kind | exact HX.out.epoch | exact HX.out.zxid | exact HX.out.number | exact HX.out.session) (HF.out.mono (by unfold Msg.bytes; simp only [List.length_append, txtB, numB, toList_size]; omega)) (by omega)).mono ?_
  clear hS hz0
  rintro e w1 ⟨rfl, hS⟩
  simp only [List.set_cons_zero] at hS
  have hS := hS.tail2
  have z0 := heap_lt (hS.box 1 rfl)
  have c5 := blk_cell (hS.box 1 rfl) 5 _ rfl
  go_wp2_with fail
  refine (listInt_st hS x.marksA x.marksC x.marks HX.out.mrd HX.out.mall (HF.out.mono (by unfold Msg.bytes; simp only [List.length_append, txtB, numB, toList_size]; omega))).mono ?_
  clear hS z0 c5
  rintro e w2 ⟨rfl, hS⟩
  have z0 := heap_lt (hS.box 1 rfl)
  have c6 := blk_cell (hS.box 1 rfl) 6 _ rfl
  go_wp2_with fail
  refine (wtext_st hS 0 rfl x.data (HF.out.mono (by unfold Msg.bytes; simp only [List.length_append, txtB, numB, toList_size]; omega))).mono ?_
  clear hS z0 c6
  rintro e w3 ⟨rfl, hS⟩
  simp only [List.set_cons_zero] at hS
  have z0 := heap_lt (hS.box 1 rfl)
  have c7 := blk_cell (hS.box 1 rfl) 7 _ rfl
  go_wp2_with fail
  refine (listEnt_st hS x.entsA x.entsC x.ents HX.out.erd HX.out.eall (HF.out.mono (by unfold Msg.bytes; simp only [List.length_append, txtB, numB, toList_size]; omega))).mono ?_
  clear hS z0 c7
  rintro e w4 ⟨rfl, hS⟩
  have z0 := heap_lt (hS.box 1 rfl)
  have HC : Hid (∀ j u, (x.q.cells)[j]? = some u → w4.cell? ((⟨tb, 8, none⟩ : Addr).add j) = some u) := Lib.hid (box_mid [.int .i64 x.kind, .int .i64 x.epoch, .int .i64 x.zxid, .int .i64 x.number, .int .i64 x.session, .slice x.marksA x.marks.length x.marksC, .string x.data, .slice x.entsA x.ents.length x.entsC] x.q.cells [.slice x.idsA x.ids.length x.idsC] (hS.box 1 rfl))
  go_wp2_with ((with_reducible refine at_list ?_); refine wpList_load_chunk 10 _ Try.underlying34 rfl sizeOp ⟨tb, 8, none⟩ rfl x.q.cells rfl HC.out ?_)
  refine (layRequest_st hS x.q HX.out.q (HF.out.mono (by unfold Msg.bytes; simp only [List.length_append, txtB, numB, toList_size]; omega))).mono ?_
  clear hS z0 HC
  rintro e w5 ⟨rfl, hS⟩
  have z0 := heap_lt (hS.box 1 rfl)
  have c18 := blk_cell (hS.box 1 rfl) 18 _ rfl
  go_wp2_with fail
  refine (listStr_st hS x.idsA x.idsC x.ids HX.out.ird (HF.out.mono (by unfold Msg.bytes; simp only [List.length_append, txtB, numB, toList_size]; omega))).mono ?_
  clear hS z0 c18
  rintro e w6 ⟨rfl, hS⟩
  go_wp2
  go_end0
  refine ⟨rfl, ?_⟩
  have e : xs ++ x.bytes = xs ++ numsB [x.kind, x.epoch, x.zxid, x.number, x.session] ++ listB numB x.marks ++ (sevens x.data.size ++ x.data.data.toList) ++ listB Ent.bytes x.ents ++ x.q.bytes ++ listB txtB x.ids := by simp only [Msg.bytes, txtB, List.append_assoc]
  rw [e]
  exact hS.tail2

theorem Msg.okmod {w w' : World} {x : Msg} (hx : x.ok w) (h : Mod (fun _ => False) w w') : x.ok w' :=
  ⟨hx.kind, hx.epoch, hx.zxid, hx.number, hx.session, hx.mrd.mod h (fun _ _ h => h), hx.mall, hx.erd.mod h (fun _ _ h => h), fun a ha => Ent.okmod (hx.eall a ha) h, Req.okmod hx.q h, hx.ird.mod h (fun _ _ h => h)⟩

set_option maxHeartbeats 4000000 in
theorem putMessage_any (x : Msg) (w : World) (hx : x.ok w) (hf : bfits (x.bytes.length + 100)) :
    Calls Try.prog 23 #[.agg x.cells.toArray, .func (.func 24) #[] #[]] w (TextPost x.bytes w) := by
  have hS := (St.start w).box1 x.cells.toArray 37
  have HX := Lib.hid hx
  have HF := Lib.hid hf
  simp only [Msg.cells] at hS ⊢
  clear hx hf
  go_enter Try.func23, Try.ntmps23
  go_wp2_with fail
  refine (wnew_st hS).mono ?_
  clear hS
  rintro e w1 ⟨pb, rfl, hS⟩
  generalize w.heap.size = tb at hS ⊢
  go_wp2_with ((with_reducible refine at_list ?_); refine wpList_load_chunk 19 _ Try.underlying37 rfl sizeMsg ⟨tb, 0, none⟩ rfl x.cells rfl (box_chunk (hS.box 1 rfl)) ?_)
  refine (layMessage_st hS x HX.out (HF.out.mono (by rw [List.nil_append]; exact Nat.le_refl _))).mono ?_
  clear hS
  rintro e w2 ⟨rfl, hS⟩
  go_wp2_with fail
  refine (wbytes_st hS 0 rfl).mono ?_
  rintro e w3 ⟨rfl, rfl⟩
  rw [List.nil_append]
  go_wp2
  go_ret
  exact ⟨rfl, hS.1⟩

theorem PutMessage_any (x : Msg) (w : World) (hx : x.ok w) (hf : bfits (x.bytes.length + 100)) :
    Calls Try.prog 8 #[.agg x.cells.toArray] w (TextPost x.bytes w) := by
  have hS := (St.start w).box1 x.cells.toArray 37
  have C : Hid (∀ w', Mod (fun _ => False) w w' → Calls Try.prog 23 #[.agg x.cells.toArray, .func (.func 24) #[] #[]] w' (TextPost x.bytes w')) := Lib.hid fun w' h => putMessage_any x w' (Msg.okmod hx h) hf
  simp only [Msg.cells] at hS C ⊢
  clear hx hf
  go_enter Try.func8, Try.ntmps8
  go_wp2_with ((with_reducible refine at_list ?_); refine wpList_load_chunk 19 _ Try.underlying37 rfl sizeMsg ⟨w.heap.size, 0, none⟩ rfl x.cells rfl (box_chunk (hS.box 0 rfl)) ?_)
  refine (C.out _ ((Mod.refl _ w).alloc _)).mono ?_
  rintro e w1 ⟨rfl, hM⟩
  go_wp2
  go_ret
  exact ⟨rfl, ((Mod.refl _ w).alloc _).then hM (fun _ _ h => h)⟩
end Go.Proofs.Ytmbkbkfcbloafab
