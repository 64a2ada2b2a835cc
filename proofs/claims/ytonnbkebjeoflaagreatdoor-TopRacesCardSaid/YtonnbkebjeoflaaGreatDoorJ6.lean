/-
  Contracts and plain laws of WireE, WireF, WireG, WireL, Map, Grp.
  Conditions: each law states its own.
-/
import Derived.Deep.OwnRows
import Derived.Maps.OwnSet
import Derived.Maps.OwnOps
import Derived.Maps.Own
import Derived.Test.YtonnbkebjeoflaaGreatDoorJ5
set_option linter.unusedSectionVars false
set_option linter.unusedSimpArgs false
set_option linter.unusedVariables false
set_option maxRecDepth 100000
namespace Go.Proofs.YtonnbkebjeoflaaGreatDoor.W
open Go.RowKit
def rs (bs : List UInt8) (s : RS) : Nat → RS
 | 0 => s
 | k + 1 => (rnum bs (rs bs s k)).2
def rv (bs : List UInt8) (s : RS) (k : Nat) : Int := (rnum bs (rs bs s k)).1
structure Var where
 pb : Nat
 cells : Array Value
 ty : TypeId
def Var.thing (x : Var) : Thing := bx x.pb x.cells x.ty
def vset (B : List Var) (m o : Nat) (v : Value) : List Var :=
 match B[m]? with
 | some x => B.set m ⟨x.pb, x.cells.setIfInBounds o v, x.ty⟩
 | none => B
def vptr (B : List Var) (p : Nat × Nat) : Value := .pointer (some ⟨(B[p.1]?.map (·.pb)).getD 0, p.2, none⟩)
def vfill (B : List Var) (ps : List (Nat × Nat)) (f : Nat → Value) : Nat → List Var
 | 0 => B
 | k + 1 => vset (vfill B ps f k) (ps.getD k (0, 0)).1 (ps.getD k (0, 0)).2 (f k)
theorem vset_pb (B : List Var) (m o : Nat) (v : Value) (i : Nat) : ((vset B m o v)[i]?.map (·.pb)) = (B[i]?.map (·.pb)) := by
 unfold vset
 split
 ·next x hx =>
  rw [List.getElem?_set]
  split
  ·next h => subst h; rw [hx]; simp [(List.getElem?_eq_some_iff.1 hx).1]
  ·rfl
 ·rfl
theorem vset_size (B : List Var) (m o : Nat) (v : Value) (i : Nat) : ((vset B m o v)[i]?.map (·.cells.size)) = (B[i]?.map (·.cells.size)) := by
 unfold vset
 split
 ·next x hx =>
  rw [List.getElem?_set]
  split
  ·next h => subst h; rw [hx]; simp [(List.getElem?_eq_some_iff.1 hx).1]
  ·rfl
 ·rfl
theorem vfill_pb (B : List Var) (ps : List (Nat × Nat)) (f : Nat → Value) (i : Nat) : ∀ k, ((vfill B ps f k)[i]?.map (·.pb)) = (B[i]?.map (·.pb))
 | 0 => rfl
 | k + 1 => (vset_pb _ _ _ _ i).trans (vfill_pb B ps f i k)
theorem vfill_size (B : List Var) (ps : List (Nat × Nat)) (f : Nat → Value) (i : Nat) : ∀ k, ((vfill B ps f k)[i]?.map (·.cells.size)) = (B[i]?.map (·.cells.size))
 | 0 => rfl
 | k + 1 => (vset_size _ _ _ _ i).trans (vfill_size B ps f i k)
def Place (B : List Var) (p : Nat × Nat) : Prop := ∃ x, B[p.1]? = some x ∧ p.2 < x.cells.size
theorem _root_.Go.Proofs.YtonnbkebjeoflaaGreatDoor.Rd.val {w : World} {a : Option Addr} {n cap : Nat} {vs : List Value} (h : Rd w 1 a n cap vs) {k : Nat} {t : Value} (ht : vs[k]? = some t) :
 ∃ b o, a = some ⟨b, o, none⟩ ∧ b < w.heap.size ∧ w.cell? ⟨b, o + k, none⟩ = some t := by
 have h' : Rd w 1 a n cap (vs.flatMap (fun t => [t])) := by
  have e : vs.flatMap (fun t => [t]) = vs := by simp
  rw [e]; exact h
 obtain ⟨b, o, rfl, hb, hc⟩ := h'.elem (k := 1) (fun t => [t]) (fun _ => rfl) (by omega) ht
 exact ⟨b, o, rfl, hb, by have := hc 0 _ rfl; simpa using this⟩
theorem into_st {w0 w : World} {l : List Thing} {pb : Nat} {bs : List UInt8} {s : RS} {T : TypeId} {a : Option Addr} {n cap : Nat} (B : List Var) (ps : List (Nat × Nat))
 (h : St w0 w (rdt pb bs s :: sl T 1 a n cap (ps.map (vptr B)) :: (B.map Var.thing ++ l))) (hn : ps.length = n) (hp : ∀ p ∈ ps, Place B p) (hl : n ≤ 2 ^ 63 - 1) :
 Calls Tryz.prog 153 #[.pointer (some ⟨pb, 0, none⟩), .slice a n cap] w
  (StPost (.tuple #[]) w0 (rdt pb bs (rs bs s n) :: sl T 1 a n cap (ps.map (vptr B)) :: ((vfill B ps (fun k => .int .i64 (rv bs s k)) n).map Var.thing ++ l))) := by
 have HS := Lib.hid h
 have HN := Lib.hid hn
 have HP := Lib.hid hp
 clear h hn hp
 go_enter Tryz.func153, Tryz.ntmps153
 go_wp2
 go_loopg [5, 8] n (fun g x y wr => ∃ k : Nat, k + g = n ∧ y = .int .i64 k ∧ St w0 wr (rdt pb bs (rs bs s k) :: sl T 1 a n cap (ps.map (vptr B)) :: ((vfill B ps (fun k => .int .i64 (rv bs s k)) k).map Var.thing ++ l)))
 case atStart => exact ⟨0, by omega, rfl, HS.out⟩
 case round =>
  obtain ⟨k, hkg, rfl, hS⟩ := hrel
  by_cases hlt : k < n
  ·have hx : ps[k]? = some (ps[k]'(HN.out ▸ hlt)) := List.getElem?_eq_getElem _
   obtain ⟨p, hxx⟩ : ∃ x, ps[k]'(HN.out ▸ hlt) = x := ⟨_, rfl⟩
   rw [hxx] at hx
   obtain ⟨b, o, rfl, hbl, hc⟩ := (hS.slice 1 rfl).rd.val (t := vptr B p) (by rw [List.getElem?_map, hx]; rfl)
   obtain ⟨x, hx1, hx2⟩ := HP.out p (List.mem_of_getElem? hx)
   have e1 : vptr B p = .pointer (some ⟨x.pb, p.2, none⟩) := by unfold vptr; rw [hx1]; rfl
   rw [e1] at hc
   have hq := vfill_pb B ps (fun k => .int .i64 (rv bs s k)) p.1 k
   have hz := vfill_size B ps (fun k => .int .i64 (rv bs s k)) p.1 k
   rw [hx1] at hq hz
   obtain ⟨y, hy⟩ : ∃ y, (vfill B ps (fun k => .int .i64 (rv bs s k)) k)[p.1]? = some y := by
    cases h : (vfill B ps (fun k => .int .i64 (rv bs s k)) k)[p.1]? with
    | none => rw [h] at hq; simp at hq
    | some y => exact ⟨y, rfl⟩
   rw [hy] at hq hz
   simp only [Option.map_some, Option.some.injEq] at hq hz
   have HX := Lib.hid hx
   have HY := Lib.hid hy
   have HQ := Lib.hid hq
   have HZ := Lib.hid hz
   clear hx hxx hx1 e1 hy hq hz
   go_wp2_with fail
   refine (rnum_st hS 0 rfl).mono ?_
   clear hS
   rintro e w1 ⟨rfl, hS⟩
   simp only [List.set_cons_zero] at hS
   have hi : (rdt pb bs (rnum bs (rs bs s k)).2 :: sl T 1 (some ⟨b, o, none⟩) n cap (ps.map (vptr B)) :: ((vfill B ps (fun k => .int .i64 (rv bs s k)) k).map Var.thing ++ l))[p.1 + 2]? = some (bx x.pb y.cells y.ty) := by
    simp only [List.getElem?_cons_succ]
    rw [List.getElem?_append_left (by rw [List.length_map]; exact (List.getElem?_eq_some_iff.1 HY.out).1), List.getElem?_map, HY.out, ← HQ.out]
    rfl
   have hcell := blk_cell (hS.box _ hi) p.2 _ (Array.getElem?_eq_getElem (xs := y.cells) (i := p.2) (by rw [HZ.out]; exact hx2))
   have hlt2 := heap_lt (hS.box _ hi)
   have hfr := blk_free (hS.box _ hi) p.2
   have HI := Lib.hid hi
   clear hi
   go_wp2
   go_roundg (gk - 1)
   case measure => omega
   case rel =>
    refine ⟨k + 1, by omega, by simp, ?_⟩
    have hS2 := hS.set (p.1 + 2) HI.out p.2 (.int .i64 (rv bs s k))
    simp only [List.set_cons_succ] at hS2
    rw [List.set_append_left _ _ (by rw [List.length_map]; exact (List.getElem?_eq_some_iff.1 HY.out).1)] at hS2
    have e : vfill B ps (fun k => .int .i64 (rv bs s k)) (k + 1) = (vfill B ps (fun k => .int .i64 (rv bs s k)) k).set p.1 ⟨x.pb, y.cells.setIfInBounds p.2 (.int .i64 (rv bs s k)), y.ty⟩ := by
     show vset _ _ _ _ = _
     have e2 : ps.getD k (0, 0) = p := by rw [List.getD_eq_getElem?_getD, HX.out]; rfl
     rw [e2, ← HQ.out]
     unfold vset
     rw [HY.out]
    rw [e, List.map_set]
    exact hS2
  ·have hk : k = n := by omega
   clear hkg hlt
   rw [hk] at hS
   go_wp2
   go_end0
   exact ⟨rfl, hS⟩
theorem wtxt_st {w0 w : World} {l : List Thing} {pb : Nat} {bs : List UInt8} {s : RS} (h : St w0 w l) (i : Nat) (hi : l[i]? = some (rdt pb bs s)) :
 Calls Tryz.prog 227 #[.pointer (some ⟨pb, 0, none⟩)] w (StPost (.string ⟨(rtext bs 4096 s).1.toArray⟩) w0 (l.set i (rdt pb bs (rtext bs 4096 s).2))) := by
 go_enter Tryz.func227, Tryz.ntmps227
 go_wp2_with fail
 refine (rtext_st h i hi 4096 (by omega)).mono ?_
 rintro e w1 ⟨rfl, hS⟩
 go_wp2
 go_ret
 exact ⟨rfl, hS⟩
theorem results_cell {P : Program} {fn : Func} {p : Tmp} {ty : TypeId} (h : fn.results = #[.cell p ty]) (tmps : Array Value) (w : World) (g : Nat) (T : TypeId) (cs : Array Value) (fr : Nat × Nat) (d : TypeDesc)
 (hp : tmps.getD p undef = .pointer (some ⟨g, 0, none⟩)) (hg : w.heap[g]? = some (.cells cs T fr))
 (hu : P.underlying ty = some d) (hd : (match d with | .struct _ | .array _ _ => true | _ => false) = true) (hi : (P.info? ty).map (·.size) = some cs.size) :
 (results fn tmps).run P w = .ok (.agg cs) w := by
 have hp' : tmps[p]?.getD undef = .pointer (some ⟨g, 0, none⟩) := by simpa using hp
 simp [results, h, hp', asAddr, run_loadVar_row w g T ty cs fr d hg hu hd hi]
end Go.Proofs.YtonnbkebjeoflaaGreatDoor.W
namespace Go.Proofs.YtonnbkebjeoflaaGreatDoor.W
open Go.RowKit
theorem box_chunk {w : World} {pb : Nat} {cs : List Value} {T : TypeId} (h : w.heap[pb]? = some (.cells cs.toArray T (0, 0))) : ∀ j u, cs[j]? = some u → w.cell? ((⟨pb, 0, none⟩ : Addr).add j) = some u := by
 intro j u hj
 have e : (⟨pb, 0, none⟩ : Addr).add j = ⟨pb, j, none⟩ := by
  unfold Addr.add
  simp only [Nat.zero_add]
  split
  ·next h0 => subst h0; rfl
  ·rfl
 rw [e]
 exact blk_cell h j u (by simpa using hj)
end Go.Proofs.YtonnbkebjeoflaaGreatDoor.W
namespace Go.Proofs.YtonnbkebjeoflaaGreatDoor.W
open Go.RowKit
def numsR (bs : List UInt8) (s : RS) (n : Nat) : List Int := (List.range n).map (rv bs s)
end Go.Proofs.YtonnbkebjeoflaaGreatDoor.W
namespace Go.Proofs.YtonnbkebjeoflaaGreatDoor.W
open Go.RowKit
theorem _root_.Go.Proofs.YtonnbkebjeoflaaGreatDoor.St.swap {w0 w : World} {a b : Thing} {l : List Thing} (h : St w0 w (a :: b :: l)) : St w0 w (b :: a :: l) := h.perm (.swap _ _ _)
theorem _root_.Go.Proofs.YtonnbkebjeoflaaGreatDoor.St.box2 {w0 w : World} {t : Thing} {l : List Thing} (h : St w0 w (t :: l)) (c : Array Value) (T : TypeId) : St w0 (w.alloc (.cells c T)) (t :: bx w.heap.size c T :: l) := (h.box1 c T).swap
theorem _root_.Go.Proofs.YtonnbkebjeoflaaGreatDoor.St.slice2 {w0 w : World} {t : Thing} {l : List Thing} (h : St w0 w (t :: l)) (c : Array Value) (T : TypeId) (k n : Nat) (hn : c.size = n * k) (hm : n ≤ maxLen) :
 St w0 (w.alloc (.cells c T)) (t :: sl T k (some ⟨w.heap.size, 0, none⟩) n n c.toList :: l) := (h.slice1 c T k n hn hm).swap
theorem _root_.Go.Proofs.YtonnbkebjeoflaaGreatDoor.St.tail2 {w0 w : World} {a b : Thing} {l : List Thing} (h : St w0 w (a :: b :: l)) : St w0 w (a :: l) := h.swap.tail
def listB {α : Type} (f : α → List UInt8) (L : List α) : List UInt8 := sevens L.length ++ L.flatMap f
theorem flat_take_snoc {α β : Type} (f : α → List β) {L : List α} {k : Nat} {t : α} (h : L[k]? = some t) : (L.take (k + 1)).flatMap f = (L.take k).flatMap f ++ f t := by
 obtain ⟨hk, rfl⟩ := List.getElem?_eq_some_iff.1 h
 rw [List.take_succ_eq_append_getElem hk, List.flatMap_append]
 congr 1
 simp
theorem flat_take_le {α β : Type} (f : α → List β) {L : List α} {k : Nat} {t : α} (h : L[k]? = some t) : ((L.take k).flatMap f).length + (f t).length ≤ (L.flatMap f).length := by
 have e := flat_take_snoc f h
 have : L.flatMap f = (L.take (k + 1)).flatMap f ++ (L.drop (k + 1)).flatMap f := by rw [← List.flatMap_append, List.take_append_drop]
 rw [this, e]
 simp only [List.length_append]
 omega
structure Acl where
 perms : Int
 id : ByteArray
def Acl.cells (x : Acl) : List Value := [.int .i64 x.perms, .string x.id]
def Acl.bytes (x : Acl) : List UInt8 := numB x.perms ++ txtB x.id
def Acl.ok (w : World) (x : Acl) : Prop := i64 x.perms
theorem sizeAcl : (Tryz.prog.info? 46).map (·.size) = some 2 := by kernel_rfl
set_option maxHeartbeats 2000000 in
theorem layAcl_st {w0 w : World} {l : List Thing} {pb : Nat} {xs : List UInt8} (h : St w0 w (wrt pb xs :: l)) (x : Acl) (hx : x.ok w0) (hf : bfits ((xs ++ x.bytes).length + 100)) :
 Calls Tryz.prog 233 #[.pointer (some ⟨pb, 0, none⟩), .agg x.cells.toArray] w (StPost (.tuple #[]) w0 (wrt pb (xs ++ x.bytes) :: l)) := by
 have hS := h.box2 #[.int .i64 x.perms, .string x.id] 46
 have hz0 : (w.alloc (.cells #[.int .i64 x.perms, .string x.id] 46)).heap.size = w.heap.size + 1 := World.size_alloc ..
 have HX := Lib.hid hx
 have HF := Lib.hid hf
 simp only [Acl.cells]
 clear h hx hf
 go_enter Tryz.func233, Tryz.ntmps233
 go_wp2_with fail
 generalize w.alloc (.cells #[.int .i64 x.perms, .string x.id] 46) = W at *
 generalize w.heap.size = tb at *
 refine (wnum_st hS 0 rfl x.perms HX.out (HF.out.mono (by unfold Acl.bytes; simp only [List.length_append, txtB, numB, toList_size]; omega))).mono ?_
 clear hS hz0
 rintro e w1 ⟨rfl, hS⟩
 simp only [List.set_cons_zero] at hS
 have z0 := heap_lt (hS.box 1 rfl)
 have c1 : w1.cell? ⟨tb, 1, none⟩ = some (.string x.id) := blk_cell (hS.box 1 rfl) 1 _ rfl
 go_wp2_with fail
 refine (wtext_st hS 0 rfl x.id (HF.out.mono (by unfold Acl.bytes; simp only [List.length_append, txtB, numB, toList_size]; omega))).mono ?_
 clear hS z0 c1
 rintro e w2 ⟨rfl, hS⟩
 simp only [List.set_cons_zero] at hS
 go_wp2
 go_end0
 refine ⟨rfl, ?_⟩
 have e : xs ++ x.bytes = xs ++ (numB x.perms) ++ (txtB x.id) := by simp only [Acl.bytes, List.append_assoc]
 rw [e]
 exact hS.tail2
set_option maxHeartbeats 2000000 in
theorem listAcl_st {w0 w : World} {l : List Thing} {pb : Nat} {xs : List UInt8} (h : St w0 w (wrt pb xs :: l)) (a : Option Addr) (cap : Nat) (L : List Acl) (hr : Rd w0 2 a L.length cap (L.flatMap Acl.cells)) (hok : ∀ x ∈ L, Acl.ok w0 x) (hf : bfits ((xs ++ listB Acl.bytes L).length + 100)) :
 Calls Tryz.prog 232 #[.pointer (some ⟨pb, 0, none⟩), .slice a L.length cap, .func (.func 233) #[] #[]] w (StPost (.tuple #[]) w0 (wrt pb (xs ++ listB Acl.bytes L) :: l)) := by
 obtain ⟨n, hn⟩ : ∃ n, L.length = n := ⟨_, rfl⟩
 rw [hn] at hr ⊢
 have hl63 : n ≤ 2 ^ 63 - 1 := by have := hr.2.1; have := hr.2.2.1; unfold maxLen at this; omega
 have HN := Lib.hid hn
 have HR := Lib.hid hr
 have HF := Lib.hid hf
 have HS := Lib.hid h
 have HO := Lib.hid hok
 clear h hn hr hf hok
 go_enter Tryz.func232, Tryz.ntmps232
 go_wp2_with fail
 refine (wcount_st HS.out 0 rfl (n : Int) (by omega) (HF.out.mono (by rw [List.length_append]; omega))).mono ?_
 rintro e w1 ⟨rfl, hS⟩
 simp only [List.set_cons_zero, Int.toNat_natCast] at hS
 clear HS
 have HS := Lib.hid hS
 clear hS
 go_wp2
 go_loopg [14] n (fun g y wr => ∃ k : Nat, k + g = n ∧ y = .int .i64 k ∧ St w0 wr (wrt pb (xs ++ sevens n ++ (L.take k).flatMap Acl.bytes) :: l))
 case atStart => exact ⟨0, by omega, rfl, by rw [List.take_zero, List.flatMap_nil, List.append_nil]; exact HS.out⟩
 case round =>
  obtain ⟨k, hkg, rfl, hS⟩ := hrel
  by_cases hlt : k < n
  ·have hx : L[k]? = some (L[k]'(HN.out ▸ hlt)) := List.getElem?_eq_getElem _
   obtain ⟨t, hxx⟩ : ∃ x, L[k]'(HN.out ▸ hlt) = x := ⟨_, rfl⟩
   rw [hxx] at hx
   obtain ⟨b, o, rfl, hbl, hc⟩ := (hS.old HR.out).elem (k := 2) Acl.cells (fun _ => rfl) (by omega) hx
   have hft : bfits ((xs ++ sevens n ++ (L.take k).flatMap Acl.bytes ++ Acl.bytes t).length + 100) := HF.out.mono (by
    have h1 := flat_take_le Acl.bytes hx
    unfold listB
    simp only [List.length_append, HN.out] at h1 ⊢
    omega)
   have HX := Lib.hid hx
   have HFT := Lib.hid hft
   have HC : Hid (∀ j u, (Acl.cells t)[j]? = some u → wr.cell? ((⟨b, o + k * 2, none⟩ : Addr).add j) = some u) := Lib.hid (fun j u hj => by rw [add_none]; exact hc j u hj)
   have hS := hS.box2 #[.int .i64 0, .string ⟨#[]⟩] 46
   clear hx hxx hft hc
   go_wp2_with (first | ((with_reducible refine at_list ?_); refine wpList_load_chunk 2 _ Tryz.underlying46 rfl sizeAcl ⟨b, o + k * 2, none⟩ rfl t.cells rfl HC.out ?_) | ((with_reducible refine at_list ?_); refine wpList_store_whole 2 sizeAcl wr.heap.size rfl _ _ (hS.box 1 rfl) rfl t.cells rfl rfl (by kernel_rfl) ?_; intro w8 hg8 hM8 hz8; have hS := hS.rebox 1 rfl hg8 hM8; simp only [List.set_cons_succ, List.set_cons_zero] at hS; generalize wr.heap.size = tb at hS ⊢; clear hg8 hM8 hz8 HC) | ((with_reducible refine at_list ?_); refine wpList_load_chunk 2 _ Tryz.underlying46 rfl sizeAcl ⟨tb, 0, none⟩ rfl t.cells rfl (box_chunk (hS.box 1 rfl)) ?_))
   refine (layAcl_st hS t (HO.out t (List.mem_of_getElem? HX.out)) HFT.out).mono ?_
   clear hS
   rintro e w2 ⟨rfl, hS⟩
   have hS := hS.tail2
   go_wp2
   go_roundg (gk - 1)
   case measure => omega
   case rel =>
    refine ⟨k + 1, by omega, by simp, ?_⟩
    rw [flat_take_snoc Acl.bytes HX.out, ← List.append_assoc]
    exact hS
  ·have hk : k = n := by omega
   clear hkg hlt
   rw [hk, List.take_of_length_le (by rw [HN.out]; exact Nat.le_refl _)] at hS
   go_wp2
   go_end0
   refine ⟨rfl, ?_⟩
   unfold listB
   rw [HN.out, ← List.append_assoc]
   exact hS
structure Txn where
 kind : Int
 path : ByteArray
 data : ByteArray
 acl : List Acl
 aclA : Option Addr
 aclC : Nat
 owner : Int
 number : Int
 err : Int
 subsA : Option Addr
 subsN : Nat
 subsC : Nat
def Txn.cells (x : Txn) : List Value := [.int .i64 x.kind, .string x.path, .string x.data, .slice x.aclA x.acl.length x.aclC, .int .i64 x.owner, .int .i64 x.number, .int .i64 x.err, .slice x.subsA x.subsN x.subsC]
def Txn.bytes (x : Txn) : List UInt8 := numB x.kind ++ txtB x.path ++ txtB x.data ++ listB Acl.bytes x.acl ++ numsB [x.owner, x.number, x.err]
def Txn.ok (w : World) (x : Txn) : Prop := i64 x.kind ∧ i64 x.owner ∧ i64 x.number ∧ i64 x.err ∧ Rd w 2 x.aclA x.acl.length x.aclC (x.acl.flatMap Acl.cells) ∧ (∀ a ∈ x.acl, Acl.ok w a)
theorem sizeTxn : (Tryz.prog.info? 61).map (·.size) = some 8 := by kernel_rfl
set_option maxHeartbeats 2000000 in
theorem layPart_st {w0 w : World} {l : List Thing} {pb : Nat} {xs : List UInt8} (h : St w0 w (wrt pb xs :: l)) (x : Txn) (hx : x.ok w0) (hf : bfits ((xs ++ x.bytes).length + 100)) :
 Calls Tryz.prog 157 #[.pointer (some ⟨pb, 0, none⟩), .agg x.cells.toArray] w (StPost (.tuple #[]) w0 (wrt pb (xs ++ x.bytes) :: l)) := by
 have hS := h.box2 #[.int .i64 x.kind, .string x.path, .string x.data, .slice x.aclA x.acl.length x.aclC, .int .i64 x.owner, .int .i64 x.number, .int .i64 x.err, .slice x.subsA x.subsN x.subsC] 61
 have hz0 : (w.alloc (.cells #[.int .i64 x.kind, .string x.path, .string x.data, .slice x.aclA x.acl.length x.aclC, .int .i64 x.owner, .int .i64 x.number, .int .i64 x.err, .slice x.subsA x.subsN x.subsC] 61)).heap.size = w.heap.size + 1 := World.size_alloc ..
 have HX := Lib.hid hx
 have HF := Lib.hid hf
 simp only [Txn.cells]
 clear h hx hf
 go_enter Tryz.func157, Tryz.ntmps157
 go_wp2_with fail
 generalize w.alloc (.cells #[.int .i64 x.kind, .string x.path, .string x.data, .slice x.aclA x.acl.length x.aclC, .int .i64 x.owner, .int .i64 x.number, .int .i64 x.err, .slice x.subsA x.subsN x.subsC] 61) = W at *
 generalize w.heap.size = tb at *
 refine (wnum_st hS 0 rfl x.kind HX.out.1 (HF.out.mono (by unfold Txn.bytes; simp only [List.length_append, txtB, numB, toList_size]; omega))).mono ?_
 clear hS hz0
 rintro e w1 ⟨rfl, hS⟩
 simp only [List.set_cons_zero] at hS
 have z0 := heap_lt (hS.box 1 rfl)
 have c1 : w1.cell? ⟨tb, 1, none⟩ = some (.string x.path) := blk_cell (hS.box 1 rfl) 1 _ rfl
 go_wp2_with fail
 refine (wtext_st hS 0 rfl x.path (HF.out.mono (by unfold Txn.bytes; simp only [List.length_append, txtB, numB, toList_size]; omega))).mono ?_
 clear hS z0 c1
 rintro e w2 ⟨rfl, hS⟩
 simp only [List.set_cons_zero] at hS
 have z0 := heap_lt (hS.box 1 rfl)
 have c2 : w2.cell? ⟨tb, 2, none⟩ = some (.string x.data) := blk_cell (hS.box 1 rfl) 2 _ rfl
 go_wp2_with fail
 refine (wtext_st hS 0 rfl x.data (HF.out.mono (by unfold Txn.bytes; simp only [List.length_append, txtB, numB, toList_size]; omega))).mono ?_
 clear hS z0 c2
 rintro e w3 ⟨rfl, hS⟩
 simp only [List.set_cons_zero] at hS
 have z0 := heap_lt (hS.box 1 rfl)
 have c3 : w3.cell? ⟨tb, 3, none⟩ = some (.slice x.aclA x.acl.length x.aclC) := blk_cell (hS.box 1 rfl) 3 _ rfl
 go_wp2_with fail
 refine (listAcl_st hS x.aclA x.aclC x.acl HX.out.2.2.2.2.1 HX.out.2.2.2.2.2 (HF.out.mono (by unfold Txn.bytes; simp only [List.length_append, txtB, numB, toList_size]; omega))).mono ?_
 clear hS z0 c3
 rintro e w4 ⟨rfl, hS⟩
 have z0 := heap_lt (hS.box 1 rfl)
 have c4 : w4.cell? ⟨tb, 4, none⟩ = some (.int .i64 x.owner) := blk_cell (hS.box 1 rfl) 4 _ rfl
 have c5 : w4.cell? ⟨tb, 5, none⟩ = some (.int .i64 x.number) := blk_cell (hS.box 1 rfl) 5 _ rfl
 have c6 : w4.cell? ⟨tb, 6, none⟩ = some (.int .i64 x.err) := blk_cell (hS.box 1 rfl) 6 _ rfl
 go_wp2_with fail
 have hS := hS.slice2 #[.int .i64 x.owner, .int .i64 x.number, .int .i64 x.err] 3 1 3 rfl (by unfold maxLen; omega)
 refine (numbers_st hS 0 1 rfl _ 3 3 [x.owner, x.number, x.err] rfl (by omega) rfl (by intro t ht; simp only [List.mem_cons, List.not_mem_nil, or_false] at ht; rcases ht with rfl | rfl | rfl <;> first | exact HX.out.2.1 | exact HX.out.2.2.1 | exact HX.out.2.2.2.1) (HF.out.mono (by unfold Txn.bytes; simp only [List.length_append, txtB, numB, toList_size]; omega)) (by omega)).mono ?_
 clear hS z0 c4 c5 c6
 rintro e w5 ⟨rfl, hS⟩
 simp only [List.set_cons_zero] at hS
 have hS := hS.tail2
 go_wp2
 go_end0
 refine ⟨rfl, ?_⟩
 have e : xs ++ x.bytes = xs ++ (numB x.kind) ++ (txtB x.path) ++ (txtB x.data) ++ (listB Acl.bytes x.acl) ++ (numsB [x.owner, x.number, x.err]) := by simp only [Txn.bytes, List.append_assoc]
 rw [e]
 exact hS.tail2
set_option maxHeartbeats 2000000 in
theorem listTxn_st {w0 w : World} {l : List Thing} {pb : Nat} {xs : List UInt8} (h : St w0 w (wrt pb xs :: l)) (a : Option Addr) (cap : Nat) (L : List Txn) (hr : Rd w0 8 a L.length cap (L.flatMap Txn.cells)) (hok : ∀ x ∈ L, Txn.ok w0 x) (hf : bfits ((xs ++ listB Txn.bytes L).length + 100)) :
 Calls Tryz.prog 158 #[.pointer (some ⟨pb, 0, none⟩), .slice a L.length cap, .func (.func 157) #[] #[]] w (StPost (.tuple #[]) w0 (wrt pb (xs ++ listB Txn.bytes L) :: l)) := by
 obtain ⟨n, hn⟩ : ∃ n, L.length = n := ⟨_, rfl⟩
 rw [hn] at hr ⊢
 have hl63 : n ≤ 2 ^ 63 - 1 := by have := hr.2.1; have := hr.2.2.1; unfold maxLen at this; omega
 have HN := Lib.hid hn
 have HR := Lib.hid hr
 have HF := Lib.hid hf
 have HS := Lib.hid h
 have HO := Lib.hid hok
 clear h hn hr hf hok
 go_enter Tryz.func158, Tryz.ntmps158
 go_wp2_with fail
 refine (wcount_st HS.out 0 rfl (n : Int) (by omega) (HF.out.mono (by rw [List.length_append]; omega))).mono ?_
 rintro e w1 ⟨rfl, hS⟩
 simp only [List.set_cons_zero, Int.toNat_natCast] at hS
 clear HS
 have HS := Lib.hid hS
 clear hS
 go_wp2
 go_loopg [14] n (fun g y wr => ∃ k : Nat, k + g = n ∧ y = .int .i64 k ∧ St w0 wr (wrt pb (xs ++ sevens n ++ (L.take k).flatMap Txn.bytes) :: l))
 case atStart => exact ⟨0, by omega, rfl, by rw [List.take_zero, List.flatMap_nil, List.append_nil]; exact HS.out⟩
 case round =>
  obtain ⟨k, hkg, rfl, hS⟩ := hrel
  by_cases hlt : k < n
  ·have hx : L[k]? = some (L[k]'(HN.out ▸ hlt)) := List.getElem?_eq_getElem _
   obtain ⟨t, hxx⟩ : ∃ x, L[k]'(HN.out ▸ hlt) = x := ⟨_, rfl⟩
   rw [hxx] at hx
   obtain ⟨b, o, rfl, hbl, hc⟩ := (hS.old HR.out).elem (k := 8) Txn.cells (fun _ => rfl) (by omega) hx
   have hft : bfits ((xs ++ sevens n ++ (L.take k).flatMap Txn.bytes ++ Txn.bytes t).length + 100) := HF.out.mono (by
    have h1 := flat_take_le Txn.bytes hx
    unfold listB
    simp only [List.length_append, HN.out] at h1 ⊢
    omega)
   have HX := Lib.hid hx
   have HFT := Lib.hid hft
   have HC : Hid (∀ j u, (Txn.cells t)[j]? = some u → wr.cell? ((⟨b, o + k * 8, none⟩ : Addr).add j) = some u) := Lib.hid (fun j u hj => by rw [add_none]; exact hc j u hj)
   have hS := hS.box2 #[.int .i64 0, .string ⟨#[]⟩, .string ⟨#[]⟩, .slice none 0 0, .int .i64 0, .int .i64 0, .int .i64 0, .slice none 0 0] 61
   clear hx hxx hft hc
   go_wp2_with (first | ((with_reducible refine at_list ?_); refine wpList_load_chunk 8 _ Tryz.underlying61 rfl sizeTxn ⟨b, o + k * 8, none⟩ rfl t.cells rfl HC.out ?_) | ((with_reducible refine at_list ?_); refine wpList_store_whole 8 sizeTxn wr.heap.size rfl _ _ (hS.box 1 rfl) rfl t.cells rfl rfl (by kernel_rfl) ?_; intro w8 hg8 hM8 hz8; have hS := hS.rebox 1 rfl hg8 hM8; simp only [List.set_cons_succ, List.set_cons_zero] at hS; generalize wr.heap.size = tb at hS ⊢; clear hg8 hM8 hz8 HC) | ((with_reducible refine at_list ?_); refine wpList_load_chunk 8 _ Tryz.underlying61 rfl sizeTxn ⟨tb, 0, none⟩ rfl t.cells rfl (box_chunk (hS.box 1 rfl)) ?_))
   refine (layPart_st hS t (HO.out t (List.mem_of_getElem? HX.out)) HFT.out).mono ?_
   clear hS
   rintro e w2 ⟨rfl, hS⟩
   have hS := hS.tail2
   go_wp2
   go_roundg (gk - 1)
   case measure => omega
   case rel =>
    refine ⟨k + 1, by omega, by simp, ?_⟩
    rw [flat_take_snoc Txn.bytes HX.out, ← List.append_assoc]
    exact hS
  ·have hk : k = n := by omega
   clear hkg hlt
   rw [hk, List.take_of_length_le (by rw [HN.out]; exact Nat.le_refl _)] at hS
   go_wp2
   go_end0
   refine ⟨rfl, ?_⟩
   unfold listB
   rw [HN.out, ← List.append_assoc]
   exact hS
end Go.Proofs.YtonnbkebjeoflaaGreatDoor.W
namespace Go.Proofs.YtonnbkebjeoflaaGreatDoor
open Go.RowKit Go.Maps
def raw (v : Value) : Option (DataW Value × List MemPlace) := some (.held v, [])
end Go.Proofs.YtonnbkebjeoflaaGreatDoor
namespace Go.Proofs.YtonnbkebjeoflaaGreatDoor
open Go.RowKit
theorem St.regrow {w0 w w' : World} {l : List Thing} (h : St w0 w l) (i : Nat) {E k n cap n' cap' : Nat} {a a' : Option Addr} {cs cs' : List Value} (hi : l[i]? = some (sl E k a n cap cs)) (hs : Sl w' E k a' n' cap' cs') (hm : Mod (fun x => own a = some x) w w')
 (hF : ∀ b, own a' = some b → own a = some b ∨ (w.heap.size ≤ b ∧ b < w'.heap.size)) : St w0 w' (l.set i (sl E k a' n' cap' cs')) := by
 obtain ⟨F1, ⟨hh, hF1⟩, hz, hk⟩ := h.at i hi
 exact hk w' (sl E k a' n' cap' cs') (fun x => own a' = some x) (hm.mono (fun x _ hx => (hF1 x).2 hx)) ⟨hs, fun _ => Iff.rfl⟩ (fun x hx => (hF x hx).imp (fun h => (hF1 x).2 h) (·.1))
theorem St.newSlice {w0 w w' : World} {l : List Thing} (h : St w0 w l) {E k n cap : Nat} {a : Option Addr} {cs : List Value} (hm : Mod (fun _ => False) w w') (hs : Sl w' E k a n cap cs) (hF : ∀ b, own a = some b → w.heap.size ≤ b) : St w0 w' (sl E k a n cap cs :: l) :=
 h.cons (F := fun x => own a = some x) hm ⟨hs, fun _ => Iff.rfl⟩ hF
theorem St.nilSlice {w0 w : World} {l : List Thing} (h : St w0 w l) (E k : Nat) : St w0 w (sl E k none 0 0 [] :: l) :=
 h.newSlice (Mod.refl _ _) (Sl.nil _ _ _) (fun b hb => by simp [own] at hb)
def grp (ts : List Thing) : Thing where
 lies w F := Side w ts F
 keep := by
  intro w w' F h hs hk
  have : ∀ (ts : List Thing) (F : Nat → Prop), Side w ts F → (∀ x, x < w.heap.size → F x → w'.heap[x]? = w.heap[x]?) → Side w' ts F := by
   intro ts
   induction ts with
   | nil => exact fun F h _ => h
   | cons t ts ih =>
     rintro F ⟨F1, F2, h1, h2, hd, hF⟩ hk
     exact ⟨F1, F2, t.keep h1 hs (fun x hx hf => hk x hx ((hF x).2 (.inl hf))), ih F2 h2 (fun x hx hf => hk x hx ((hF x).2 (.inr hf))), hd, hF⟩
  exact this ts F h hk
 below := fun h x hx => Side.lt h x hx
theorem Side.appendTo {w : World} : ∀ {l m : List Thing} {F G : Nat → Prop}, Side w l F → Side w m G → (∀ x, F x → ¬ G x) → ∃ H, Side w (l ++ m) H ∧ ∀ x, H x ↔ F x ∨ G x
 | [], m, F, G, h, hm, hd => ⟨G, hm, fun x => ⟨.inr, fun h' => h'.elim (fun h' => absurd h' (h x)) id⟩⟩
 | t :: l, m, F, G, ⟨F1, F2, h1, h2, hd2, hF⟩, hm, hd => by
   obtain ⟨H, hs, hH⟩ := Side.appendTo h2 hm (fun x hx => hd x ((hF x).2 (.inr hx)))
   refine ⟨fun x => F1 x ∨ H x, ⟨F1, H, h1, hs, fun x hx h => ?_, fun _ => Iff.rfl⟩, fun x => ?_⟩
   ·rcases (hH x).1 h with h' | h'
    ·exact hd2 x hx h'
    ·exact hd x ((hF x).2 (.inl hx)) h'
   ·show F1 x ∨ H x ↔ F x ∨ G x
    rw [hH, hF, or_assoc]
theorem Side.parts {w : World} : ∀ {l m : List Thing} {H : Nat → Prop}, Side w (l ++ m) H → ∃ F G, Side w l F ∧ Side w m G ∧ (∀ x, F x → ¬ G x) ∧ ∀ x, H x ↔ F x ∨ G x
 | [], m, H, h => ⟨fun _ => False, H, fun _ h => h, h, fun _ h => h.elim, fun x => by simp⟩
 | t :: l, m, H, ⟨F1, F2, h1, h2, hd, hF⟩ => by
   obtain ⟨F, G, hs, hm, hd2, hH⟩ := Side.parts h2
   refine ⟨fun x => F1 x ∨ F x, G, ⟨F1, F, h1, hs, fun x hx h => hd x hx ((hH x).2 (.inl h)), fun _ => Iff.rfl⟩, hm, fun x hx h => ?_, fun x => ?_⟩
   ·rcases hx with hx | hx
    ·exact hd x hx ((hH x).2 (.inr h))
    ·exact hd2 x hx h
   ·show H x ↔ (F1 x ∨ F x) ∨ G x
    rw [hF, hH, or_assoc]
theorem St.ungrp {w0 w : World} {ts l : List Thing} (h : St w0 w (grp ts :: l)) : St w0 w (ts ++ l) := by
 obtain ⟨h0, F, ⟨F1, F2, h1, h2, hd, hF⟩, hz⟩ := h
 obtain ⟨H, hs, hH⟩ := Side.appendTo (show Side w ts F1 from h1) h2 hd
 exact ⟨h0, H, hs, fun x hx => hz x ((hF x).2 ((hH x).1 hx))⟩
theorem St.regrp {w0 w : World} (ts : List Thing) {l : List Thing} (h : St w0 w (ts ++ l)) : St w0 w (grp ts :: l) := by
 obtain ⟨h0, H, hs, hz⟩ := h
 obtain ⟨F, G, h1, h2, hd, hH⟩ := Side.parts hs
 exact ⟨h0, H, ⟨F, G, h1, h2, hd, hH⟩, hz⟩
def some1 {α : Type} (t : α → Thing) : Thing where
 lies w F := ∃ a, (t a).lies w F
 keep := fun ⟨a, h⟩ hs hk => ⟨a, (t a).keep h hs hk⟩
 below := fun ⟨a, h⟩ x hx => (t a).below h x hx
theorem St.untell {w0 w : World} {α : Type} {t : α → Thing} {l : List Thing} (a : α) (h : St w0 w (t a :: l)) : St w0 w (some1 t :: l) := by
 obtain ⟨h0, F, ⟨F1, F2, h1, h2, hd, hF⟩, hz⟩ := h
 exact ⟨h0, F, ⟨F1, F2, ⟨a, h1⟩, h2, hd, hF⟩, hz⟩
theorem St.tell {w0 w : World} {α : Type} {t : α → Thing} {l : List Thing} (h : St w0 w (some1 t :: l)) : ∃ a, St w0 w (t a :: l) := by
 obtain ⟨h0, F, ⟨F1, F2, ⟨a, h1⟩, h2, hd, hF⟩, hz⟩ := h
 exact ⟨a, h0, F, ⟨F1, F2, h1, h2, hd, hF⟩, hz⟩
end Go.Proofs.YtonnbkebjeoflaaGreatDoor
