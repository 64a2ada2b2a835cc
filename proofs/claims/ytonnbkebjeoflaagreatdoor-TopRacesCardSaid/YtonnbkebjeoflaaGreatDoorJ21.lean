/-
  Contracts and plain laws of AclW, AclY, AclDig, PlainP, WatchB.
  Conditions: each law states its own.
-/
import Derived.Test.YtonnbkebjeoflaaGreatDoorJ3
import Derived.Test.YtonnbkebjeoflaaGreatDoorJ14
import Derived.Test.YtonnbkebjeoflaaGreatDoorJ18
import Derived.Test.YtonnbkebjeoflaaGreatDoorJ20
set_option linter.unusedSectionVars false
set_option linter.unusedSimpArgs false
set_option linter.unusedVariables false
set_option maxRecDepth 100000
namespace Go.Proofs.YtonnbkebjeoflaaGreatDoor.A
open Go.RowKit
def strC (s : ByteArray) : List Value := [.string s]
theorem _root_.Go.Proofs.YtonnbkebjeoflaaGreatDoor.Rd.str {w : World} {a : Option Addr} {n cap : Nat} {l : List ByteArray} (h : Rd w 1 a n cap (l.flatMap strC)) {i : Nat} {x : ByteArray} (hx : l[i]? = some x) :
 ∃ b o, a = some ⟨b, o, none⟩ ∧ b < w.heap.size ∧ w.cell? ⟨b, o + i, none⟩ = some (.string x) := by
 obtain ⟨b, o, rfl, hb, hc⟩ := h.elem (k := 1) strC (fun _ => rfl) (by omega) hx
 exact ⟨b, o, rfl, hb, by have := hc 0 _ rfl; simpa using this⟩
theorem _root_.Go.Proofs.YtonnbkebjeoflaaGreatDoor.Rd.le {w : World} {k : Nat} {a : Option Addr} {n cap : Nat} {cs : List Value} (h : Rd w k a n cap cs) : n ≤ 2 ^ 63 - 1 := by
 have := h.2.1; have := h.2.2.1; unfold maxLen at this; omega
theorem any_snoc {α : Type} (f : α → Bool) {L : List α} {k : Nat} {t : α} (h : L[k]? = some t) : (L.take (k + 1)).any f = ((L.take k).any f || f t) := by
 obtain ⟨hk, rfl⟩ := List.getElem?_eq_some_iff.1 h
 rw [List.take_succ_eq_append_getElem hk, List.any_append]
 simp
theorem any_yes {α : Type} (f : α → Bool) {L : List α} {k : Nat} {t : α} (h : L[k]? = some t) (hf : f t = true) : L.any f = true :=
 List.any_eq_true.2 ⟨t, List.mem_of_getElem? h, hf⟩
theorem str_beq (s t : ByteArray) : (s.toList == t.toList) = decide (t = s) := by
 rw [Bool.eq_iff_iff]
 simp only [beq_iff_eq, decide_eq_true_eq, ByteArray.toList_eq]
 exact ⟨fun h => (ByteArray.ext (Array.toList_inj.1 h)).symm, fun h => h ▸ rfl⟩
def among (ids : List ByteArray) (v : ByteArray) : Bool := ids.any fun x => decide (x = v)
theorem hits_among (ids : List ByteArray) (r : ARow) : hits ids r = (decide (r.2 = world) || among ids r.2) := rfl
set_option maxHeartbeats 1000000 in
theorem indexStr_any (a : Option Addr) (n cap : Nat) (l : List ByteArray) (v : ByteArray) (w : World) (hr : Rd w 1 a n cap (l.flatMap strC)) (hn : l.length = n) :
 Calls Tryz.prog 128 #[.slice a n cap, .string v] w fun e w' => ∃ i : Int, e = .returned (.int .i64 i) ∧ (decide (0 ≤ i) = among l v) ∧ w' = w := by
 have hl63 := hr.le
 have HR := Lib.hid hr
 have HN := Lib.hid hn
 clear hr hn
 go_enter Tryz.func128, Tryz.ntmps128
 go_wp2
 go_loopg [8] n (fun g y wr => ∃ k : Nat, k + g = n ∧ y = .int .i64 k ∧ wr = w ∧ among (l.take k) v = false)
 case atStart => exact ⟨0, by omega, rfl, rfl, by simp [among]⟩
 case round =>
  obtain ⟨k, hkg, rfl, rfl, hall⟩ := hrel
  by_cases hlt : k < n
  ·have hx : l[k]? = some (l[k]'(HN.out ▸ hlt)) := List.getElem?_eq_getElem _
   obtain ⟨x, hxx⟩ : ∃ x, l[k]'(HN.out ▸ hlt) = x := ⟨_, rfl⟩
   rw [hxx] at hx
   obtain ⟨b, o, rfl, hbl, c0⟩ := HR.out.str hx
   have HX := Lib.hid hx
   have HA := Lib.hid hall
   have hbq := str_beq v x
   clear hx hxx hall
   by_cases hv : x = v
   ·rw [decide_eq_true hv] at hbq
    go_wp2
    go_ret
    exact ⟨_, rfl, by rw [show among l v = true from any_yes _ HX.out (decide_eq_true hv)]; simp, rfl⟩
   ·rw [decide_eq_false hv] at hbq
    go_wp2
    go_roundg (gk - 1)
    case measure => omega
    case rel =>
     refine ⟨k + 1, by omega, by simp, rfl, ?_⟩
     have := any_snoc (fun x => decide (x = v)) HX.out
     rw [decide_eq_false hv, Bool.or_false] at this
     exact this.trans HA.out
  ·have hk : k = n := by omega
   have ha : among l v = false := by rw [← hall, hk, ← HN.out, List.take_length]
   clear hall
   go_wp2
   go_ret
   exact ⟨-1, rfl, by rw [ha]; rfl, rfl⟩
theorem contains_any (a : Option Addr) (n cap : Nat) (l : List ByteArray) (v : ByteArray) (w : World) (hr : Rd w 1 a n cap (l.flatMap strC)) (hn : l.length = n) :
 Calls Tryz.prog 63 #[.slice a n cap, .string v] w (RetPost (.bool (among l v)) w) := by
 have cI := indexStr_any a n cap l v w hr hn
 clear hr hn
 go_enter Tryz.func63, Tryz.ntmps63
 go_wp2_with (go_at_call 128; refine cI.mono ?_; rintro e w' ⟨i, rfl, hi, rfl⟩)
 go_ret
 exact ⟨by rw [← hi]; rfl, rfl⟩
theorem fold_snoc {α β : Type} (f : β → α → β) (z : β) {L : List α} {k : Nat} {t : α} (h : L[k]? = some t) : (L.take (k + 1)).foldl f z = f ((L.take k).foldl f z) t := by
 obtain ⟨hk, rfl⟩ := List.getElem?_eq_some_iff.1 h
 rw [List.take_succ_eq_append_getElem hk, List.foldl_append]
 rfl
set_option maxHeartbeats 2000000 in
theorem may_any (a : Option Addr) (n cap : Nat) (l : List ARow) (p : Int) (ia : Option Addr) (m icap : Nat) (ids : List ByteArray) (w : World)
 (hr : Rd w 2 a n cap (l.flatMap ARow.cells)) (hn : l.length = n) (hi : Rd w 1 ia m icap (ids.flatMap strC)) (hm : ids.length = m) :
 Calls Tryz.prog 213 #[.slice a n cap, .int .i64 p, .slice ia m icap] w (CopyPost (.bool (may l p ids)) w) := by
 have hl63 := hr.le
 have hC : ∀ (W : World) (v : ByteArray), Old w W → Calls Tryz.prog 63 #[.slice ia m icap, .string v] W (RetPost (.bool (among ids v)) W) :=
  fun W v hW => contains_any ia m icap ids v W (hi.mod hW (fun _ _ h => h)) hm
 have HR := Lib.hid hr
 have HN := Lib.hid hn
 have HCC := Lib.hid hC
 clear hr hn hi hm hC
 go_enter Tryz.func213, Tryz.ntmps213
 go_wp2
 go_loopg [7, 12] n (fun g x y wr => ∃ k : Nat, k + g = n ∧ y = .int .i64 k ∧ Old w wr ∧ x = .int .i64 ((l.take k).foldl (gives ids) 0))
 case atStart => exact ⟨0, by omega, rfl, Old.rfl' _, rfl⟩
 case round =>
  obtain ⟨k, hkg, rfl, hb, rfl⟩ := hrel
  by_cases hlt : k < n
  ·have hx : l[k]? = some (l[k]'(HN.out ▸ hlt)) := List.getElem?_eq_getElem _
   obtain ⟨x, hxx⟩ : ∃ x, l[k]'(HN.out ▸ hlt) = x := ⟨_, rfl⟩
   rw [hxx] at hx
   obtain ⟨g, s⟩ := x
   obtain ⟨b, o, rfl, hbl, c0, c1⟩ := (HR.out.mod hb (fun _ _ h => h)).row hx
   have hF := fold_snoc (gives ids) 0 hx
   have HF := Lib.hid hF
   have HC := Lib.hid (row_chunk c0 c1)
   clear hx hxx c0 c1 hF
   generalize (l.take k).foldl (gives ids) 0 = G at HF ⊢
   by_cases hw : s = world
   ·subst hw
    have hg : gives ids G (g, world) = bits .or .i64 G g := by
     rw [gives, if_pos]
     rw [hits_among]; simp
    have HG := Lib.hid hg
    clear hg
    go_wp2_with (first | ((with_reducible refine at_list ?_); refine wpList_load_chunk 2 _ Tryz.underlying46 rfl sizeR ⟨b, o + k * 2, none⟩ rfl (ARow.cells (g, ⟨#[119, 111, 114, 108, 100]⟩)) rfl HC.out ?_) | (refine wpList_store_whole 2 sizeR wr.heap.size rfl _ _ (heap_alloc_new wr _) rfl (ARow.cells (g, ⟨#[119, 111, 114, 108, 100]⟩)) rfl rfl (by kernel_rfl) ?_; intro w8 hb8 hm8 hz8; have q0 : w8.cell? ⟨wr.heap.size, 0, none⟩ = some (.int .i64 g) := blk_cell hb8 0 _ rfl; have q1 : w8.cell? ⟨wr.heap.size, 1, none⟩ = some (.string ⟨#[119, 111, 114, 108, 100]⟩) := blk_cell hb8 1 _ rfl; have hO : Old w w8 := (hb.alloc _).then hm8 (fun x hx h => by have := hb.size; omega); clear hb8 hm8 hz8; generalize wr.heap.size = nb at q0 q1 ⊢))
    go_roundg (gk - 1)
    case measure => omega
    case rel => exact ⟨k + 1, by omega, by simp, hO, by rw [HF.out, HG.out]⟩
   ·have hne : (s.toList == [119, 111, 114, 108, 100]) = false := toList_beq hw
    cases hv : among ids s
    ·have hg : gives ids G (g, s) = G := by
      rw [gives, if_neg]
      rw [hits_among]; simp [hw, hv]
     have HG := Lib.hid hg
     clear hg
     go_wp2_with (first | ((with_reducible refine at_list ?_); refine wpList_load_chunk 2 _ Tryz.underlying46 rfl sizeR ⟨b, o + k * 2, none⟩ rfl (ARow.cells (g, s)) rfl HC.out ?_) | (refine wpList_store_whole 2 sizeR wr.heap.size rfl _ _ (heap_alloc_new wr _) rfl (ARow.cells (g, s)) rfl rfl (by kernel_rfl) ?_; intro w8 hb8 hm8 hz8; have q0 : w8.cell? ⟨wr.heap.size, 0, none⟩ = some (.int .i64 g) := blk_cell hb8 0 _ rfl; have q1 : w8.cell? ⟨wr.heap.size, 1, none⟩ = some (.string s) := blk_cell hb8 1 _ rfl; have hO : Old w w8 := (hb.alloc _).then hm8 (fun x hx h => by have := hb.size; omega); have cC := HCC.out w8 s hO; rw [hv] at cC; clear hb8 hm8 hz8; generalize wr.heap.size = nb at q0 q1 ⊢) | (go_at_call 63; refine cC.mono ?_; rintro e w9 ⟨rfl, rfl⟩))
     go_roundg (gk - 1)
     case measure => omega
     case rel => exact ⟨k + 1, by omega, by simp, hO, by rw [HF.out, HG.out]⟩
    ·have hg : gives ids G (g, s) = bits .or .i64 G g := by
      rw [gives, if_pos]
      rw [hits_among]; simp [hv]
     have HG := Lib.hid hg
     clear hg
     go_wp2_with (first | ((with_reducible refine at_list ?_); refine wpList_load_chunk 2 _ Tryz.underlying46 rfl sizeR ⟨b, o + k * 2, none⟩ rfl (ARow.cells (g, s)) rfl HC.out ?_) | (refine wpList_store_whole 2 sizeR wr.heap.size rfl _ _ (heap_alloc_new wr _) rfl (ARow.cells (g, s)) rfl rfl (by kernel_rfl) ?_; intro w8 hb8 hm8 hz8; have q0 : w8.cell? ⟨wr.heap.size, 0, none⟩ = some (.int .i64 g) := blk_cell hb8 0 _ rfl; have q1 : w8.cell? ⟨wr.heap.size, 1, none⟩ = some (.string s) := blk_cell hb8 1 _ rfl; have hO : Old w w8 := (hb.alloc _).then hm8 (fun x hx h => by have := hb.size; omega); have cC := HCC.out w8 s hO; rw [hv] at cC; clear hb8 hm8 hz8; generalize wr.heap.size = nb at q0 q1 ⊢) | (go_at_call 63; refine cC.mono ?_; rintro e w9 ⟨rfl, rfl⟩))
     go_roundg (gk - 1)
     case measure => omega
     case rel => exact ⟨k + 1, by omega, by simp, hO, by rw [HF.out, HG.out]⟩
  ·have hk : k = n := by omega
   have ha : (l.take k).foldl (gives ids) 0 = given ids l := by rw [hk, ← HN.out, List.take_length]; rfl
   have hv : may l p ids = (decide (0 ≤ p) && decide (p ≤ 31) && decide (bits .andNot .i64 p (given ids l) = 0)) := rfl
   rw [ha]
   generalize given ids l = G at hv ⊢
   have HV := Lib.hid hv
   clear ha hv
   by_cases h1 : 0 ≤ p
   ·by_cases h2 : p ≤ 31
    ·go_wp2
     go_ret
     exact ⟨by rw [HV.out, decide_eq_true h1, decide_eq_true h2] <;> rfl, hb⟩
    ·go_wp2
     go_ret
     exact ⟨by rw [HV.out, decide_eq_false (show ¬ p ≤ 31 by omega), Bool.and_false, Bool.false_and] <;> rfl, hb⟩
   ·go_wp2
    go_ret
    exact ⟨by rw [HV.out, decide_eq_false (show ¬ 0 ≤ p by omega), Bool.false_and, Bool.false_and] <;> rfl, hb⟩
end Go.Proofs.YtonnbkebjeoflaaGreatDoor.A
namespace Go.Proofs.YtonnbkebjeoflaaGreatDoor.A
open Go.RowKit
def Tab (w : World) : Prop := w.cell? ⟨3, 15, none⟩ = some (.int .u8 4) ∧ 3 < w.heap.size
theorem Tab.old {w w' : World} (h : Tab w) (k : Old w w') : Tab w' := ⟨k.cell h.1 (fun h => h), Nat.lt_of_lt_of_le h.2 k.size⟩
def dgt (n : Nat) : UInt8 := if n < 10 then UInt8.ofNat (48 + n) else UInt8.ofNat (87 + n)
def lowD : Nat → Nat → List UInt8
 | _, 0 => []
 | n, j + 1 => lowD (n / 16) j ++ [dgt (n % 16)]
end Go.Proofs.YtonnbkebjeoflaaGreatDoor.A
namespace Go.Proofs.YtonnbkebjeoflaaGreatDoor.A
open Go.RowKit
def hstep (h : Int) (c : UInt8) : Int := bits .xor .u64 h (c.toNat : Int) * 1099511628211 % 18446744073709551616
def hsh (l : List UInt8) : Int := l.foldl hstep 14695981039346656037
def hshN (l : List UInt8) : Nat := (hsh l).toNat
def saltL (name secret : ByteArray) : List UInt8 := name.data.toList ++ 58 :: secret.data.toList
def idOf (name secret : ByteArray) : ByteArray := ⟨(name.data.toList ++ 58 :: lowD (hshN (saltL name secret)) 16).toArray⟩
end Go.Proofs.YtonnbkebjeoflaaGreatDoor.A
namespace Go.Proofs.YtonnbkebjeoflaaGreatDoor
def digestB (name secret : ByteArray) : ByteArray × Int := if A.isUserL name.data.toList = true then (A.idOf name secret, 0) else (⟨#[]⟩, 50)
structure Wt where
 kind : Int
 path : ByteArray
 who : Int
deriving DecidableEq
def kindsE (e : Int) : List Int := if e = 1 then [2] else if e = 2 then [1, 2, 3] else if e = 3 then [1, 2] else if e = 4 then [3] else []
def compactL : List Int → List Int
 | [] => []
 | [x] => [x]
 | x :: y :: l => if x = y then compactL (y :: l) else x :: compactL (y :: l)
def leI (x y : Int) : Bool := decide (x ≤ y)
namespace Watch
def hit (e : Evt) (x : Wt) : Bool := decide (x.path = e.path) && (kindsE e.kind).contains x.kind
def count (W : List Wt) (s : Int) : Nat := (W.filter fun x => decide (x.who = s)).length
def okW (k : Int) (p : ByteArray) : Bool := decide (1 ≤ k) && decide (k ≤ 3) && decide (checkB p = 0)
def add (W : List Wt) (s k : Int) (p : ByteArray) : List Wt × Int :=
 if s < 1 ∨ okW k p = false then (W, 1)
 else if ⟨k, p, s⟩ ∈ W then (W, 0)
 else if count W s = 64 then (W, 91)
 else (W ++ [⟨k, p, s⟩], 0)
def who (W : List Wt) (e : Evt) : List Int := compactL (((W.filter (hit e)).map Wt.who).mergeSort leI)
def left (W : List Wt) (e : Evt) : List Wt := W.filter fun x => !hit e x
def fire : List Wt → List Evt → List Wt × List (Int × Evt)
 | W, [] => (W, [])
 | W, e :: l => ((fire (left W e) l).1, (who W e).map (fun s => (s, e)) ++ (fire (left W e) l).2)
def drop (W : List Wt) (s : Int) : List Wt := W.filter fun x => decide (x.who ≠ s)
def since (t : Tree) (a : Armd) : Evt × Bool :=
 let s := t.stat a.path
 let there := t.is a.path
 if a.kind = 2 then (⟨1, a.path, s.czxid⟩, there)
 else if there = false ∨ s.czxid ≠ a.czxid then (⟨2, a.path, t.zxid⟩, true)
 else if a.kind = 3 then (⟨4, a.path, s.pzxid⟩, decide (s.pzxid ≠ a.pzxid))
 else (⟨3, a.path, s.mzxid⟩, decide (s.mzxid ≠ a.mzxid))
def arm (s : Int) (t : Tree) : List Armd → List Wt → List Evt → List Wt × List Evt
 | [], W, out => (W, out)
 | a :: l, W, out =>
   if okW a.kind a.path = false then arm s t l W out
   else if (since t a).2 = false then arm s t l (add W s a.kind a.path).1 out
   else if out.any (fun e => decide (e.kind = (since t a).1.kind ∧ e.path = (since t a).1.path ∧ e.zxid = (since t a).1.zxid)) then arm s t l W out
   else arm s t l W (out ++ [(since t a).1])
end Watch
structure En where
 zxid : Int
 session : Int
 xid : Int
 t : Tx2
structure Svc where
 tree : Tree
 watches : List Wt
 order : List En
 opened : Int
 ids : List (Int × List ByteArray)
 events : List (Int × List Evt)
namespace Svc
def new : Svc := ⟨Tree.new, [], [], 0, [], []⟩
def there (p : Svc) (s : Int) : Bool := (getK p.tree.sessions s).isSome
def idsOf (p : Svc) (s : Int) : List ByteArray := (getK p.ids s).getD []
def eventsOf (p : Svc) (s : Int) : List Evt := (getK p.events s).getD []
def tell (ev : List (Int × List Evt)) (x : Int × Evt) : List (Int × List Evt) := putK ev x.1 ((getK ev x.1).getD [] ++ [x.2])
def put (p : Svc) (session xid : Int) (t : Tx2) : Svc × En :=
 let e : En := ⟨4294967296 + p.order.length + 1, session, xid, t⟩
 let r := p.tree.apply e.zxid t.x t.subs
 let f := Watch.fire p.watches r.2.1
 let ev := f.2.foldl tell p.events
 (if t.x.kind = 6 then ⟨r.1, Watch.drop f.1 t.x.owner, p.order ++ [e], p.opened, delK p.ids t.x.owner, delK ev t.x.owner⟩
  else ⟨r.1, f.1, p.order ++ [e], p.opened, p.ids, ev⟩, e)
def clampT (n : Int) : Int := min (max n 4) 60
def openS (p : Svc) (timeout : Int) : Svc × Int × Int :=
 if 16 ≤ p.tree.sessions.length then (p, 0, 91)
 else
  let o := inc p.opened
  (({ p with opened := o }.put o 0 ⟨⟨5, ⟨#[]⟩, ⟨#[]⟩, [], o, clampT timeout, 0⟩, []⟩).1, o, 0)
def laidK (r : Rq1) (e : Int) : Int :=
 if r.watch = false then 0
 else if r.kind = 10 ∧ e = 60 then 2
 else if e ≠ 0 then 0
 else if r.kind = 9 ∨ r.kind = 10 then 1
 else if r.kind = 11 then 3 else 0
def readS (p : Svc) (s : Int) (r : Rq) : Svc × Tree.Rp1 :=
 if r.r.kind = 13 then
  let d := digestB r.r.path r.r.data
  if d.2 ≠ 0 ∨ A.among (p.idsOf s) d.1 = true then (p, { Tree.rp0 with err := d.2 })
  else if 16 ≤ (p.idsOf s).length then (p, { Tree.rp0 with err := 1 })
  else ({ p with ids := putK p.ids s (p.idsOf s ++ [d.1]) }, Tree.rp0)
 else if r.r.kind = 14 then
  let a := Watch.arm s p.tree r.armed p.watches []
  ({ p with watches := a.1, events := putK p.events s (p.eventsOf s ++ a.2) }, Tree.rp0)
 else if r.r.kind = 15 then (p, Tree.rp0)
 else
  let out := p.tree.read (p.idsOf s) r.r
  if laidK r.r out.err = 0 then (p, out)
  else
   let a := Watch.add p.watches s (laidK r.r out.err) r.r.path
   ({ p with watches := a.1 }, if a.2 = 0 then out else { Tree.rp0 with err := a.2 })
def call (p : Svc) (s : Int) (r : Rq) : Svc × Tree.Rp × Int :=
 if p.there s = false then (p, ⟨Tree.rp0, []⟩, 67)
 else if Tree.changes r.r.kind then
  let q := p.put s r.r.xid (p.tree.txn s (p.idsOf s) r)
  let o := q.1.tree.reply q.2.zxid q.2.xid q.2.t
  (q.1, ⟨{ o.p with xid := r.r.xid, zxid := q.1.tree.zxid }, o.subs⟩, 0)
 else
  let q := p.readS s r
  (q.1, ⟨{ q.2 with xid := r.r.xid, zxid := q.1.tree.zxid }, []⟩, 0)
end Svc
end Go.Proofs.YtonnbkebjeoflaaGreatDoor
namespace Go.Proofs.YtonnbkebjeoflaaGreatDoor
open Go.RowKit Go.Maps
structure WR where
 b : Nat
 l : List Int
def WR.ents (r : WR) : List (Int × Value) := r.l.map fun i => (i, .int .i64 i)
noncomputable def WR.own (r : WR) : Thing := mpl kbI r.b r.ents
structure WD where
 bb : Nat
 mb : Nat
 recs : List (Spot × WR)
 many : List (Int × Int)
def wlist (R : List (Spot × WR)) : List Wt := R.flatMap fun p => p.2.l.map fun i => ⟨p.1.kind, p.1.path, i⟩
structure WD.tells (d : WD) (W : List Wt) : Prop where
 perm : W.Perm (wlist d.recs)
 some : ∀ p ∈ d.recs, p.2.l ≠ []
 many : ∀ s, getK d.many s = if Watch.count W s = 0 then none else Option.some (Watch.count W s : Int)
 few : ∀ s, Watch.count W s ≤ 64
 nodup : W.Nodup
noncomputable def wtb (wb : Nat) (W : List Wt) : Thing := some1 fun d : WD => grp [pr (d.tells W), bx wb #[.map (some d.bb), .map (some d.mb)] 181,
 mpl kbSpot d.bb (d.recs.map fun p => (p.1, .map (some p.2.b))), mpl kbI d.mb (d.many.map fun p => (p.1, .int .i64 p.2)), grp (d.recs.map fun p => p.2.own)]
theorem St.openW {w0 w : World} {wb : Nat} {W : List Wt} {l : List Thing} (h : St w0 w (wtb wb W :: l)) : ∃ d : WD, d.tells W ∧ (d.recs.map (·.1)).Nodup ∧
 St w0 w (bx wb #[.map (some d.bb), .map (some d.mb)] 181 :: mpl kbSpot d.bb (d.recs.map fun p => (p.1, .map (some p.2.b))) :: mpl kbI d.mb (d.many.map fun p => (p.1, .int .i64 p.2)) :: grp (d.recs.map fun p => p.2.own) :: l) := by
 obtain ⟨d, h⟩ := h.tell
 have h := h.ungrp
 have hn := (h.mapL 2 rfl).nodup
 rw [List.map_map] at hn
 exact ⟨d, h.pure, hn, h.tail⟩
theorem St.shutW {w0 w : World} {wb : Nat} {W : List Wt} {l : List Thing} (d : WD) (hd : d.tells W)
 (h : St w0 w (bx wb #[.map (some d.bb), .map (some d.mb)] 181 :: mpl kbSpot d.bb (d.recs.map fun p => (p.1, .map (some p.2.b))) :: mpl kbI d.mb (d.many.map fun p => (p.1, .int .i64 p.2)) :: grp (d.recs.map fun p => p.2.own) :: l)) : St w0 w (wtb wb W :: l) :=
 St.untell d (St.regrp [_, _, _, _, _] (h.told hd))
theorem St.wOut {w0 w : World} {R : List (Spot × WR)} {s : Spot} {r : WR} {l : List Thing} (hn : (R.map (·.1)).Nodup) (hr : getK R s = some r) (h : St w0 w (grp (R.map fun p => p.2.own) :: l)) :
 St w0 w (r.own :: grp ((delK R s).map fun p => p.2.own) :: l) := by
 have h1 := (h.grpPerm ((perm_delK hn hr).map (fun p : Spot × WR => p.2.own)))
 rw [List.map_cons] at h1
 have h2 := St.ungrp h1
 exact (St.regrp ((delK R s).map fun p => p.2.own) (h2.perm (List.perm_append_comm_assoc [_] _ l))).perm (List.Perm.swap _ _ _)
theorem St.wIn {w0 w : World} {R : List (Spot × WR)} {r : WR} (s : Spot) {l : List Thing} (h : St w0 w (r.own :: grp (R.map fun p => p.2.own) :: l)) : St w0 w (grp (((s, r) :: R).map fun p => p.2.own) :: l) := by
 have h2 := (h.perm (List.Perm.swap _ _ _)).ungrp
 exact St.regrp (r.own :: R.map fun p => p.2.own) (h2.perm (List.perm_append_comm_assoc _ [_] _))
theorem mem_wlist {R : List (Spot × WR)} {s : Spot} {i : Int} : (⟨s.kind, s.path, i⟩ : Wt) ∈ wlist R ↔ ∃ p ∈ R, p.1 = s ∧ i ∈ p.2.l := by
 unfold wlist
 rw [List.mem_flatMap]
 constructor
 ·rintro ⟨p, hp, hm⟩
  obtain ⟨j, hj, he⟩ := List.mem_map.1 hm
  injection he with h1 h2 h3
  refine ⟨p, hp, Subtype.ext (Prod.ext h1 h2), by rw [← h3]; exact hj⟩
 ·rintro ⟨p, hp, rfl, hi⟩
  exact ⟨p, hp, List.mem_map.2 ⟨i, hi, rfl⟩⟩
theorem mem_recs {R : List (Spot × WR)} (hn : (R.map (·.1)).Nodup) {s : Spot} {i : Int} : (⟨s.kind, s.path, i⟩ : Wt) ∈ wlist R ↔ ∃ r, getK R s = some r ∧ i ∈ r.l := by
 rw [mem_wlist]
 constructor
 ·rintro ⟨p, hp, rfl, hi⟩
  exact ⟨p.2, getK_of_mem hn hp, hi⟩
 ·rintro ⟨r, hr, hi⟩
  exact ⟨(s, r), getK_some_mem hr, rfl, hi⟩
theorem zeroMapI (w : World) : (zeroValue 179).run Tryz.prog w = .ok (.map none) w := by kernel_rfl
theorem zeroInt (w : World) : (zeroValue 3).run Tryz.prog w = .ok (.int .i64 0) w := by kernel_rfl
set_option maxHeartbeats 4000000 in
theorem wnew_any (w : World) : Calls Tryz.prog 46 #[] w (PtrPost (fun wb => wtb wb []) w) := by
 have h1 := (((St.start w).mapNew kbSpot).mapNew kbI).box1 #[.map (some w.heap.size), .map (some (w.heap.size + 1))] 181
 simp only [World.size_alloc] at h1
 have H1 := Lib.hid h1
 have hmm := @run_makeMap Tryz.prog
 clear h1
 go_enter Tryz.func46, Tryz.ntmps46
 go_wp2
 go_ret
 refine ⟨_, rfl, ?_⟩
 have h := St.regrp [] (l := _ :: _) H1.out
 exact St.shutW ⟨w.heap.size, w.heap.size + 1, [], []⟩ ⟨.refl _, fun p hp => (by cases hp), fun s => rfl, fun s => Nat.zero_le _, List.nodup_nil⟩ (((h.pick 2 rfl).pick 3 rfl).pick 3 rfl)
theorem is_any (k : Int) (p : ByteArray) (hp : p.size ≤ 4000000000) (w : World) (hr : Rdy w) : Calls Tryz.prog 129 #[.int .i64 k, .string p] w (CpPost (.bool (Watch.okW k p)) w) := by
 have CC := Lib.hid (checkP_any p hp w hr)
 obtain ⟨c, hc⟩ : ∃ c, checkB p = c := ⟨_, rfl⟩
 have hk : Watch.okW k p = (decide (1 ≤ k) && decide (k ≤ 3) && decide (c = 0)) := by unfold Watch.okW; rw [hc]
 rw [hk]
 rw [hc] at CC
 clear hk hc hp hr
 by_cases h1 : 1 ≤ k
 ·by_cases h3 : k ≤ 3
  ·obtain ⟨b, hb⟩ : ∃ b, decide (c = 0) = b := ⟨_, rfl⟩
   have he : (decide (1 ≤ k) && decide (k ≤ 3) && decide (c = 0)) = b := by simp [h1, h3, hb]
   have hb2 : (c == 0) = b := by rw [← hb]; simp [BEq.beq]
   rw [he]
   clear he hb
   go_enter Tryz.func129, Tryz.ntmps129
   go_wp2_with (go_at_call 121; refine CC.out.mono ?_; rintro e w2 ⟨rfl, hM2⟩)
   go_ret
   exact ⟨by first | rfl | simp [hb2], hM2⟩
  ·have he : (decide (1 ≤ k) && decide (k ≤ 3) && decide (c = 0)) = false := by simp [h3]
   rw [he]
   clear he CC
   go_enter Tryz.func129, Tryz.ntmps129
   go_wp2
   go_ret
   exact ⟨rfl, Mod.refl _ _⟩
 ·have he : (decide (1 ≤ k) && decide (k ≤ 3) && decide (c = 0)) = false := by simp [h1]
  rw [he]
  clear he CC
  go_enter Tryz.func129, Tryz.ntmps129
  go_wp2
  go_ret
  exact ⟨rfl, Mod.refl _ _⟩
theorem kindsW_any (e : Int) (w : World) : Calls Tryz.prog 108 #[.int .i64 e] w (NewSl 3 1 ((kindsE e).map (Value.int .i64)) (kindsE e).length w) := by
 have mk : ∀ (c : Array Value) (n : Nat), c.size = n * 1 → n ≤ maxLen → NewSl 3 1 c.toList n w (.returned (.slice (some ⟨w.heap.size, 0, none⟩) n n)) (w.alloc (.cells c 3)) := fun c n h1 h2 =>
  ⟨_, _, rfl, Sl.new (heap_alloc_new w _) h1 h2, fun b hb => by simp [own] at hb; omega, (Mod.refl _ w).alloc _⟩
 have MK := Lib.hid mk
 clear mk
 by_cases h1 : e = 1
 ·subst h1
  go_enter Tryz.func108, Tryz.ntmps108
  go_wp2
  go_ret
  exact MK.out #[.int .i64 2] 1 rfl (by unfold maxLen; omega)
 by_cases h2 : e = 2
 ·subst h2
  go_enter Tryz.func108, Tryz.ntmps108
  go_wp2
  go_ret
  exact MK.out #[.int .i64 1, .int .i64 2, .int .i64 3] 3 rfl (by unfold maxLen; omega)
 by_cases h3 : e = 3
 ·subst h3
  go_enter Tryz.func108, Tryz.ntmps108
  go_wp2
  go_ret
  exact MK.out #[.int .i64 1, .int .i64 2] 2 rfl (by unfold maxLen; omega)
 by_cases h4 : e = 4
 ·subst h4
  go_enter Tryz.func108, Tryz.ntmps108
  go_wp2
  go_ret
  exact MK.out #[.int .i64 3] 1 rfl (by unfold maxLen; omega)
 ·have hk : kindsE e = [] := by unfold kindsE; rw [if_neg h1, if_neg h2, if_neg h3, if_neg h4]
  rw [hk]
  have g1 : (e == 1) = false := by simpa using h1
  have g2 : (e == 2) = false := by simpa using h2
  have g3 : (e == 3) = false := by simpa using h3
  have g4 : (e == 4) = false := by simpa using h4
  clear MK hk h1 h2 h3 h4
  go_enter Tryz.func108, Tryz.ntmps108
  go_wp2
  go_ret
  exact ⟨none, 0, rfl, Sl.nil _ _ _, fun b hb => by simp [own] at hb, Mod.refl _ _⟩
end Go.Proofs.YtonnbkebjeoflaaGreatDoor
