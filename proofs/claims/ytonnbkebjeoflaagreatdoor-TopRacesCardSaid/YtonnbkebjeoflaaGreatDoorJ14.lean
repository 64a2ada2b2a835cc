/-
  Contracts and plain laws of AclV, PrepP.
  Conditions: each law states its own.
-/
import Derived.Test.YtonnbkebjeoflaaGreatDoorJ9
import Derived.Test.YtonnbkebjeoflaaGreatDoorJ11
import Derived.Test.YtonnbkebjeoflaaGreatDoorJ13
set_option linter.unusedSectionVars false
set_option linter.unusedSimpArgs false
set_option linter.unusedVariables false
set_option maxRecDepth 100000
namespace Go.Proofs.YtonnbkebjeoflaaGreatDoor.A
open Go.RowKit
def okR (r : ARow) : Bool := decide (1 ≤ r.1) && decide (r.1 ≤ 31) && isIDL r.2
def _root_.Go.Proofs.YtonnbkebjeoflaaGreatDoor.ARow.fit (r : ARow) : Prop := (-9223372036854775808 ≤ r.1 ∧ r.1 ≤ 9223372036854775807) ∧ r.2.size ≤ maxLen
def rightL (l : List ARow) : Bool := decide (1 ≤ l.length) && decide (l.length ≤ 4) && l.all okR
theorem sizeR : (Tryz.prog.info? 46).map (·.size) = some 2 := by kernel_rfl
set_option maxHeartbeats 1000000 in
theorem right1_any (r : ARow) (hr : r.fit) (w : World) : Calls Tryz.prog 255 #[.agg r.cells.toArray] w (CopyPost (.bool (!okR r)) w) := by
 obtain ⟨p, s⟩ := r
 obtain ⟨-, hs⟩ := hr
 have cI := fun w => isID_any s hs w
 simp only [ARow.cells, okR]
 by_cases h1 : 1 ≤ p
 ·by_cases h2 : p ≤ 31
  ·have z1 : ¬ p < 1 := by omega
   have z2 : ¬ (31 : Int) < p := by omega
   rw [decide_eq_true h1, decide_eq_true h2, Bool.true_and, Bool.true_and]
   generalize isIDL s = V at cI ⊢
   go_enter Tryz.func255, Tryz.ntmps255
   go_wp2_with (go_at_call 256; refine (cI _).mono ?_; rintro e w' ⟨rfl, hb⟩)
   go_ret
   exact ⟨rfl, ((Old.rfl' w).alloc _).trans hb (fun _ _ h => h) (fun _ _ h => h)⟩
  ·have z1 : ¬ p < 1 := by omega
   have z2 : (31 : Int) < p := by omega
   rw [decide_eq_false h2, Bool.and_false, Bool.false_and]
   go_enter Tryz.func255, Tryz.ntmps255
   go_wp2
   go_ret
   exact ⟨rfl, (Old.rfl' w).alloc _⟩
 ·have z1 : p < 1 := by omega
  rw [decide_eq_false h1, Bool.false_and, Bool.false_and]
  go_enter Tryz.func255, Tryz.ntmps255
  go_wp2
  go_ret
  exact ⟨rfl, (Old.rfl' w).alloc _⟩
theorem _root_.Go.Proofs.YtonnbkebjeoflaaGreatDoor.Rd.row {w : World} {a : Option Addr} {n cap : Nat} {l : List ARow} (h : Rd w 2 a n cap (l.flatMap ARow.cells)) {i : Nat} {x : ARow} (hx : l[i]? = some x) :
 ∃ b o, a = some ⟨b, o, none⟩ ∧ b < w.heap.size ∧ w.cell? ⟨b, o + i * 2, none⟩ = some (.int .i64 x.1) ∧ w.cell? ⟨b, o + i * 2 + 1, none⟩ = some (.string x.2) := by
 obtain ⟨b, o, rfl, hb, hc⟩ := h.elem (k := 2) ARow.cells (fun _ => rfl) (by omega) hx
 exact ⟨b, o, rfl, hb, by have := hc 0 _ rfl; simpa using this, hc 1 _ rfl⟩
theorem row_chunk {w : World} {b o : Nat} {x : ARow} (h0 : w.cell? ⟨b, o, none⟩ = some (.int .i64 x.1)) (h1 : w.cell? ⟨b, o + 1, none⟩ = some (.string x.2)) :
 ∀ j u, x.cells[j]? = some u → w.cell? ((⟨b, o, none⟩ : Addr).add j) = some u := by
 intro j u hu
 rw [add_none]
 match j, hu with
 | 0, hu => simp [ARow.cells] at hu; subst hu; exact h0
 | 1, hu => simp [ARow.cells] at hu; subst hu; exact h1
 | j + 2, hu => simp [ARow.cells] at hu
theorem all_snoc {α : Type} (f : α → Bool) {L : List α} {k : Nat} {t : α} (h : L[k]? = some t) : (L.take (k + 1)).all f = ((L.take k).all f && f t) := by
 obtain ⟨hk, rfl⟩ := List.getElem?_eq_some_iff.1 h
 rw [List.take_succ_eq_append_getElem hk, List.all_append]
 simp
theorem all_no {α : Type} (f : α → Bool) {L : List α} {k : Nat} {t : α} (h : L[k]? = some t) (hf : f t = false) : L.all f = false := by
 rw [Bool.eq_false_iff]
 intro hx
 rw [List.all_eq_true.1 hx t (List.mem_of_getElem? h)] at hf
 cases hf
set_option maxHeartbeats 1000000 in
theorem indexRow_any (a : Option Addr) (n cap : Nat) (l : List ARow) (w : World) (hr : Rd w 2 a n cap (l.flatMap ARow.cells)) (hn : l.length = n) (hf : ∀ r ∈ l, r.fit) :
 Calls Tryz.prog 279 #[.slice a n cap, .func (.func 255) #[] #[]] w fun e w' => ∃ i : Int, e = .returned (.int .i64 i) ∧ (decide (0 ≤ i) = !l.all okR) ∧ Old w w' := by
 have hl63 : n ≤ 2 ^ 63 - 1 := by have := hr.2.1; have := hr.2.2.1; unfold maxLen at this; omega
 have eg : ∀ args w, (callFunc 255 args).run Tryz.prog w = .ok (.enter 255 args) w := enters_of Tryz.func255 (by kernel_rfl) rfl
 have HR := Lib.hid hr
 have HN := Lib.hid hn
 have HF := Lib.hid hf
 clear hr hn hf
 go_enter Tryz.func279, Tryz.ntmps279
 go_wp2
 go_loopg [8] n (fun g y wr => ∃ k : Nat, k + g = n ∧ y = .int .i64 k ∧ Old w wr ∧ (l.take k).all okR = true)
 case atStart => exact ⟨0, by omega, rfl, Old.rfl' _, by simp⟩
 case round =>
  obtain ⟨k, hkg, rfl, hb, hall⟩ := hrel
  by_cases hlt : k < n
  ·have hx : l[k]? = some (l[k]'(HN.out ▸ hlt)) := List.getElem?_eq_getElem _
   obtain ⟨x, hxx⟩ : ∃ x, l[k]'(HN.out ▸ hlt) = x := ⟨_, rfl⟩
   rw [hxx] at hx
   have cR := right1_any x (HF.out x (List.mem_of_getElem? hx)) wr
   obtain ⟨b, o, rfl, hbl, c0, c1⟩ := (HR.out.mod hb (fun _ _ h => h)).row hx
   have HX := Lib.hid hx
   have HC := Lib.hid (row_chunk c0 c1)
   have HA := Lib.hid hall
   clear hx hxx c0 c1 hall
   cases hv : okR x
   all_goals
    rw [hv] at cR
    go_wp2_with (first | ((with_reducible refine at_list ?_); refine wpList_load_chunk 2 _ Tryz.underlying46 rfl sizeR ⟨b, o + k * 2, none⟩ rfl x.cells rfl HC.out ?_) | (go_at_fn 255; refine cR.mono ?_; rintro e w' ⟨rfl, hb2⟩))
   ·go_ret
    exact ⟨_, rfl, by rw [all_no okR HX.out hv]; simp, hb.join hb2⟩
   ·go_roundg (gk - 1)
    case measure => omega
    case rel => exact ⟨k + 1, by omega, by simp, hb.join hb2, by rw [all_snoc okR HX.out, HA.out, hv]; rfl⟩
  ·have hk : k = n := by omega
   have ha : l.all okR = true := by rw [← hall, hk, ← HN.out, List.take_length]
   clear hall
   go_wp2
   go_ret
   exact ⟨-1, rfl, by rw [ha]; rfl, hb⟩
theorem containsRow_any (a : Option Addr) (n cap : Nat) (l : List ARow) (w : World) (hr : Rd w 2 a n cap (l.flatMap ARow.cells)) (hn : l.length = n) (hf : ∀ r ∈ l, r.fit) :
 Calls Tryz.prog 257 #[.slice a n cap, .func (.func 255) #[] #[]] w (CopyPost (.bool (!l.all okR)) w) := by
 have cI := indexRow_any a n cap l w hr hn hf
 clear hr hn hf
 go_enter Tryz.func257, Tryz.ntmps257
 go_wp2_with (go_at_call 279; refine cI.mono ?_; rintro e w' ⟨i, rfl, hi, hb⟩)
 go_ret
 exact ⟨by rw [← hi]; rfl, hb⟩
theorem right_any (a : Option Addr) (n cap : Nat) (l : List ARow) (w : World) (hr : Rd w 2 a n cap (l.flatMap ARow.cells)) (hn : l.length = n) (hf : ∀ r ∈ l, r.fit) :
 Calls Tryz.prog 189 #[.slice a n cap] w (CopyPost (.bool (rightL l)) w) := by
 have hl63 : n ≤ 2 ^ 63 - 1 := by have := hr.2.1; have := hr.2.2.1; unfold maxLen at this; omega
 have cI := containsRow_any a n cap l w hr hn hf
 clear hr hf
 rw [rightL, hn]
 by_cases h1 : 1 ≤ n
 ·have z1 : (0 : Int) < (n : Int) := by omega
  by_cases h4 : n ≤ 4
  ·have z4 : (n : Int) ≤ 4 := by omega
   rw [decide_eq_true h1, decide_eq_true h4, Bool.true_and, Bool.true_and]
   generalize l.all okR = V at cI ⊢
   go_enter Tryz.func189, Tryz.ntmps189
   go_wp2_with (go_at_call 257; refine cI.mono ?_; rintro e w' ⟨rfl, hb⟩)
   go_ret
   exact ⟨by cases V <;> rfl, hb⟩
  ·have z4 : ¬ (n : Int) ≤ 4 := by omega
   rw [decide_eq_false h4, Bool.and_false, Bool.false_and]
   go_enter Tryz.func189, Tryz.ntmps189
   go_wp2
   go_ret
   exact ⟨rfl, Old.rfl' _⟩
 ·have z1 : ¬ (0 : Int) < (n : Int) := by omega
  rw [decide_eq_false h1, Bool.false_and, Bool.false_and]
  go_enter Tryz.func189, Tryz.ntmps189
  go_wp2
  go_ret
  exact ⟨rfl, Old.rfl' _⟩
end Go.Proofs.YtonnbkebjeoflaaGreatDoor.A
namespace Go.Proofs.YtonnbkebjeoflaaGreatDoor
structure Rq1 where
 kind : Int
 xid : Int
 path : ByteArray
 data : ByteArray
 acl : List ARow
 flags : Int
 version : Int
 watch : Bool
structure Armd where
 kind : Int
 path : ByteArray
 czxid : Int
 mzxid : Int
 pzxid : Int
structure Rq where
 r : Rq1
 subs : List Rq1
 armed : List Armd
structure Tx2 where
 x : Tx
 subs : List Tx
def firstE : List Int → Int
 | [] => 0
 | e :: l => if e = 0 then firstE l else e
def whenE (b : Bool) (e : Int) : Int := if b then e else 0
def numberedB (p : ByteArray) (n : Int) : ByteArray := tx (numL p.data.toList n)
def flag (flags bit : Int) : Bool := decide (bits .and .i64 flags bit ≠ 0)
namespace Tree
def st0 : St7 := ⟨0, 0, 0, 0, 0, 0, 0⟩
def stat (t : Tree) (p : ByteArray) : St7 := match t.node p with | some n => n.st | none => st0
def is (t : Tree) (p : ByteArray) : Bool := (t.node p).isSome
def mayAt (t : Tree) (ids : List ByteArray) (p : ByteArray) (perm : Int) : Bool := match t.node p with | some n => may n.acl perm ids | none => false
def tx0 : Tx := ⟨0, ⟨#[]⟩, ⟨#[]⟩, [], 0, 0, 0⟩
def mkTx (t : Tree) (s : Int) (ids : List ByteArray) (r : Rq1) : Tx × Int :=
 let up := parentB r.path
 let whole := if flag r.flags 2 then numberedB r.path (t.stat up).cversion else r.path
 (⟨1, whole, r.data, r.acl, if flag r.flags 1 then s else 0, inc (t.stat up).cversion, 0⟩,
  firstE [checkB r.path, whenE (decide (100 < r.data.size) || decide (r.flags < 0) || decide (3 < r.flags)) 1, whenE (!A.rightL r.acl) 50, whenE (!t.is up) 60, whenE (decide ((t.stat up).owner ≠ 0)) 63,
   whenE (!t.mayAt ids up 4) 65, whenE (decide (checkB whole ≠ 0)) 41, whenE (t.is whole) 61, whenE (decide (64 ≤ t.nodes.length)) 64, whenE (flag r.flags 1 && decide (32 ≤ (t.owned s).length)) 64])
def rmTx (t : Tree) (ids : List ByteArray) (r : Rq1) : Tx × Int :=
 let up := parentB r.path
 (⟨2, r.path, ⟨#[]⟩, [], 0, inc (t.stat up).cversion, 0⟩,
  firstE [checkB r.path, whenE (decide (r.path = rootP)) 1, whenE (!t.is r.path) 60, whenE (!t.mayAt ids up 8) 65, whenE (decide (r.version ≠ -1) && decide (r.version ≠ (t.stat r.path).version)) 66, whenE (decide (0 < (t.kids r.path).length)) 62])
def partTx (t : Tree) (s : Int) (ids : List ByteArray) (r : Rq1) : Tx × Int :=
 if r.kind = 1 then t.mkTx s ids r
 else if r.kind = 2 then t.rmTx ids r
 else
  let go (wrong : Int) (perm stamp : Int) (x : Tx) : Tx × Int :=
   (x, firstE [checkB r.path, wrong, whenE (!t.is r.path) 60, whenE (!t.mayAt ids r.path perm) 65, whenE (decide (r.version ≠ -1) && decide (r.version ≠ stamp)) 66])
  if r.kind = 3 then go (whenE (decide (100 < r.data.size)) 1) 2 (t.stat r.path).version ⟨3, r.path, r.data, [], 0, inc (t.stat r.path).version, 0⟩
  else if r.kind = 4 then go (whenE (!A.rightL r.acl) 50) 16 (t.stat r.path).aversion ⟨4, r.path, ⟨#[]⟩, r.acl, 0, inc (t.stat r.path).aversion, 0⟩
  else if r.kind = 5 then go 0 1 (t.stat r.path).version tx0
  else (tx0, 110)
def refusal (e number : Int) : Tx2 := ⟨⟨8, ⟨#[]⟩, ⟨#[]⟩, [], 0, number, e⟩, []⟩
def multiTx (t : Tree) (s : Int) (ids : List ByteArray) : List Rq1 → Nat → List Tx → Tx2
 | [], _, done => ⟨⟨7, ⟨#[]⟩, ⟨#[]⟩, [], 0, 0, 0⟩, done⟩
 | r :: l, i, done => if (t.partTx s ids r).2 ≠ 0 then refusal (t.partTx s ids r).2 i else multiTx (t.apply t.zxid (t.partTx s ids r).1 []).1 s ids l (i + 1) (done ++ [(t.partTx s ids r).1])
def closeTx (t : Tree) : List ByteArray → List Tx → List Tx
 | [], done => done
 | p :: l, done =>
   let x : Tx := ⟨2, p, ⟨#[]⟩, [], 0, inc (t.stat (parentB p)).cversion, 0⟩
   closeTx (t.apply t.zxid x []).1 l (done ++ [x])
def changes (k : Int) : Bool := decide (k = 1) || decide (k = 2) || decide (k = 3) || decide (k = 4) || decide (k = 6) || decide (k = 7) || decide (k = 8)
def txn (t : Tree) (s : Int) (ids : List ByteArray) (r : Rq) : Tx2 :=
 if changes r.r.kind = false then refusal 110 (-1)
 else if (getK t.sessions s).isNone then refusal 67 (-1)
 else if r.r.kind = 6 then (if r.subs.length = 0 ∨ 8 < r.subs.length then refusal 1 (-1) else t.multiTx s ids r.subs 0 [])
 else if r.r.kind = 7 then ⟨tx0, []⟩
 else if r.r.kind = 8 then ⟨⟨6, ⟨#[]⟩, ⟨#[]⟩, [], s, 0, 0⟩, t.closeTx (t.owned s).reverse []⟩
 else if (t.partTx s ids r.r).2 ≠ 0 then refusal (t.partTx s ids r.r).2 (-1)
 else ⟨(t.partTx s ids r.r).1, []⟩
structure Rp1 where
 xid : Int
 zxid : Int
 err : Int
 path : ByteArray
 data : ByteArray
 st : St7
 length : Int
 kidn : Int
 acl : List ARow
 kids : List ByteArray
structure Rp where
 p : Rp1
 subs : List Rp1
def rp0 : Rp1 := ⟨0, 0, 0, ⟨#[]⟩, ⟨#[]⟩, st0, 0, 0, [], []⟩
def Rp1.put (p : Rp1) (t : Tree) (path : ByteArray) : Rp1 :=
 match t.node path with
 | some n => { p with st := n.st, length := n.data.size, kidn := (t.kids path).length }
 | none => { p with st := st0, length := 0, kidn := 0 }
def told (t : Tree) (x : Tx) : Rp1 :=
 if x.kind = 1 then Rp1.put { rp0 with path := x.path } t x.path
 else if x.kind = 3 ∨ x.kind = 4 then Rp1.put rp0 t x.path
 else rp0
def reply (t : Tree) (zxid xid : Int) (x : Tx2) : Rp :=
 let out := { t.told x.x with xid := xid, zxid := zxid }
 if x.x.kind = 7 then ⟨out, x.subs.map t.told⟩
 else if x.x.kind = 8 then
  ⟨{ out with err := x.x.err }, if 0 ≤ x.x.number ∧ x.x.number < 8 then List.replicate x.x.number.toNat { rp0 with err := 111 } ++ [{ rp0 with err := x.x.err }] else []⟩
 else ⟨out, []⟩
def read (t : Tree) (ids : List ByteArray) (r : Rq1) : Rp1 :=
 let e := firstE [whenE (!(decide (r.kind = 9) || decide (r.kind = 10) || decide (r.kind = 11) || decide (r.kind = 12))) 110, checkB r.path, whenE (!t.is r.path) 60, whenE (decide (r.kind ≠ 10) && !t.mayAt ids r.path 1) 65]
 let out : Rp1 := { rp0 with xid := r.xid, zxid := t.zxid, err := e }
 if e ≠ 0 then out
 else
  let out := out.put t r.path
  match t.node r.path with
  | none => out
  | some n =>
    if r.kind = 9 then { out with data := n.data }
    else if r.kind = 11 then { out with kids := t.kids r.path }
    else if r.kind = 12 then { out with acl := n.acl }
    else out
end Tree
end Go.Proofs.YtonnbkebjeoflaaGreatDoor
