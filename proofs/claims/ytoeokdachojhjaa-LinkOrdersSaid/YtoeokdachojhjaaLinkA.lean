/-
  A link: what it holds, as the program's and as the document's, and what its calls do to it (plain).
  No condition.
-/
import Derived.Test.YtoeokdachojhjaaGrp
import Derived.Test.YtoeokdachojhjaaPk
import Derived.Test.YtoeokdachojhjaaFlat
import Derived.Test.YtoeokdachojhjaaStep
import Derived.Deep.LoopGhost
import Derived.Deep.DeepCutAuto
namespace Go.Proofs.Ytoeokdachojhjaa
open Go.RowKit
set_option linter.unusedSectionVars false
set_option linter.unusedSimpArgs false
set_option linter.unusedVariables false

/-- A text and its number. -/
structure Tx where
  n : Int
  s : ByteArray
deriving DecidableEq
def Tx.cells (t : Tx) : List Value := [.int .i64 t.n, .string t.s]
theorem txlen (t : Tx) : t.cells.length = 2 := rfl
def ftx (l : List Tx) : List Value := l.flatMap Tx.cells
theorem ftx_one (l : List Tx) : ∀ u ∈ ftx l, u.oneCell' = true := by
  intro u hu
  obtain ⟨x, _, hx⟩ := List.mem_flatMap.1 hu
  simp only [Tx.cells, List.mem_cons, List.not_mem_nil, or_false] at hx
  rcases hx with rfl | rfl <;> rfl
theorem ftx_append (xs ys : List Tx) : ftx (xs ++ ys) = ftx xs ++ ftx ys := List.flatMap_append

theorem infoT : (Try.prog.info? 68).map (fun i => (i.zero, i.size, i.bytes)) = some (some (.agg #[.int .i64 0, .string .empty]), 2, 24) := by kernel_rfl
theorem cellsT : Try.prog.cellsOf 68 = 2 := by kernel_rfl
theorem isT : (Try.prog.info? 68).isSome = true := by kernel_rfl
theorem sizeT : (Try.prog.info? 68).map (·.size) = some 2 := by kernel_rfl
theorem infoS : (Try.prog.info? 9).map (fun i => (i.zero, i.size, i.bytes)) = some (some (.string .empty), 1, 16) := by kernel_rfl
theorem keyI : Try.prog.underlying 3 = some (.int .i64) := by kernel_rfl
theorem mapT : Try.prog.underlying 64 = some (.map 3 9) := by kernel_rfl
theorem zeroS (w : World) : (zeroValue 9).run Try.prog w = .ok (.string .empty) w := by kernel_rfl

/-- What a link holds. -/
structure Lk where
  last : Int
  sent : Int
  got : Int
  me : Int
  peer : Int
  life : Int
  far : Int
  queue : List Tx
  kept : Int → Option ByteArray
  owes : Bool
  over : Bool
  cnt : Nat

def Lk.new (me peer life : Int) : Lk := ⟨0, 0, 0, me, peer, life, 0, [], fun _ => none, false, false, 0⟩
def Lk.pkt (L : Lk) (t : Tx) : Pk := ⟨L.me, L.peer, 2, L.life, L.far, t.n, L.got, t.s⟩
def Lk.full (L : Lk) : Bool := L.over || decide (64 ≤ L.queue.length)
def Lk.put (L : Lk) (s : ByteArray) : Lk := { L with last := L.last + 1, queue := L.queue ++ [⟨L.last + 1, s⟩] }
def Lk.send (L : Lk) (s : ByteArray) : Lk := if L.full then L else L.put s
def Lk.sendErr (L : Lk) : Int := if L.full then 150 else 0
/-- The number of the last one, or what it was. -/
def lastN (d : Int) (l : List Tx) : Int := l.foldl (fun _ t => t.n) d
theorem lastN_snoc (d : Int) (l : List Tx) (t : Tx) : lastN d (l ++ [t]) = t.n := by simp [lastN]
def Lk.news (L : Lk) (n : Int) : List Tx := L.queue.filter (fun t => decide (n < t.n))
def Lk.out (L : Lk) (n : Int) : List Pk := if L.over then [] else if (L.news n).isEmpty then (if L.owes then [L.pkt ⟨0, .empty⟩] else []) else (L.news n).map L.pkt
def Lk.behind (L : Lk) (n : Int) : Lk := if L.over then L else { L with sent := lastN L.sent (L.news n), owes := false }

def set1 (f : Int → Option ByteArray) (x : Int) (v : Option ByteArray) : Int → Option ByteArray := fun y => if y = x then v else f y
def fmap (f : Int → Option ByteArray) : Int → Option Value := fun x => (f x).map .string
theorem fmap_set (f : Int → Option ByteArray) (x : Int) (v : Option ByteArray) : upd (fmap f) x (v.map .string) = fmap (set1 f x v) := by
  funext y; unfold upd fmap set1; split <;> rfl

def Lk.cells (L : Lk) (a : Option Addr) (n cap mb : Nat) : Array Value :=
  #[.int .i64 L.last, .int .i64 L.sent, .int .i64 L.got, .int .i64 L.me, .int .i64 L.peer, .int .i64 L.life, .int .i64 L.far, .slice a n cap, .map (some mb), .bool L.owes, .bool L.over]

/-- A link of the program's, taken apart. -/
def lkParts (pb : Nat) (L : Lk) (x : Option Addr × Nat × Nat) : List Thing :=
  [bx pb (L.cells x.1 L.queue.length x.2.1 x.2.2) 66, sl 68 2 x.1 L.queue.length x.2.1 (ftx L.queue), mp Try.prog 3 x.2.2 L.cnt (fmap L.kept)]
def lk (pb : Nat) (L : Lk) : Thing := some1 fun x => grp (lkParts pb L x)

theorem St.unlk {w0 w : World} {pb : Nat} {L : Lk} {l : List Thing} (h : St w0 w (lk pb L :: l)) : ∃ a cap mb, St w0 w (bx pb (L.cells a L.queue.length cap mb) 66 :: sl 68 2 a L.queue.length cap (ftx L.queue) :: mp Try.prog 3 mb L.cnt (fmap L.kept) :: l) := by
  obtain ⟨⟨a, cap, mb⟩, h⟩ := h.tell
  exact ⟨a, cap, mb, h.ungrp⟩
theorem St.relk {w0 w : World} {pb : Nat} (L : Lk) {l : List Thing} {a : Option Addr} {cap mb : Nat} (h : St w0 w (bx pb (L.cells a L.queue.length cap mb) 66 :: sl 68 2 a L.queue.length cap (ftx L.queue) :: mp Try.prog 3 mb L.cnt (fmap L.kept) :: l)) : St w0 w (lk pb L :: l) :=
  St.untell (a, cap, mb) (St.regrp (lkParts pb L (a, cap, mb)) h)
end Go.Proofs.Ytoeokdachojhjaa
