/-
  What my walks say of memory, over any program: which blocks a call may have changed ('Mod'), a slice that is read ('Rd') or owned ('Sl'), and laws for append, reslicing, clear, and loads and stores of whole structs.
  No condition: every law states its own.
  Plain laws on bits and numbers that the codec's arithmetic needs.
  Conditions: the numbers fit their kinds.
  Strings and bytes: a conversion as an arm of the walk.
  Conditions: the string or the slice fits an int.
  Things side by side, over any program: a state is a list of things, each with blocks of its own, all of them younger than the world at the start. A thing keeps its place in the list.
  No condition: every law states its own.
  What a reading of an argument says of its cells: fields of a struct, elements of a slice.
  No condition.
  Slices whose elements have k cells each, as lists: what lies where, and how a slice that came in is opened so.
  No condition: every law states its own.
  Maps keyed by int as functions, over any program: look-up, store, delete, make; a map as a thing.
  No condition: every law states its own.
  Things of several things; a slice that has grown.
  No condition: every law states its own.
  Laws of single operations inside a region that draws its order: append; a whole struct loaded.
  No condition: every law states its own.
  A region that draws its order and ends with one operation behind all others: the last one is taken out of the region, and stands behind it. So what only the last one writes may be held in all the others.
  No condition: every law states its own.
-/
import Derived.WalkKit
import Derived.ProofKit
import Derived.OpenShut
import Derived.Deep.QuietTactic
import Derived.BigQuiet
import Derived.StillTailTactics
import Derived.WalkSpells
import Derived.WalkLawsBesides
import Derived.Lib.Hide
import Derived.Lib.SlBytesConst
import Derived.ChangeOld
import Derived.Deep.Slices
import Derived.SizedLaws
import Derived.Maps.OwnSet
import Derived.Maps.OwnOps
import Derived.Maps.Own
import Derived.Deep.RegionLaw
import Derived.Deep.RegionHeld3
namespace Go.Proofs.Ytmbkbkfcbloafab
section
open Go.RowKit
set_option linter.unusedSectionVars false
set_option linter.unusedSimpArgs false
set_option linter.unusedVariables false

/-! ### Which blocks may have changed -/

structure Mod (S : Nat → Prop) (w w' : World) : Prop where
  os : w'.os = w.os
  tape : w'.tape = w.tape
  output : w'.output = w.output
  size : w.heap.size ≤ w'.heap.size
  keep : ∀ b, b < w.heap.size → ¬ S b → w'.heap[b]? = w.heap[b]?

theorem Mod.refl (S : Nat → Prop) (w : World) : Mod S w w := ⟨rfl, rfl, rfl, Nat.le_refl _, fun _ _ _ => rfl⟩

theorem Mod.trans {S T U : Nat → Prop} {a b c : World} (h : Mod S a b) (k : Mod T b c) (hS : ∀ x, x < a.heap.size → S x → U x) (hT : ∀ x, x < a.heap.size → T x → U x) : Mod U a c :=
  ⟨k.os.trans h.os, k.tape.trans h.tape, k.output.trans h.output, Nat.le_trans h.size k.size, fun x hx hn =>
    (k.keep x (Nat.lt_of_lt_of_le hx h.size) (fun t => hn (hT x hx t))).trans (h.keep x hx (fun s => hn (hS x hx s)))⟩

theorem Mod.mono {S T : Nat → Prop} {a b : World} (h : Mod S a b) (hS : ∀ x, x < a.heap.size → S x → T x) : Mod T a b :=
  ⟨h.os, h.tape, h.output, h.size, fun x hx hn => h.keep x hx (fun s => hn (hS x hx s))⟩

/-- What a further call changes is among what may change, or new. -/
theorem Mod.then {S T : Nat → Prop} {a b c : World} (h : Mod S a b) (k : Mod T b c) (hT : ∀ x, x < a.heap.size → T x → S x) : Mod S a c :=
  h.trans k (fun _ _ h => h) hT

theorem Mod.drewN {S : Nat → Prop} {a b : World} (h : Mod S a b) (n : Nat) : Mod S a (b.drewN n) := ⟨h.os, h.tape, h.output, h.size, h.keep⟩
theorem Mod.drew {S : Nat → Prop} {a b : World} (h : Mod S a b) : Mod S a b.drew := ⟨h.os, h.tape, h.output, h.size, h.keep⟩
theorem Mod.alloc {S : Nat → Prop} {a b : World} (h : Mod S a b) (o : Obj) : Mod S a (b.alloc o) :=
  ⟨h.os, h.tape, h.output, by have := h.size; simp; omega, fun x hx hn => by
    rw [Below.heap_alloc b o x (Nat.lt_of_lt_of_le hx h.size)]; exact h.keep x hx hn⟩
theorem Mod.setCell {S : Nat → Prop} {a b : World} (h : Mod S a b) (p : Addr) (v : Value) (hp : p.block < a.heap.size → S p.block) : Mod S a (b.setCell p v) :=
  ⟨h.os, h.tape, h.output, by have := h.size; simp; omega, fun x hx hn => by
    rw [heap_setCell_other b p x v (fun e => hn (e ▸ hp (e ▸ hx)))]; exact h.keep x hx hn⟩
theorem Mod.setRow {S : Nat → Prop} {a b : World} (h : Mod S a b) (g : Nat) (cs : Array Value) (hp : g < a.heap.size → S g) : Mod S a (b.setRow g cs) :=
  ⟨h.os, h.tape, h.output, by have := h.size; simp; omega, fun x hx hn => by
    rw [setRow_other b g x cs (fun e => hn (e ▸ hp (e ▸ hx)))]; exact h.keep x hx hn⟩

theorem Mod.heapEq {S : Nat → Prop} {a b : World} (h : Mod S a b) {x : Nat} (hx : x < a.heap.size) (hn : ¬ S x) : b.heap[x]? = a.heap[x]? := h.keep x hx hn
theorem Mod.cell {S : Nat → Prop} {a b : World} (h : Mod S a b) {p : Addr} {v : Value} (hc : a.cell? p = some v) (hn : ¬ S p.block) : b.cell? p = some v := by
  rw [World.cell?_of_block (h.keep p.block (World.block_lt_of_cell? a p hc) hn)]; exact hc
theorem Mod.heap {S : Nat → Prop} {a b : World} (h : Mod S a b) {x : Nat} {o : Obj} (hc : a.heap[x]? = some o) (hn : ¬ S x) : b.heap[x]? = some o := by
  rw [h.keep x (Array.getElem?_eq_some_iff.1 hc).1 hn]; exact hc

/-- What the frame of a law's row asks. -/
theorem Mod.below {w w' : World} (h : Mod (fun _ => False) w w') : Below w.heap.size w w' :=
  ⟨h.os, h.tape, h.output, h.size, fun k hk => h.keep k hk (fun f => f)⟩

theorem heap_lt {w : World} {b : Nat} {o : Obj} (h : w.heap[b]? = some o) : b < w.heap.size := (Array.getElem?_eq_some_iff.1 h).1

theorem heap_drewN (w : World) (n : Nat) : (w.drewN n).heap = w.heap := rfl

/-- A block's cells. -/
theorem blk_cell {w : World} {b : Nat} {c : Array Value} {e : TypeId} {fr : Nat × Nat} (h : w.heap[b]? = some (.cells c e fr)) (j : Nat) (v : Value) (hv : c[j]? = some v) : w.cell? ⟨b, j, none⟩ = some v := by
  rw [cell_of_row w b j c e fr h]; exact hv
theorem blk_free {w : World} {b : Nat} {c : Array Value} {e : TypeId} (h : w.heap[b]? = some (.cells c e (0, 0))) (j : Nat) : w.frozen? ⟨b, j, none⟩ = false := frozen_of_row w b j c e h
theorem blk_set {w : World} {b i : Nat} {c : Array Value} {e : TypeId} (v : Value) (h : w.heap[b]? = some (.cells c e (0, 0))) : (w.setCell ⟨b, i, none⟩ v).heap[b]? = some (.cells (c.setIfInBounds i v) e (0, 0)) :=
  heap_setCell_same w b i c e v h

/-- The world at a call, under a name. -/
theorem calls_named {P : Program} {f : FuncId} {args : Array Value} {w : World} {R : Ending → World → Prop} (h : ∀ W, W = w → Calls P f args W R) : Calls P f args w R := h w rfl

/-! ### Slices -/

theorem add_none (b o j : Nat) : (⟨b, o, none⟩ : Addr).add j = ⟨b, o + j, none⟩ := by unfold Addr.add; split <;> simp_all

/-- The block that a slice's or a pointer's address lies in. -/
def own (a : Option Addr) : Option Nat := a.map (·.block)
theorem own_some (a : Addr) : own (some a) = some a.block := rfl
theorem own_none : own none = none := rfl

/-- A slice of n elements of k cells each that reads as cs (whosever it is). -/
def Rd (w : World) (k : Nat) (a : Option Addr) (n cap : Nat) (cs : List Value) : Prop :=
  cs.length = n * k ∧ n ≤ cap ∧ cap ≤ maxLen ∧ ((a = none ∧ cap = 0) ∨ ∃ x, a = some x ∧ ∀ j u, cs[j]? = some u → w.cell? (x.add j) = some u)

/-- A slice of n elements of type E, k cells each, that lies in one unfrozen block and reads as cs. -/
def Sl (w : World) (E k : Nat) (a : Option Addr) (n cap : Nat) (cs : List Value) : Prop :=
  cs.length = n * k ∧ n ≤ cap ∧ cap ≤ maxLen ∧ ((a = none ∧ cap = 0) ∨
    ∃ b off c, a = some ⟨b, off, none⟩ ∧ w.heap[b]? = some (.cells c E (0, 0)) ∧ off + cap * k ≤ c.size ∧ (c.toList.drop off).take (n * k) = cs)

theorem Sl.rd {w : World} {E k : Nat} {a : Option Addr} {n cap : Nat} {cs : List Value} (h : Sl w E k a n cap cs) : Rd w k a n cap cs := by
  obtain ⟨hl, hn, hm, h | ⟨b, off, c, rfl, h3, h4, h5⟩⟩ := h
  · exact ⟨hl, hn, hm, .inl h⟩
  · refine ⟨hl, hn, hm, .inr ⟨_, rfl, fun j u hu => ?_⟩⟩
    rw [add_none, cell_of_row w b (off + j) c E (0, 0) h3]
    rw [← h5, List.getElem?_take] at hu
    split at hu
    · rw [List.getElem?_drop] at hu; simpa using hu
    · cases hu

theorem Rd.kept {w w' : World} {k : Nat} {a : Option Addr} {n cap : Nat} {cs : List Value} (h : Rd w k a n cap cs) (hk : ∀ b, own a = some b → b < w.heap.size → w'.heap[b]? = w.heap[b]?) : Rd w' k a n cap cs := by
  obtain ⟨hl, hn, hm, h | ⟨x, rfl, h3⟩⟩ := h
  · exact ⟨hl, hn, hm, .inl h⟩
  · refine ⟨hl, hn, hm, .inr ⟨x, rfl, fun j u hu => ?_⟩⟩
    have hc := h3 j u hu
    have hb : (x.add j).block = x.block := by unfold Addr.add; split <;> rfl
    have hlt := World.block_lt_of_cell? w _ hc
    rw [hb] at hlt
    rw [World.cell?_of_block (w := w) (by rw [hb]; exact hk x.block rfl hlt)]
    exact hc

theorem Sl.kept {w w' : World} {E k : Nat} {a : Option Addr} {n cap : Nat} {cs : List Value} (h : Sl w E k a n cap cs) (hk : ∀ b, own a = some b → b < w.heap.size → w'.heap[b]? = w.heap[b]?) : Sl w' E k a n cap cs := by
  obtain ⟨hl, hn, hm, h | ⟨b, off, c, rfl, h3, h4, h5⟩⟩ := h
  · exact ⟨hl, hn, hm, .inl h⟩
  · exact ⟨hl, hn, hm, .inr ⟨b, off, c, rfl, by rw [hk b rfl (heap_lt h3)]; exact h3, h4, h5⟩⟩

theorem Rd.mod {S : Nat → Prop} {w w' : World} {k : Nat} {a : Option Addr} {n cap : Nat} {cs : List Value} (h : Rd w k a n cap cs) (hm : Mod S w w') (hS : ∀ b, own a = some b → ¬ S b) : Rd w' k a n cap cs :=
  h.kept fun b hb hlt => hm.keep b hlt (hS b hb)
theorem Sl.mod {S : Nat → Prop} {w w' : World} {E k : Nat} {a : Option Addr} {n cap : Nat} {cs : List Value} (h : Sl w E k a n cap cs) (hm : Mod S w w') (hS : ∀ b, own a = some b → ¬ S b) : Sl w' E k a n cap cs :=
  h.kept fun b hb hlt => hm.keep b hlt (hS b hb)

theorem Sl.lt {w : World} {E k : Nat} {a : Option Addr} {n cap : Nat} {cs : List Value} (h : Sl w E k a n cap cs) : ∀ b, own a = some b → b < w.heap.size := by
  obtain ⟨_, _, _, ⟨rfl, _⟩ | ⟨b, off, c, rfl, h3, h4, h5⟩⟩ := h
  · intro b hb; simp [own] at hb
  · intro b' hb; simp [own] at hb; subst hb; exact heap_lt h3

theorem Sl.nil (w : World) (E k : Nat) : Sl w E k none 0 0 [] := ⟨by simp, Nat.le_refl _, Nat.zero_le _, .inl ⟨rfl, rfl⟩⟩
theorem Rd.nil (w : World) (k : Nat) : Rd w k none 0 0 [] := ⟨by simp, Nat.le_refl _, Nat.zero_le _, .inl ⟨rfl, rfl⟩⟩

/-- A new block that holds just the elements. -/
theorem Sl.new {w : World} {E k b n : Nat} {c : Array Value} (h : w.heap[b]? = some (.cells c E (0, 0))) (hn : c.size = n * k) (hm : n ≤ maxLen) : Sl w E k (some ⟨b, 0, none⟩) n n c.toList :=
  ⟨by simpa using hn, Nat.le_refl _, hm, .inr ⟨b, 0, c, rfl, h, by omega, by rw [List.drop_zero, List.take_of_length_le (by simp [hn])]⟩⟩

/-! ### append -/

theorem nextcap_le {need old : Nat} (h : old < need) : Builtin.nextslicecap need old ≤ need + need / 4 + 512 := by
  unfold Builtin.nextslicecap
  split
  · omega
  · split
    · omega
    · rw [growBy_four]
      repeat' split
      all_goals omega

theorem append_law {P : Program} (w : World) (t ty E : TypeId) (i : TypeInfo) (z : Value) (k bytes : Nat) (ht : P.underlying t = some (.slice E)) (hi : P.info? E = some i) (hz : i.zero = some z)
    (hsize : i.size = k) (hby : i.bytes = bytes) (hzs : z.cells.size = k)
    (a : Option Addr) (n cap : Nat) (cs : List Value) (hv : Sl w E k a n cap cs)
    (s : Option Addr) (m sc : Nat) (news : List Value) (hs : Rd w k s m sc news) (h1 : ∀ u ∈ news, u.oneCell' = true)
    (h63 : n + m ≤ maxLen) (hb : ((n + m) + (n + m) / 4 + 512) * bytes ≤ 281474976710656) :
    ∃ a' cap' w', (Builtin.append_ #[t, t] ty #[.slice a n cap, .slice s m sc]).run P w = .ok (.slice a' (n + m) cap') w' ∧ Sl w' E k a' (n + m) cap' (cs ++ news) ∧ Mod (fun b => own a = some b) w w' ∧
      (∀ b, own a' = some b → own a = some b ∨ (w.heap.size ≤ b ∧ b < w'.heap.size)) ∧ (a' = none ↔ a = none ∧ m = 0) ∧ (n + m ≤ cap → a' = a ∧ cap' = cap) := by
  subst hsize
  subst hby
  have hsmall : n + m ≤ 9223372036854775807 := by simp only [maxLen] at h63; omega
  have hlen : (cs ++ news).length = (n + m) * i.size := by rw [List.length_append, hv.1, hs.1, Nat.add_mul]
  have fits : ∀ old, old < n + m → Builtin.nextslicecap (n + m) old * i.bytes ≤ 281474976710656 := fun old ho =>
    Nat.le_trans (Nat.mul_le_mul_right _ (nextcap_le ho)) hb
  -- what a new block gives
  have grown : ∀ (old : Nat), old < n + m → ∀ S : Nat → Prop,
      Sl (w.drew.alloc (.cells (cs.toArray ++ news.toArray ++ Builtin.zeroCells z.cells (grownCap w (n + m) old E - (n + m))) E)) E i.size
        (some ⟨w.heap.size, 0, none⟩) (n + m) (grownCap w (n + m) old E) (cs ++ news) ∧
      Mod S w (w.drew.alloc (.cells (cs.toArray ++ news.toArray ++ Builtin.zeroCells z.cells (grownCap w (n + m) old E - (n + m))) E)) := by
    intro old ho S
    have hge := grownCap_ge w (n + m) old E
    have hcm : grownCap w (n + m) old E ≤ maxLen := grownCap_le_maxLen w (n + m) old E h63
    refine ⟨⟨hlen, hge, hcm, .inr ⟨w.heap.size, 0, _, rfl, heap_alloc_new w.drew _, ?_, ?_⟩⟩, ((Mod.refl S w).drew).alloc _⟩
    · simp only [Array.size_append, List.size_toArray, size_zeroCells, hzs, hv.1, hs.1, ← Nat.add_mul, Nat.zero_add]
      apply Nat.mul_le_mul_right
      omega
    · simp only [Array.toList_append, List.append_assoc, List.drop_zero]
      rw [← List.append_assoc, ← hlen]
      exact List.take_left
  obtain ⟨hsl, hsc, hscm, hs3⟩ := hs
  obtain ⟨hvl, hnc, hcm, hv3⟩ := id hv
  rcases hs3 with ⟨rfl, rfl⟩ | ⟨x, rfl, hcells⟩
  · -- nothing is appended
    obtain rfl : m = 0 := by omega
    have hx : news = [] := List.eq_nil_of_length_eq_zero (by simpa using hsl)
    subst hx
    rcases hv3 with ⟨rfl, rfl⟩ | ⟨b, off, c, rfl, hg, hfit, htake⟩
    · obtain rfl : n = 0 := by omega
      have hc : cs = [] := List.eq_nil_of_length_eq_zero (by simpa using hvl)
      subst hc
      refine ⟨none, 0, w, ?_, Sl.nil _ _ _, Mod.refl _ _, fun b hb => by simp [own] at hb, by simp, fun _ => ⟨rfl, rfl⟩⟩
      simp [Builtin.append_, run_underlying ht, sizeOf, typeInfo, hi, Builtin.lenOf, Builtin.firstCells]
    · have e0 : n + 0 ≤ cap := by omega
      refine ⟨some ⟨b, off, none⟩, cap, w, ?_, by simpa using hv, Mod.refl _ _, fun b hb => .inl hb, by simp, fun _ => ⟨rfl, rfl⟩⟩
      simp [Builtin.append_, run_underlying ht, sizeOf, typeInfo, hi, Builtin.lenOf, Builtin.firstCells, hnc, storeCells]
  · rcases hv3 with ⟨rfl, rfl⟩ | ⟨b, off, c, rfl, hg, hfit, htake⟩
    · obtain rfl : n = 0 := by omega
      have hc : cs = [] := List.eq_nil_of_length_eq_zero (by simpa using hvl)
      subst hc
      by_cases hm : m = 0
      · subst hm
        have hx : news = [] := List.eq_nil_of_length_eq_zero (by simpa using hsl)
        subst hx
        refine ⟨none, 0, w, ?_, Sl.nil _ _ _, Mod.refl _ _, fun b hb => by simp [own] at hb, by simp, fun _ => ⟨rfl, rfl⟩⟩
        simp [Builtin.append_, run_underlying ht, sizeOf, typeInfo, hi, Builtin.lenOf, Builtin.firstCells, loadCells, loadCellsFrom]
      · have hr := run_append_nil (P := P) w t ty E i z ht hi hz x m sc news hsl hcells (by omega) (by omega) (by
          have := fits 0 (by omega); rw [Nat.zero_add, nextslicecap_zero (by omega)] at this; exact this)
        have hgr := grown 0 (by omega) (fun b => own none = some b)
        simp only [Nat.zero_add, List.nil_append, Array.empty_append] at hgr ⊢
        exact ⟨_, _, _, hr, hgr.1, hgr.2, fun b hb => by simp [own] at hb ⊢; omega, by simp [hm], fun h => by omega⟩
    · by_cases hroom : n + m ≤ cap
      · have hfit2 : off + n * i.size + news.length ≤ c.size := by
          have : (n + m) * i.size ≤ cap * i.size := Nat.mul_le_mul_right _ hroom
          rw [Nat.add_mul] at this; rw [hsl]; omega
        have hf := run_firstCells_some (P := P) w i.size m x m sc news hsl hcells
        have hst := run_storeCells_at P b (off + n * i.size) E news 0 c w hg (by simpa using hfit2) h1
        simp only [Nat.add_zero] at hst
        refine ⟨some ⟨b, off, none⟩, cap, w.setRow b (c.toList.take (off + n * i.size) ++ news ++ c.toList.drop (off + n * i.size + news.length)).toArray, ?_, ⟨hlen, hroom, hcm, .inr ⟨b, off, _, rfl, setRow_heap w b c _ E _ hg, ?_, ?_⟩⟩, (Mod.refl _ w).setRow _ _ (fun _ => rfl), fun b hb => .inl hb, by simp, fun _ => ⟨rfl, rfl⟩⟩
        · simp [Builtin.append_, run_underlying ht, sizeOf, typeInfo, hi, Builtin.lenOf, hroom, hf, add_none, hst]
        · simp only [List.size_toArray, List.length_append, List.length_take, List.length_drop, Array.length_toList]
          omega
        · have e1 : c.toList.take (off + n * i.size) = c.toList.take off ++ cs := by
            rw [← htake]; exact List.take_add
          have e2 : (c.toList.take off).length = off := by rw [List.length_take, Array.length_toList]; omega
          show ((c.toList.take (off + n * i.size) ++ news ++ c.toList.drop (off + n * i.size + news.length)).drop off).take _ = _
          rw [e1, List.append_assoc, List.append_assoc, List.drop_append_of_le_length (by omega), List.drop_of_length_le (by omega), List.nil_append, ← List.append_assoc, ← hlen]
          exact List.take_left
      · have holds : ∀ j u, cs[j]? = some u → w.cell? ((⟨b, off, none⟩ : Addr).add j) = some u := fun j u hu => by
          obtain ⟨_, _, _, ⟨he, _⟩ | ⟨a', he, hh⟩⟩ := hv.rd
          · cases he
          · injection he with he; subst he; exact hh j u hu
        have hr := run_append_grow (P := P) w t ty E i z ht hi hz ⟨b, off, none⟩ n cap cs hvl holds x m sc news hsl hcells (by omega) (by omega) (fits cap (by omega))
        have hgr := grown cap (by omega) (fun y => own (some ⟨b, off, none⟩) = some y)
        exact ⟨_, _, _, hr, hgr.1, hgr.2, fun b hb => by simp [own] at hb ⊢; omega, by simp, fun h => absurd h hroom⟩

section
variable {P : Program} {ops : Array Oper} {rest : List Oper} {dst : Option Tmp} {ty0 : TypeId} {pos : String} {after : Array Edge} {a : Act} {w : World} {Q : Exit → Act → World → Prop}

/-- A guard: the goal is a list of operations. -/
theorem at_list {l : List Oper} (h : wpList P ops Q l a w) : wpList P ops Q l a w := h

/-- append, as an arm of the walk. -/
theorem wpList_append {xs xn : Operand} {t : TypeId} (E : TypeId) (i : TypeInfo) (z : Value) (k bytes : Nat) (ht : P.underlying t = some (.slice E)) (hi : P.info? E = some i) (hz : i.zero = some z)
    (hsize : i.size = k) (hby : i.bytes = bytes) (hzs : z.cells.size = k)
    (p : Option Addr) (n cap : Nat) (cs : List Value) (hx : a.eval xs = .slice p n cap) (hv : Sl w E k p n cap cs)
    (s : Option Addr) (m sc : Nat) (news : List Value) (hy : a.eval xn = .slice s m sc) (hs : Rd w k s m sc news) (h1 : ∀ u ∈ news, u.oneCell' = true)
    (h63 : n + m ≤ maxLen) (hb : ((n + m) + (n + m) / 4 + 512) * bytes ≤ 281474976710656)
    (h : ∀ p' cap' w', Sl w' E k p' (n + m) cap' (cs ++ news) → Mod (fun b => own p = some b) w w' → (∀ b, own p' = some b → own p = some b ∨ (w.heap.size ≤ b ∧ b < w'.heap.size)) → (p' = none ↔ p = none ∧ m = 0) → (n + m ≤ cap → p' = p ∧ cap' = cap) →
      wpList P ops Q rest (a.put dst (.slice p' (n + m) cap')) w') : wpList P ops Q (⟨dst, .call { callee := .builtin .append, args := #[xs, xn], argTypes := #[t, t] }, ty0, pos, after, none⟩ :: rest) a w :=
  wpList_plain rfl fun K hK => by
    obtain ⟨p', cap', w', hr, h2, h3, h4, h5, h6⟩ := append_law (P := P) w t ty0 E i z k bytes ht hi hz hsize hby hzs p n cap cs hv s m sc news hs h1 h63 hb
    unfold Oper.wp execOp
    simp only [resolve, invoke, builtin, Sem.run_bind, Sem.run_pure, Result.andThen_ok, List.map_toArray, List.map_cons, List.map_nil, hx, hy, hr]
    exact hK _ _ (h p' cap' w' h2 h3 h4 h5 h6)
end

/-! ### Reslicing -/

theorem Sl.cut {w : World} {E k : Nat} {p : Option Addr} {n cap : Nat} {cs : List Value} (hv : Sl w E k p n cap cs) (l h m : Nat) (hlh : l ≤ h) (hh : h ≤ n) (hm : h ≤ m) (hmc : m ≤ cap) :
    Sl w E k (if m = l then p else p.map (·.add (l * k))) (h - l) (m - l) ((cs.drop (l * k)).take ((h - l) * k)) ∧ own (if m = l then p else p.map (·.add (l * k))) = own p := by
  obtain ⟨hvl, hnc, hcm, hv3⟩ := hv
  have hlen : ((cs.drop (l * k)).take ((h - l) * k)).length = (h - l) * k := by
    rw [List.length_take, List.length_drop, hvl, ← Nat.sub_mul]
    exact Nat.min_eq_left (Nat.mul_le_mul_right _ (by omega))
  rcases hv3 with ⟨rfl, rfl⟩ | ⟨b, off, c, rfl, hg, hfit, htake⟩
  · exact ⟨⟨hlen, by omega, by omega, .inl ⟨by simp, by omega⟩⟩, by simp⟩
  · have ha : ∀ j, (⟨b, off, none⟩ : Addr).add j = ⟨b, off + j, none⟩ := add_none b off
    by_cases hml : m = l
    · have hz : h - l = 0 := by omega
      rw [if_pos hml]
      refine ⟨⟨hlen, by omega, by omega, .inr ⟨b, off, c, rfl, hg, ?_, ?_⟩⟩, rfl⟩
      · rw [hml, Nat.sub_self, Nat.zero_mul]; omega
      · rw [hz]; simp
    · rw [if_neg hml]
      refine ⟨⟨hlen, by omega, by omega, .inr ⟨b, off + l * k, c, by simp [ha], hg, ?_, ?_⟩⟩, by simp [own, ha]⟩
      · have : l * k + (m - l) * k ≤ cap * k := by rw [← Nat.add_mul]; exact Nat.mul_le_mul_right _ (by omega)
        omega
      · rw [← htake, List.drop_take, List.drop_drop, List.take_take]
        congr 1
        rw [Nat.min_eq_left]
        rw [← Nat.sub_mul]
        exact Nat.mul_le_mul_right _ (by omega)

theorem Sl.upto {w : World} {E k : Nat} {p : Option Addr} {n cap : Nat} {cs : List Value} (hv : Sl w E k p n cap cs) (h : Nat) (hh : h ≤ n) : Sl w E k p h cap (cs.take (h * k)) := by
  have h1 := (hv.cut 0 h cap (Nat.zero_le _) hh (Nat.le_trans hh hv.2.1) (Nat.le_refl _)).1
  have e : (if cap = 0 then p else p.map (·.add (0 * k))) = p := by
    have e0 : ∀ x : Addr, x.add 0 = x := fun x => by simp [Addr.add]
    split
    · rfl
    · cases p <;> simp [e0]
  rw [e] at h1
  simpa using h1

/-- .. also beyond its length, up to its capacity: then what it reads as isn't told. -/
theorem Sl.cutX {w : World} {E k : Nat} {p : Option Addr} {n cap : Nat} {cs : List Value} (hv : Sl w E k p n cap cs) (l h m : Nat) (hlh : l ≤ h) (hm : h ≤ m) (hmc : m ≤ cap) :
    (∃ cs', Sl w E k (if m = l then p else p.map (·.add (l * k))) (h - l) (m - l) cs') ∧ own (if m = l then p else p.map (·.add (l * k))) = own p := by
  obtain ⟨hvl, hnc, hcm, hv3⟩ := hv
  rcases hv3 with ⟨rfl, rfl⟩ | ⟨b, off, c, rfl, hg, hfit, htake⟩
  · have e0 : h - l = 0 := by omega
    exact ⟨⟨[], by simp [e0], by omega, by omega, .inl ⟨by simp, by omega⟩⟩, by simp⟩
  · have hlen : ((c.toList.drop off).take (cap * k)).length = cap * k := by
      rw [List.length_take, List.length_drop, Array.length_toList]; omega
    have hfull : Sl w E k (some ⟨b, off, none⟩) cap cap ((c.toList.drop off).take (cap * k)) := ⟨hlen, Nat.le_refl _, hcm, .inr ⟨b, off, c, rfl, hg, hfit, rfl⟩⟩
    obtain ⟨h1, h2⟩ := hfull.cut l h m hlh (by omega) hm hmc
    exact ⟨⟨_, h1⟩, h2⟩

theorem Rd.cut {w : World} {k : Nat} {p : Option Addr} {n cap : Nat} {cs : List Value} (hv : Rd w k p n cap cs) (l h m : Nat) (hlh : l ≤ h) (hh : h ≤ n) (hm : h ≤ m) (hmc : m ≤ cap) :
    Rd w k (if m = l then p else p.map (·.add (l * k))) (h - l) (m - l) ((cs.drop (l * k)).take ((h - l) * k)) ∧ own (if m = l then p else p.map (·.add (l * k))) = own p := by
  obtain ⟨hvl, hnc, hcm, hv3⟩ := hv
  have hlen : ((cs.drop (l * k)).take ((h - l) * k)).length = (h - l) * k := by
    rw [List.length_take, List.length_drop, hvl, ← Nat.sub_mul]
    exact Nat.min_eq_left (Nat.mul_le_mul_right _ (by omega))
  have hblk : ∀ (x : Addr) j, (x.add j).block = x.block := fun x j => by unfold Addr.add; split <;> rfl
  rcases hv3 with ⟨rfl, rfl⟩ | ⟨x, rfl, hc⟩
  · exact ⟨⟨hlen, by omega, by omega, .inl ⟨by simp, by omega⟩⟩, by simp⟩
  · by_cases hml : m = l
    · rw [if_pos hml]
      have hz : h - l = 0 := by omega
      refine ⟨⟨hlen, by omega, by omega, .inr ⟨x, rfl, ?_⟩⟩, rfl⟩
      rw [hz]; simp
    · rw [if_neg hml]
      refine ⟨⟨hlen, by omega, by omega, .inr ⟨x.add (l * k), rfl, fun j u hu => ?_⟩⟩, by simp [own, hblk]⟩
      rw [List.getElem?_take] at hu
      split at hu
      · rw [List.getElem?_drop] at hu
        have e : (x.add (l * k)).add j = x.add (l * k + j) := by
          unfold Addr.add
          by_cases h1 : l * k = 0 <;> by_cases h2 : j = 0 <;> simp [h1, h2, Nat.add_assoc]
        rw [e]; exact hc _ _ hu
      · cases hu

theorem Rd.upto {w : World} {k : Nat} {p : Option Addr} {n cap : Nat} {cs : List Value} (hv : Rd w k p n cap cs) (h : Nat) (hh : h ≤ n) : Rd w k p h cap (cs.take (h * k)) := by
  have h1 := (hv.cut 0 h cap (Nat.zero_le _) hh (Nat.le_trans hh hv.2.1) (Nat.le_refl _)).1
  have e : (if cap = 0 then p else p.map (·.add (0 * k))) = p := by
    have e0 : ∀ x : Addr, x.add 0 = x := fun x => by simp [Addr.add]
    split
    · rfl
    · cases p <;> simp [e0]
  rw [e] at h1
  simpa using h1

theorem Sl.drew {w : World} {E k : Nat} {p : Option Addr} {n cap : Nat} {cs : List Value} (h : Sl w E k p n cap cs) : Sl w.drew E k p n cap cs := h
theorem Rd.drew {w : World} {k : Nat} {p : Option Addr} {n cap : Nat} {cs : List Value} (h : Rd w k p n cap cs) : Rd w.drew k p n cap cs := h

section
variable {P : Program} (w : World) (t E k : Nat) (ht : P.underlying t = some (.slice E)) (hk : P.cellsOf E = k) (hi : (P.info? E).isSome = true) (p : Option Addr) (n cap : Nat)
include ht hk hi

theorem run_sizeOf_cells : (sizeOf E).run P w = .ok k w := by
  obtain ⟨i, hi'⟩ := Option.isSome_iff_exists.1 hi
  have : i.size = k := by rw [← hk]; simp [Program.cellsOf, hi']
  simp [sizeOf, typeInfo, hi', this]

theorem run_cut (lo hi' mx : Option Value) (l h m : Nat) (hb : (Instr.sliceBounds true n cap lo hi' mx).run P w = .ok (l, h, m) w) :
    (Instr.sliceAt t (.slice p n cap) lo hi' mx).run P w = .ok (.slice (if m = l then p else p.map (·.add (l * k))) (h - l) (m - l)) w := by
  have hs := run_sizeOf_cells w t E k ht hk hi
  simp [Instr.sliceAt, Instr.slice, run_underlying ht, hb, hs]
end

section
variable {P : Program} {ops : Array Oper} {rest : List Oper} {dst : Option Tmp} {ty0 : TypeId} {pos : String} {after : Array Edge} {a : Act} {w : World} {Q : Exit → Act → World → Prop}

theorem bounds_l (w : World) (n cap : Nat) (l : Int) (h0 : 0 ≤ l) (h1 : l ≤ n) : (Instr.sliceBounds true n cap (some (.int .i64 l)) none none).run P w = .ok (l.toNat, n, cap) w := by
  simp [Instr.sliceBounds, run_sliceBound, h0, h1]
theorem bounds_h (w : World) (n cap : Nat) (h : Int) (h0 : 0 ≤ h) (h1 : h ≤ cap) : (Instr.sliceBounds true n cap none (some (.int .i64 h)) none).run P w = .ok (0, h.toNat, cap) w := by
  simp [Instr.sliceBounds, run_sliceBound, h0, h1]
theorem bounds_lh (w : World) (n cap : Nat) (l h : Int) (h0 : 0 ≤ l) (h1 : l ≤ h) (h2 : h ≤ cap) : (Instr.sliceBounds true n cap (some (.int .i64 l)) (some (.int .i64 h)) none).run P w = .ok (l.toNat, h.toNat, cap) w := by
  have eh : (h.toNat : Int) = h := Int.toNat_of_nonneg (by omega)
  simp [Instr.sliceBounds, run_sliceBound, h0, h1, h2, eh, (by omega : 0 ≤ h)]
theorem bounds_hm (w : World) (n cap : Nat) (h m : Int) (h0 : 0 ≤ h) (h1 : h ≤ m) (h2 : m ≤ cap) : (Instr.sliceBounds true n cap none (some (.int .i64 h)) (some (.int .i64 m))).run P w = .ok (0, h.toNat, m.toNat) w := by
  have eh : (m.toNat : Int) = m := Int.toNat_of_nonneg (by omega)
  simp [Instr.sliceBounds, run_sliceBound, h0, h1, h2, eh, (by omega : 0 ≤ m)]

/-- A slice resliced, as an arm of the walk: the bounds are 'bounds_l', 'bounds_h', .. -/
theorem wpList_cut {t : TypeId} {x : Operand} {lo hi mx : Option Operand} (E k : Nat) (ht : P.underlying t = some (.slice E)) (hk : P.cellsOf E = k) (hinf : (P.info? E).isSome = true)
    (p : Option Addr) (n cap : Nat) (cs : List Value) (hx : a.eval x = .slice p n cap) (hv : Sl w E k p n cap cs)
    (lv hv' mv : Option Value) (hlo : lo.map a.eval = lv) (hhi : hi.map a.eval = hv') (hmx : mx.map a.eval = mv)
    (l h m : Nat) (hb : (Instr.sliceBounds true n cap lv hv' mv).run P w = .ok (l, h, m) w) (hlh : l ≤ h) (hh : h ≤ n) (hm : h ≤ m) (hmc : m ≤ cap)
    (hn : ∀ p', Sl w E k p' (h - l) (m - l) ((cs.drop (l * k)).take ((h - l) * k)) → own p' = own p → wpList P ops Q rest (a.put dst (.slice p' (h - l) (m - l))) w) : wpList P ops Q (⟨dst, .slice t x lo hi mx, ty0, pos, after, none⟩ :: rest) a w :=
  wpList_plain rfl fun K hK => by
    have hr := run_cut (P := P) w t E k ht hk hinf p n cap lv hv' mv l h m hb
    obtain ⟨h1, h2⟩ := hv.cut l h m hlh hh hm hmc
    unfold Oper.wp execOp
    simp only [hlo, hhi, hmx, hx, Sem.run_bind, Sem.run_pure, hr, Result.andThen_ok]
    exact hK _ _ (hn _ h1 h2)

theorem wpList_cutX {t : TypeId} {x : Operand} {lo hi mx : Option Operand} (E k : Nat) (ht : P.underlying t = some (.slice E)) (hk : P.cellsOf E = k) (hinf : (P.info? E).isSome = true)
    (p : Option Addr) (n cap : Nat) (cs : List Value) (hx : a.eval x = .slice p n cap) (hv : Sl w E k p n cap cs)
    (lv hv' mv : Option Value) (hlo : lo.map a.eval = lv) (hhi : hi.map a.eval = hv') (hmx : mx.map a.eval = mv)
    (l h m : Nat) (hb : (Instr.sliceBounds true n cap lv hv' mv).run P w = .ok (l, h, m) w) (hlh : l ≤ h) (hm : h ≤ m) (hmc : m ≤ cap)
    (hn : ∀ p' cs', Hid (p' = (if m = l then p else p.map (·.add (l * k)))) → Sl w E k p' (h - l) (m - l) cs' → own p' = own p → wpList P ops Q rest (a.put dst (.slice p' (h - l) (m - l))) w) : wpList P ops Q (⟨dst, .slice t x lo hi mx, ty0, pos, after, none⟩ :: rest) a w :=
  wpList_plain rfl fun K hK => by
    have hr := run_cut (P := P) w t E k ht hk hinf p n cap lv hv' mv l h m hb
    obtain ⟨⟨cs', h1⟩, h2⟩ := hv.cutX l h m hlh hm hmc
    unfold Oper.wp execOp
    simp only [hlo, hhi, hmx, hx, Sem.run_bind, Sem.run_pure, hr, Result.andThen_ok]
    exact hK _ _ (hn _ _ rfl h1 h2)

theorem wpList_cutR {t : TypeId} {x : Operand} {lo hi mx : Option Operand} (E k : Nat) (ht : P.underlying t = some (.slice E)) (hk : P.cellsOf E = k) (hinf : (P.info? E).isSome = true)
    (p : Option Addr) (n cap : Nat) (cs : List Value) (hx : a.eval x = .slice p n cap) (hv : Rd w k p n cap cs)
    (lv hv' mv : Option Value) (hlo : lo.map a.eval = lv) (hhi : hi.map a.eval = hv') (hmx : mx.map a.eval = mv)
    (l h m : Nat) (hb : (Instr.sliceBounds true n cap lv hv' mv).run P w = .ok (l, h, m) w) (hlh : l ≤ h) (hh : h ≤ n) (hm : h ≤ m) (hmc : m ≤ cap)
    (hn : ∀ p', Rd w k p' (h - l) (m - l) ((cs.drop (l * k)).take ((h - l) * k)) → own p' = own p → wpList P ops Q rest (a.put dst (.slice p' (h - l) (m - l))) w) : wpList P ops Q (⟨dst, .slice t x lo hi mx, ty0, pos, after, none⟩ :: rest) a w :=
  wpList_plain rfl fun K hK => by
    have hr := run_cut (P := P) w t E k ht hk hinf p n cap lv hv' mv l h m hb
    obtain ⟨h1, h2⟩ := hv.cut l h m hlh hh hm hmc
    unfold Oper.wp execOp
    simp only [hlo, hhi, hmx, hx, Sem.run_bind, Sem.run_pure, hr, Result.andThen_ok]
    exact hK _ _ (hn _ h1 h2)
end

/-! ### clear, and whole structs -/

theorem drop_take_of_add {α : Type} (l : List α) (off n : Nat) : (l.take (off + n)).drop off = (l.drop off).take n := by
  rw [List.drop_take]; congr 1; omega


/-- A list with others in the place of what stands from o on. -/
def splice (c : List Value) (o : Nat) (cs : List Value) : List Value := c.take o ++ cs ++ c.drop (o + cs.length)

theorem splice_length {c : List Value} {o : Nat} {cs : List Value} (h : o + cs.length ≤ c.length) : (splice c o cs).length = c.length := by
  simp only [splice, List.length_append, List.length_take, List.length_drop]; omega

/-- What lies outside of the cells that are written stands. -/
theorem splice_before {c : List Value} {o : Nat} {cs : List Value} {off n : Nat} (h : o + cs.length ≤ c.length) (hn : off + n ≤ o) : ((splice c o cs).drop off).take n = (c.drop off).take n := by
  simp only [splice]
  rw [List.append_assoc, List.drop_append_of_le_length (by rw [List.length_take]; omega), List.take_append_of_le_length (by rw [List.length_drop, List.length_take]; omega), List.drop_take, List.take_take]
  congr 1
  omega

/-- The cells that are written. -/
theorem splice_at {c : List Value} {o : Nat} {cs : List Value} (h : o + cs.length ≤ c.length) : ((splice c o cs).drop o).take cs.length = cs := by
  simp only [splice]
  rw [List.append_assoc, List.drop_append_of_le_length (by rw [List.length_take]; omega), List.drop_of_length_le (by rw [List.length_take]; omega), List.nil_append]
  exact List.take_left

theorem splice_behind {c : List Value} {o : Nat} {cs : List Value} {off : Nat} (h : o + cs.length ≤ c.length) (hn : o + cs.length ≤ off) : (splice c o cs).drop off = c.drop off := by
  simp only [splice]
  have e : (c.take o ++ cs).length = o + cs.length := by rw [List.length_append, List.length_take]; omega
  rw [List.drop_append, List.drop_of_length_le (by omega), List.nil_append, List.drop_drop, e]
  congr 1
  omega

theorem run_loadAt_chunk {P : Program} (w : World) (ty k : Nat) (d : TypeDesc) (hu : P.underlying ty = some d) (hd : (match d with | .struct _ | .array _ _ => true | _ => false) = true) (hi : (P.info? ty).map (·.size) = some k)
    (ad : Addr) (cs : List Value) (hl : cs.length = k) (hc : ∀ j u, cs[j]? = some u → w.cell? (ad.add j) = some u) :
    (Instr.loadAt ty (.pointer (some ad))).run P w = .ok (.agg cs.toArray) w := by
  obtain ⟨i, hi1, hi2⟩ := Option.map_eq_some_iff.1 hi
  have hld := run_loadCells_list (P := P) w ad cs hc
  rw [hl] at hld
  have hagg : (isAgg ty).run P w = .ok true w := by
    cases d <;> simp at hd <;> simp [isAgg, run_underlying hu]
  simp [Instr.loadAt, loadVar, hagg, sizeOf, typeInfo, hi1, hi2, hld, Instr.sureAddr]

theorem run_storeAt_chunk {P : Program} (w : World) (ty k : Nat) (hi : (P.info? ty).map (·.size) = some k)
    (b o : Nat) (c : Array Value) (E : TypeId) (hg : w.heap[b]? = some (.cells c E (0, 0))) (cs : List Value) (hl : cs.length = k) (hfit : o + k ≤ c.size) (h1 : ∀ u ∈ cs, u.oneCell' = true) :
    (Instr.storeAt ty (.pointer (some ⟨b, o, none⟩)) (.agg cs.toArray)).run P w = .ok () (w.setRow b (splice c.toList o cs).toArray) := by
  obtain ⟨i, hi1, hi2⟩ := Option.map_eq_some_iff.1 hi
  subst hl
  have hst := run_storeCells_at P b o E cs 0 c w hg (by simpa using hfit) h1
  simp only [Nat.add_zero] at hst
  simp [Instr.storeAt, storeVar, sizeOf, typeInfo, hi1, hi2, Instr.sureAddr, Value.cells, hst, splice]

section
variable {P : Program} {ops : Array Oper} {rest : List Oper} {dst : Option Tmp} {ty0 : TypeId} {pos : String} {after : Array Edge} {a : Act} {w : World} {Q : Exit → Act → World → Prop}

/-- A whole struct loaded. -/
theorem wpList_load_chunk {ty : TypeId} {x : Operand} (k : Nat) (d : TypeDesc) (hu : P.underlying ty = some d) (hd : (match d with | .struct _ | .array _ _ => true | _ => false) = true) (hi : (P.info? ty).map (·.size) = some k)
    (ad : Addr) (hx : a.eval x = .pointer (some ad)) (cs : List Value) (hl : cs.length = k) (hc : ∀ j u, cs[j]? = some u → w.cell? (ad.add j) = some u)
    (h : wpList P ops Q rest (a.put dst (.agg cs.toArray)) w) : wpList P ops Q (⟨dst, .load ty x, ty0, pos, after, none⟩ :: rest) a w :=
  wpList_plain rfl fun K hK => by
    have hr := run_loadAt_chunk (P := P) w ty k d hu hd hi ad cs hl hc
    unfold Oper.wp execOp
    simp only [hx, Sem.run_bind, Sem.run_pure, hr, Result.andThen_ok]
    exact hK _ _ h

/-- A whole struct stored into a block. -/
theorem wpList_store_chunk {ty : TypeId} {x y : Operand} (k : Nat) (hi : (P.info? ty).map (·.size) = some k)
    (b off : Nat) (hx : a.eval x = .pointer (some ⟨b, off, none⟩)) (c : Array Value) (E : TypeId) (hg : w.heap[b]? = some (.cells c E (0, 0)))
    (v : Value) (hy : a.eval y = v) (cs : List Value) (hv : v = .agg cs.toArray) (hl : cs.length = k) (hfit : off + k ≤ c.size) (h1 : ∀ u ∈ cs, u.oneCell' = true)
    (h : ∀ w', w'.heap[b]? = some (.cells (splice c.toList off cs).toArray E (0, 0)) → Mod (fun x => x = b) w w' → w'.heap.size = w.heap.size → wpList P ops Q rest a w') : wpList P ops Q (⟨none, .store ty x y, ty0, pos, after, none⟩ :: rest) a w :=
  wpList_plain rfl fun K hK => by
    have hr := run_storeAt_chunk (P := P) w ty k hi b off c E hg cs hl hfit h1
    subst hv
    unfold Oper.wp execOp
    simp only [hx, hy, Sem.run_bind, Sem.run_pure, hr, Result.andThen_ok]
    exact hK _ _ (h _ (setRow_heap w b c _ E _ hg) ((Mod.refl _ w).setRow _ _ (fun _ => rfl)) (size_setRow _ _ _))

/-- A whole struct stored into the block that is its own. -/
theorem wpList_store_whole {ty : TypeId} {x y : Operand} (k : Nat) (hi : (P.info? ty).map (·.size) = some k)
    (b : Nat) (hx : a.eval x = .pointer (some ⟨b, 0, none⟩)) (c : Array Value) (E : TypeId) (hg : w.heap[b]? = some (.cells c E (0, 0))) (hk : c.size = k)
    (cs : List Value) (hy : a.eval y = .agg cs.toArray) (hl : cs.length = k) (h1 : cs.all (·.oneCell') = true)
    (h : ∀ w', w'.heap[b]? = some (.cells cs.toArray E (0, 0)) → Mod (fun x => x = b) w w' → w'.heap.size = w.heap.size → wpList P ops Q rest a w') : wpList P ops Q (⟨none, .store ty x y, ty0, pos, after, none⟩ :: rest) a w :=
  wpList_store_chunk k hi b 0 hx c E hg _ hy cs rfl hl (by omega) (fun u hu => List.all_eq_true.1 h1 u hu) fun w' h2 h3 h4 => h w' (by
    have e : splice c.toList 0 cs = cs := by
      simp only [splice, List.take_zero, List.nil_append, Nat.zero_add]
      rw [List.drop_of_length_le (by simp; omega), List.append_nil]
    rw [e] at h2; exact h2) h3 h4

theorem mem_zeroCells {z : Array Value} {n : Nat} {u : Value} (h : u ∈ (Builtin.zeroCells z n).toList) (hz : ∀ v ∈ z.toList, v.oneCell' = true) (h0 : 0 < z.size) : u.oneCell' = true := by
  simp only [Builtin.zeroCells, Array.toList_map, List.mem_map] at h
  obtain ⟨i, _, rfl⟩ := h
  have hlt : i % z.size < z.size := Nat.mod_lt _ h0
  rw [getElem!_pos z _ hlt]
  exact hz _ (by simp)

/-- The cells ahead of what was cleared stand. -/
theorem Sl.clear_rest {w w' : World} {E k : Nat} {p : Option Addr} {n cap m : Nat} {cs : List Value} (hv : Sl w E k p n cap cs) (hnm : n ≤ m) (hmc : m ≤ cap) (hk : m - n = 0 → w' = w)
    (hc : ∀ b off c, (if cap = n then p else p.map (·.add (n * k))) = some ⟨b, off, none⟩ → w.heap[b]? = some (.cells c E (0, 0)) → ∃ c', w'.heap[b]? = some (.cells c' E (0, 0)) ∧ c'.size = c.size ∧ c'.toList.take off = c.toList.take off) :
    Sl w' E k p n cap cs := by
  by_cases h0 : m - n = 0
  · rw [hk h0]; exact hv
  · obtain ⟨hvl, hnc, hcm, hv3⟩ := hv
    rcases hv3 with ⟨rfl, rfl⟩ | ⟨b, off, c, rfl, hg, hfit, htake⟩
    · omega
    · rw [if_neg (by omega)] at hc
      obtain ⟨c', h1, h2, h3⟩ := hc b (off + n * k) c (by simp [add_none]) hg
      refine ⟨hvl, hnc, hcm, .inr ⟨b, off, c', rfl, h1, by omega, ?_⟩⟩
      rw [← htake, ← drop_take_of_add, ← drop_take_of_add, h3]

/-- clear of a slice. -/
theorem wpList_clear {x : Operand} {t : TypeId} (E : TypeId) (i : TypeInfo) (z : Value) (k : Nat) (ht : P.underlying t = some (.slice E)) (hi : P.info? E = some i) (hz : i.zero = some z) (hzs : z.cells.size = k) (hk0 : 0 < k) (hz1 : z.cells.toList.all (·.oneCell') = true)
    (p : Option Addr) (n cap : Nat) (cs : List Value) (hx : a.eval x = .slice p n cap) (hv : Sl w E k p n cap cs)
    (h : ∀ w', Mod (fun b => own p = some b) w w' → w'.heap.size = w.heap.size → (n = 0 → w' = w) →
      (∀ b off c, p = some ⟨b, off, none⟩ → w.heap[b]? = some (.cells c E (0, 0)) → ∃ c', w'.heap[b]? = some (.cells c' E (0, 0)) ∧ c'.size = c.size ∧ c'.toList.take off = c.toList.take off) →
      wpList P ops Q rest a w') : wpList P ops Q (⟨none, .call { callee := .builtin .clear, args := #[x], argTypes := #[t] }, ty0, pos, after, none⟩ :: rest) a w :=
  wpList_plain rfl fun K hK => by
    have key : ∃ w', (Builtin.clear_ #[t] ty0 #[.slice p n cap]).run P w = .ok (.tuple #[]) w' ∧ Mod (fun b => own p = some b) w w' ∧ w'.heap.size = w.heap.size ∧ (n = 0 → w' = w) ∧
        (∀ b off c, p = some ⟨b, off, none⟩ → w.heap[b]? = some (.cells c E (0, 0)) → ∃ c', w'.heap[b]? = some (.cells c' E (0, 0)) ∧ c'.size = c.size ∧ c'.toList.take off = c.toList.take off) := by
      obtain ⟨hvl, hnc, hcm, hv3⟩ := hv
      rcases hv3 with ⟨rfl, rfl⟩ | ⟨b, off, c, rfl, hg, hfit, htake⟩
      · exact ⟨w, by simp [Builtin.clear_, run_underlying ht], Mod.refl _ _, rfl, fun _ => rfl, fun b off c hp => by cases hp⟩
      · by_cases hn : n = 0
        · subst hn
          exact ⟨w, by simp [Builtin.clear_, run_underlying ht], Mod.refl _ _, rfl, fun _ => rfl, fun b off c _ hc => ⟨c, hc, rfl, rfl⟩⟩
        · have hl : (Builtin.zeroCells z.cells n).toList.length = n * k := by rw [Array.length_toList, size_zeroCells, hzs]
          have hnk : n * k ≤ cap * k := Nat.mul_le_mul_right _ hnc
          have hst := run_storeCells_at P b off E (Builtin.zeroCells z.cells n).toList 0 c w hg (by rw [hl]; omega) (fun u hu => mem_zeroCells hu (fun v hv => by simpa using List.all_eq_true.1 hz1 v hv) (by omega))
          simp only [Nat.add_zero] at hst
          refine ⟨w.setRow b (splice c.toList off (Builtin.zeroCells z.cells n).toList).toArray, ?_, (Mod.refl _ w).setRow _ _ (fun _ => rfl), size_setRow _ _ _, fun h => absurd h hn, ?_⟩
          · simp [Builtin.clear_, run_underlying ht, zeroValue, typeInfo, hi, hz, hst, splice, hn]
          · intro b' off' c' hp hc'
            injection hp with hp; injection hp with h1 h2; subst h1 h2
            rw [hg] at hc'; injection hc' with hc'; injection hc' with hc'; subst hc'
            refine ⟨_, setRow_heap w b c _ E _ hg, ?_, ?_⟩
            · have := splice_length (c := c.toList) (o := off) (cs := (Builtin.zeroCells z.cells n).toList) (by rw [hl, Array.length_toList]; omega)
              simpa using this
            · have := splice_before (c := c.toList) (o := off) (cs := (Builtin.zeroCells z.cells n).toList) (off := 0) (n := off) (by rw [hl, Array.length_toList]; omega) (by omega)
              simpa using this
    obtain ⟨w', hr, h1, h2, h3, h4⟩ := key
    unfold Oper.wp execOp
    simp only [resolve, invoke, builtin, Sem.run_bind, Sem.run_pure, Result.andThen_ok, List.map_toArray, List.map_cons, List.map_nil, hx, hr]
    exact hK _ _ (h w' h1 h2 h3 h4)
end

/-! ### Results that lie in memory -/

theorem results_cell_tmp {P : Program} {fn : Func} {p t : Tmp} {ty : TypeId} (h : fn.results = #[.cell p ty, .tmp t]) (tmps : Array Value) (w : World) (g : Nat) (T : TypeId) (cs : Array Value) (fr : Nat × Nat) (d : TypeDesc)
    (hp : tmps.getD p undef = .pointer (some ⟨g, 0, none⟩)) (hg : w.heap[g]? = some (.cells cs T fr))
    (hu : P.underlying ty = some d) (hd : (match d with | .struct _ | .array _ _ => true | _ => false) = true) (hi : (P.info? ty).map (·.size) = some cs.size) :
    (results fn tmps).run P w = .ok (.tuple #[.agg cs, tmps.getD t undef]) w := by
  have hp' : tmps[p]?.getD undef = .pointer (some ⟨g, 0, none⟩) := by simpa using hp
  simp [results, h, hp', asAddr, run_loadVar_row w g T ty cs fr d hg hu hd hi]
end

section
open Go.RowKit

theorem xor_ones (x : Nat) (h : x < 2 ^ 64) : x ^^^ (2 ^ 64 - 1) = 2 ^ 64 - (x + 1) := by
  apply Nat.eq_of_testBit_eq
  intro i
  rw [Nat.testBit_xor, Nat.testBit_two_pow_sub_succ h, Nat.testBit_two_pow_sub_one]
  by_cases hi : i < 64
  · simp [hi]
  · have hb : x.testBit i = false := Nat.testBit_lt_two_pow (Nat.lt_of_lt_of_le h (Nat.pow_le_pow_right (by omega) (by omega)))
    simp [hi, hb]

def zig (n : Int) : Nat := if 0 ≤ n then (2 * n).toNat else (-2 * n - 1).toNat

theorem zig_eq (n : Int) (h0 : -9223372036854775808 ≤ n) (h1 : n ≤ 9223372036854775807) :
    bits .xor .u64 (IntKind.u64.wrap (IntKind.u64.wrap n * 2)) (IntKind.u64.wrap (n / 9223372036854775808)) = (zig n : Int) := by
  simp only [IntKind.wrap_u64]
  by_cases hn : 0 ≤ n
  · have e1 : n % 18446744073709551616 * 2 % 18446744073709551616 = ((2 * n).toNat : Int) := by omega
    have e2 : n / 9223372036854775808 % 18446744073709551616 = ((0 : Nat) : Int) := by omega
    rw [e1, e2, u64_xor_nat _ _ (by omega) (by omega), Nat.xor_zero, zig, if_pos hn]
  · have e1 : n % 18446744073709551616 * 2 % 18446744073709551616 = ((18446744073709551616 + 2 * n).toNat : Int) := by omega
    have e2 : n / 9223372036854775808 % 18446744073709551616 = ((18446744073709551615 : Nat) : Int) := by omega
    have hx := xor_ones (18446744073709551616 + 2 * n).toNat (by omega)
    rw [e1, e2, u64_xor_nat _ _ (by omega) (by omega)]
    rw [show (18446744073709551615 : Nat) = 2 ^ 64 - 1 from rfl, hx, zig, if_neg hn]
    omega

theorem zig_lt (n : Int) (h0 : -9223372036854775808 ≤ n) (h1 : n ≤ 9223372036854775807) : zig n < 18446744073709551616 := by
  unfold zig; split <;> omega

/-- One byte's seven bits, joined on top of what was taken up. -/
theorem seven_step (u k c : Nat) (hu : u < 128 ^ k) (hk : k ≤ 9) (hc : c < 256) (h9 : k = 9 → c ≤ 1) :
    bits .or .u64 (u : Int) (IntKind.u64.wrap (IntKind.u64.wrap (bits .and .u8 (c : Int) 127) * 2 ^ (7 * k))) = ((u + c % 128 * 128 ^ k : Nat) : Int) := by
  have e0 : (128 : Nat) ^ k = 2 ^ (7 * k) := by rw [Nat.pow_mul]
  have e1 : bits .and .u8 (c : Int) 127 = ((c % 128 : Nat) : Int) := by
    rw [show (127 : Int) = ((127 : Nat) : Int) from rfl, u8_and_nat c 127 hc (by omega), nat_mask7]
  have e2 : ((c % 128 : Nat) : Int) % 18446744073709551616 = ((c % 128 : Nat) : Int) := by omega
  have hlt : c % 128 * 128 ^ k < 18446744073709551616 := by
    rcases Nat.lt_or_ge k 9 with h | h
    · have h3 : (128 : Nat) ^ k ≤ 128 ^ 8 := Nat.pow_le_pow_right (by omega) (by omega)
      have h4 : c % 128 * 128 ^ k ≤ 127 * 128 ^ 8 := Nat.mul_le_mul (by omega) h3
      have h5 : 127 * (128 : Nat) ^ 8 < 18446744073709551616 := by decide
      omega
    · obtain rfl : k = 9 := by omega
      have h1 := h9 rfl
      have h2 : c % 128 ≤ 1 := by omega
      exact Nat.lt_of_le_of_lt (Nat.mul_le_mul_right (128 ^ 9) h2) (by decide)
  have hul : u < 18446744073709551616 := by
    have h3 : (128 : Nat) ^ k ≤ 128 ^ 9 := Nat.pow_le_pow_right (by omega) hk
    exact Nat.lt_of_lt_of_le hu (Nat.le_trans h3 (by decide))
  have e3 : (((c % 128 : Nat) : Int) * 2 ^ (7 * k)) = ((c % 128 * 128 ^ k : Nat) : Int) := by
    rw [e0, Int.natCast_mul, Int.natCast_pow]; rfl
  simp only [IntKind.wrap_u64, e1, e2, e3]
  rw [show ((c % 128 * 128 ^ k : Nat) : Int) % 18446744073709551616 = ((c % 128 * 128 ^ k : Nat) : Int) by omega]
  rw [u64_or_nat _ _ hul hlt, Nat.or_comm, nat_join (7 * k) _ _ (by rw [← e0]; exact Nat.mul_mod_left _ _) (by rw [← e0]; exact hu), Nat.add_comm]
end

section
open Go.RowKit
set_option linter.unusedSectionVars false
set_option linter.unusedSimpArgs false
set_option linter.unusedVariables false

/-- Bytes as cells. -/
def bc (bs : List UInt8) : List Value := bs.map fun b => .int .u8 b.toNat
theorem bc_append (a b : List UInt8) : bc (a ++ b) = bc a ++ bc b := List.map_append
theorem bc_length (a : List UInt8) : (bc a).length = a.length := List.length_map ..
theorem bc_one (a : List UInt8) : ∀ u ∈ bc a, u.oneCell' = true := by
  intro u hu
  obtain ⟨b, _, rfl⟩ := List.mem_map.1 hu
  rfl
theorem bc_take (a : List UInt8) (n : Nat) : (bc a).take n = bc (a.take n) := List.map_take.symm
theorem bc_drop (a : List UInt8) (n : Nat) : (bc a).drop n = bc (a.drop n) := List.map_drop.symm
theorem bc_get (a : List UInt8) (n : Nat) (b : UInt8) (h : a[n]? = some b) : (bc a)[n]? = some (.int .u8 b.toNat) := by
  simp [bc, h]

theorem freeze_new (w : World) (c : Array Value) (e : TypeId) (k : Nat) : (w.alloc (.cells c e)).freeze ⟨w.heap.size, k, none⟩ 1 = w.alloc (.cells c e (k, k + 1)) := by
  have hm : ∀ (a : Array Obj) (x : Obj) (f : Obj → Obj), (a.push x).modify a.size f = a.push (f x) := by
    intro a x f
    apply Array.ext
    · simp
    · intro i h1 h2
      simp only [Array.getElem_modify, Array.getElem_push]
      by_cases h : a.size = i
      · subst h; simp
      · have hi : i < a.size := by simp at h1; omega
        simp [h, hi]
  unfold World.freeze
  rw [if_neg (by decide)]
  show ({ w.alloc (.cells c e) with heap := (w.heap.push (.cells c e)).modify w.heap.size _ } : World) = _
  rw [hm]
  rfl

theorem toBytes_law {P : Program} (w : World) (src dst e : TypeId) (hs : P.underlying src = some .string) (hd : P.underlying dst = some (.slice e)) (he : P.underlying e = some (.int .u8)) (s : ByteArray) (hm : s.size ≤ maxLen) :
    ∃ cap w', (convert src dst (.string s)).run P w = .ok (.slice (some ⟨w.heap.size, 0, none⟩) s.size cap) w' ∧ Rd w' 1 (some ⟨w.heap.size, 0, none⟩) s.size cap (bc s.data.toList) ∧ Mod (fun _ => False) w w' ∧ w'.heap.size = w.heap.size + 1 := by
  obtain ⟨cap, hcap⟩ : ∃ cap, (Question.appendCap s.size 0 e).cut (w.tape w.drawn (.appendCap s.size 0 e)) = cap := ⟨_, rfl⟩
  have hge : s.size ≤ cap := by rw [← hcap]; exact grownCap_ge w s.size 0 e
  have hle : cap ≤ maxLen := by rw [← hcap]; exact grownCap_le_maxLen w s.size 0 e hm
  obtain ⟨C, hC⟩ : ∃ C : Array Value, (s.data.map fun b => Value.int .u8 b.toNat) ++ Array.replicate (cap - s.size) (.int .u8 0) = C := ⟨_, rfl⟩
  have hsh : (w.drew.alloc (.cells C e)).shape? w.heap.size = some (e, C.size) := by
    have : (w.drew.alloc (.cells C e)).heap[w.heap.size]? = some (.cells C e) := heap_alloc_new w.drew _
    unfold World.shape?
    rw [this]
  have hfr := freeze_new w.drew C e C.size
  refine ⟨cap, w.drew.alloc (.cells C e (C.size, C.size + 1)), ?_, ?_, ((Mod.refl _ w).drew).alloc _, by simp⟩
  · simp only [World.size_drew] at hfr
    simp [convert, run_underlying hs, run_underlying hd, run_underlying he, Conv.stringToBytes, Question.forced, hcap, hC, newRow, markStringish, hsh, hfr]
  · have hl : (bc s.data.toList).length = s.size := by rw [bc_length, Array.length_toList]; rfl
    refine ⟨by rw [hl, Nat.mul_one], hge, hle, .inr ⟨_, rfl, fun j u hu => ?_⟩⟩
    have hrow := cell_of_row (w.drew.alloc (.cells C e (C.size, C.size + 1))) w.heap.size j C e (C.size, C.size + 1) (heap_alloc_new w.drew _)
    rw [add_none, Nat.zero_add, hrow]
    have hj : j < s.size := by rw [← hl]; exact (List.getElem?_eq_some_iff.1 hu).1
    rw [← hC, Array.getElem?_append_left (by rw [Array.size_map]; exact hj)]
    simp only [bc, List.getElem?_map, Array.getElem?_toList] at hu
    simpa using hu

theorem push_bytes : ∀ (ns : List Int) (s : ByteArray), ns.foldl (fun r n => r.push (UInt8.ofNat n.toNat)) s = ⟨s.data ++ (ns.map fun n => UInt8.ofNat n.toNat).toArray⟩ := foldl_push_bytes

theorem toString_law {P : Program} (w : World) (src dst e : TypeId) (hs : P.underlying src = some (.slice e)) (he : P.underlying e = some (.int .u8)) (hd : P.underlying dst = some .string)
    (a : Option Addr) (n cap : Nat) (bs : List UInt8) (h : Rd w 1 a n cap (bc bs)) : (convert src dst (.slice a n cap)).run P w = .ok (.string ⟨bs.toArray⟩) w := by
  obtain ⟨hl, hn, hm, ⟨rfl, hc⟩ | ⟨x, rfl, hcell⟩⟩ := h
  · rw [bc_length] at hl
    have : bs = [] := List.eq_nil_of_length_eq_zero (by omega)
    subst this
    rw [run_convert_bytes_string w src dst e none n cap hs he hd]
    rfl
  · have hld := run_loadCells_list (P := P) w x (bc bs) hcell
    rw [hl, Nat.mul_one] at hld
    have hld' : (loadCells x n).run P w = .ok ((bs.map fun b => (b.toNat : Int)).map (Value.int .u8)).toArray w := by
      rw [hld]; simp [bc]
    rw [run_convert_bytes_string w src dst e _ n cap hs he hd, run_bytesToString w x n cap _ hld', push_bytes]
    congr 2
    have e1 : (bs.map fun b => (b.toNat : Int)).map (fun n => UInt8.ofNat n.toNat) = bs := by
      rw [List.map_map]
      conv => rhs; rw [← List.map_id bs]
      apply List.map_congr_left
      intro b _
      simp
    rw [e1]
    congr 1
    simp

/-- A byte's cell. -/
theorem Rd.byte {w : World} {a : Option Addr} {n cap : Nat} {bs : List UInt8} (h : Rd w 1 a n cap (bc bs)) {k : Nat} {c : UInt8} (hc : bs[k]? = some c) :
    ∃ b o, a = some ⟨b, o, none⟩ ∧ w.cell? ⟨b, o + k, none⟩ = some (.int .u8 c.toNat) := by
  obtain ⟨hl, hn, hm, ⟨rfl, h0⟩ | ⟨x, rfl, hcell⟩⟩ := h
  · have hlt : k < bs.length := (List.getElem?_eq_some_iff.1 hc).1
    rw [bc_length] at hl; omega
  · have key := hcell k _ (bc_get bs k c hc)
    obtain ⟨b, o, sp⟩ := x
    have hs : sp = none := by
      have h0 : k < bs.length := (List.getElem?_eq_some_iff.1 hc).1
      have := hcell 0 _ (bc_get bs 0 (bs[0]'(by omega)) (List.getElem?_eq_getElem _))
      simp [Addr.add, World.cell?] at this
      split at this
      · cases sp <;> simp at this ⊢
      · cases this
    subst hs
    rw [add_none] at key
    exact ⟨b, o, rfl, key⟩

section
variable {P : Program} {ops : Array Oper} {rest : List Oper} {dst : Option Tmp} {ty0 : TypeId} {pos : String} {after : Array Edge} {a : Act} {w : World} {Q : Exit → Act → World → Prop}

theorem wpList_toBytes {src dt : TypeId} {x : Operand} (e : TypeId) (hs : P.underlying src = some .string) (hd : P.underlying dt = some (.slice e)) (he : P.underlying e = some (.int .u8)) (s : ByteArray) (hx : a.eval x = .string s) (hm : s.size ≤ maxLen)
    (h : ∀ cap w', Rd w' 1 (some ⟨w.heap.size, 0, none⟩) s.size cap (bc s.data.toList) → Mod (fun _ => False) w w' → w'.heap.size = w.heap.size + 1 → wpList P ops Q rest (a.put dst (.slice (some ⟨w.heap.size, 0, none⟩) s.size cap)) w') :
    wpList P ops Q (⟨dst, .convert src dt x, ty0, pos, after, none⟩ :: rest) a w :=
  wpList_plain rfl fun K hK => by
    obtain ⟨cap, w', hr, h1, h2, h3⟩ := toBytes_law (P := P) w src dt e hs hd he s hm
    unfold Oper.wp execOp
    simp only [hx, Sem.run_bind, Sem.run_pure, hr, Result.andThen_ok]
    exact hK _ _ (h cap w' h1 h2 h3)

theorem wpList_toString {src dt : TypeId} {x : Operand} (e : TypeId) (hs : P.underlying src = some (.slice e)) (he : P.underlying e = some (.int .u8)) (hd : P.underlying dt = some .string) (p : Option Addr) (n cap : Nat) (hx : a.eval x = .slice p n cap) (bs : List UInt8) (hr : Rd w 1 p n cap (bc bs))
    (h : wpList P ops Q rest (a.put dst (.string ⟨bs.toArray⟩)) w) : wpList P ops Q (⟨dst, .convert src dt x, ty0, pos, after, none⟩ :: rest) a w :=
  wpList_plain rfl fun K hK => by
    have hrun := toString_law (P := P) w src dt e hs he hd p n cap bs hr
    unfold Oper.wp execOp
    simp only [hx, Sem.run_bind, Sem.run_pure, hrun, Result.andThen_ok]
    exact hK _ _ h
end
end

section
open Go.RowKit
set_option linter.unusedSectionVars false
set_option linter.unusedSimpArgs false
set_option linter.unusedVariables false

/-- A thing: what it says of a world, in the blocks F, and that only these blocks matter. -/
structure Thing where
  lies : World → (Nat → Prop) → Prop
  keep : ∀ {w w' : World} {F : Nat → Prop}, lies w F → w.heap.size ≤ w'.heap.size → (∀ x, x < w.heap.size → F x → w'.heap[x]? = w.heap[x]?) → lies w' F
  below : ∀ {w : World} {F : Nat → Prop}, lies w F → ∀ x, F x → x < w.heap.size

theorem Thing.mod (t : Thing) {w w' : World} {F S : Nat → Prop} (h : t.lies w F) (hm : Mod S w w') (hd : ∀ x, F x → ¬ S x) : t.lies w' F :=
  t.keep h hm.size fun x hx hF => hm.keep x hx (hd x hF)

/-- A block of cells. -/
def bx (pb : Nat) (c : Array Value) (t : TypeId) : Thing where
  lies w F := w.heap[pb]? = some (.cells c t (0, 0)) ∧ ∀ x, F x ↔ x = pb
  keep := fun ⟨h, hF⟩ _ hk => ⟨by rw [hk pb (heap_lt h) ((hF _).2 rfl)]; exact h, hF⟩
  below := fun ⟨h, hF⟩ x hx => by rw [(hF x).1 hx]; exact heap_lt h

/-- A slice in a block of its own. -/
def sl (E k : Nat) (a : Option Addr) (n cap : Nat) (cs : List Value) : Thing where
  lies w F := Sl w E k a n cap cs ∧ ∀ x, F x ↔ own a = some x
  keep := fun ⟨h, hF⟩ _ hk => ⟨h.kept fun b hb hlt => hk b hlt ((hF _).2 hb), hF⟩
  below := fun ⟨h, hF⟩ x hx => h.lt x ((hF x).1 hx)

/-- Nothing. -/
def no : Thing where
  lies _ F := ∀ x, ¬ F x
  keep := fun h _ _ => h
  below := fun h x hx => absurd hx (h x)

/-- Things side by side, in the blocks F together. -/
def Side (w : World) : List Thing → (Nat → Prop) → Prop
  | [], F => ∀ x, ¬ F x
  | t :: l, F => ∃ F1 F2, t.lies w F1 ∧ Side w l F2 ∧ (∀ x, F1 x → ¬ F2 x) ∧ ∀ x, F x ↔ F1 x ∨ F2 x

theorem Side.mod {w w' : World} {S : Nat → Prop} (hm : Mod S w w') : ∀ {l : List Thing} {F : Nat → Prop}, Side w l F → (∀ x, F x → ¬ S x) → Side w' l F
  | [], _, h, _ => h
  | t :: _, F, ⟨F1, F2, h1, h2, hd, hF⟩, hS =>
    ⟨F1, F2, t.mod h1 hm (fun x hx => hS x ((hF x).2 (.inl hx))), Side.mod hm h2 (fun x hx => hS x ((hF x).2 (.inr hx))), hd, hF⟩

theorem Side.lt {w : World} : ∀ {l : List Thing} {F : Nat → Prop}, Side w l F → ∀ x, F x → x < w.heap.size
  | [], _, h, x, hx => absurd hx (h x)
  | t :: _, F, ⟨F1, F2, h1, h2, hd, hF⟩, x, hx => ((hF x).1 hx).elim (t.below h1 x) (Side.lt h2 x)

/-- The thing at place i: what it says, and how another one comes into its place. -/
theorem Side.at {w : World} : ∀ {l : List Thing} {F : Nat → Prop} (i : Nat) {t : Thing}, Side w l F → l[i]? = some t →
    ∃ F1, t.lies w F1 ∧ (∀ x, F1 x → F x) ∧ ∀ (w' : World) (t' : Thing) (F' : Nat → Prop), Mod F1 w w' → t'.lies w' F' → (∀ x, F' x → F1 x ∨ w.heap.size ≤ x) → ∃ G, Side w' (l.set i t') G ∧ ∀ x, G x → F x ∨ w.heap.size ≤ x
  | [], _, i, t, _, hi => by simp at hi
  | s :: l, F, 0, t, ⟨F1, F2, h1, h2, hd, hF⟩, hi => by
    simp only [List.getElem?_cons_zero, Option.some.injEq] at hi
    subst hi
    refine ⟨F1, h1, fun x hx => (hF x).2 (.inl hx), fun w' t' F' hm ht hF' => ⟨fun x => F' x ∨ F2 x, ⟨F', F2, ht, Side.mod hm h2 (fun x hx h => hd x h hx), fun x hx h => ?_, fun _ => Iff.rfl⟩, fun x hx => ?_⟩⟩
    · rcases hF' x hx with h' | h'
      · exact hd x h' h
      · have := Side.lt h2 x h; omega
    · rcases hx with hx | hx
      · exact (hF' x hx).imp (fun h => (hF x).2 (.inl h)) id
      · exact .inl ((hF x).2 (.inr hx))
  | s :: l, F, i + 1, t, ⟨F1, F2, h1, h2, hd, hF⟩, hi => by
    obtain ⟨G1, hl, hG, hk⟩ := Side.at i h2 (by simpa using hi)
    refine ⟨G1, hl, fun x hx => (hF x).2 (.inr (hG x hx)), fun w' t' F' hm ht hF' => ?_⟩
    obtain ⟨G, hs, hg⟩ := hk w' t' F' hm ht hF'
    refine ⟨fun x => F1 x ∨ G x, ⟨F1, G, s.mod h1 hm (fun x hx h => hd x hx (hG x h)), hs, fun x hx h => ?_, fun _ => Iff.rfl⟩, fun x hx => ?_⟩
    · rcases hg x h with h' | h'
      · exact hd x hx h'
      · have := s.below h1 x hx; omega
    · rcases hx with hx | hx
      · exact .inl ((hF x).2 (.inl hx))
      · exact (hg x hx).imp (fun h => (hF x).2 (.inr h)) id

theorem Side.append {w : World} : ∀ {l : List Thing} {F G : Nat → Prop} {t : Thing}, Side w l F → t.lies w G → (∀ x, F x → ¬ G x) → ∃ H, Side w (l ++ [t]) H ∧ ∀ x, H x ↔ F x ∨ G x
  | [], F, G, t, h, ht, hd => by
    have h0 : ∀ x, ¬ F x := h
    refine ⟨fun x => G x ∨ False, ⟨G, fun _ => False, ht, fun _ h => h, fun _ _ h => h, fun _ => Iff.rfl⟩, fun x => ?_⟩
    show G x ∨ False ↔ F x ∨ G x
    simp [h0 x]
  | s :: l, F, G, t, ⟨F1, F2, h1, h2, hd2, hF⟩, ht, hd => by
    obtain ⟨H, hs, hH⟩ := Side.append h2 ht (fun x hx => hd x ((hF x).2 (.inr hx)))
    refine ⟨fun x => F1 x ∨ H x, ⟨F1, H, h1, hs, fun x hx h => ?_, fun _ => Iff.rfl⟩, fun x => ?_⟩
    · rcases (hH x).1 h with h' | h'
      · exact hd2 x hx h'
      · exact hd x ((hF x).2 (.inl hx)) h'
    · show F1 x ∨ H x ↔ F x ∨ G x
      rw [hH, hF, or_assoc]

/-- From w0 on nothing old has changed, and the things lie side by side in young blocks. -/
def St (w0 w : World) (l : List Thing) : Prop := Mod (fun _ => False) w0 w ∧ ∃ F, Side w l F ∧ ∀ x, F x → w0.heap.size ≤ x

theorem St.start (w : World) : St w w [] := ⟨Mod.refl _ _, fun _ => False, fun _ h => h, fun _ h => h.elim⟩
theorem St.mod {w0 w w' : World} {l : List Thing} (h : St w0 w l) (hm : Mod (fun _ => False) w w') : St w0 w' l := by
  obtain ⟨h0, F, hs, hz⟩ := h
  exact ⟨h0.trans hm (fun _ _ h => h) (fun _ _ h => h), F, Side.mod hm hs (fun _ _ h => h), hz⟩
theorem St.drew {w0 w : World} {l : List Thing} (h : St w0 w l) : St w0 w.drew l := h.mod ((Mod.refl _ w).drew)
theorem St.drewN {w0 w : World} {l : List Thing} (h : St w0 w l) (n : Nat) : St w0 (w.drewN n) l := h.mod ((Mod.refl _ w).drewN n)
theorem St.begin {w0 w : World} (h : Mod (fun _ => False) w0 w) : St w0 w [] := (St.start w0).mod h

/-- The thing at place i turns. -/
theorem St.at {w0 w : World} {l : List Thing} (h : St w0 w l) (i : Nat) {t : Thing} (hi : l[i]? = some t) :
    ∃ F1, t.lies w F1 ∧ (∀ x, F1 x → w0.heap.size ≤ x) ∧ ∀ (w' : World) (t' : Thing) (F' : Nat → Prop), Mod F1 w w' → t'.lies w' F' → (∀ x, F' x → F1 x ∨ w.heap.size ≤ x) → St w0 w' (l.set i t') := by
  obtain ⟨h0, F, hs, hz⟩ := h
  obtain ⟨F1, hl, hF, hk⟩ := Side.at i hs hi
  refine ⟨F1, hl, fun x hx => hz x (hF x hx), fun w' t' F' hm ht hF' => ?_⟩
  obtain ⟨G, hs', hg⟩ := hk w' t' F' hm ht hF'
  refine ⟨h0.then hm (fun x hx hf => by have := hz x (hF x hf); omega), G, hs', fun x hx => ?_⟩
  rcases hg x hx with h | h
  · exact hz x h
  · exact Nat.le_trans h0.size h

/-- A new thing, in young blocks. -/
theorem St.push {w0 w w' : World} {l : List Thing} (h : St w0 w l) {t : Thing} {F : Nat → Prop} (hm : Mod (fun _ => False) w w') (ht : t.lies w' F) (hF : ∀ x, F x → w.heap.size ≤ x) : St w0 w' (l ++ [t]) := by
  obtain ⟨h0, G, hs, hz⟩ := h
  obtain ⟨H, hs', hH⟩ := Side.append (Side.mod hm hs (fun _ _ h => h)) ht (fun x hx hf => by have := Side.lt hs x hx; have := hF x hf; omega)
  refine ⟨h0.trans hm (fun _ _ h => h) (fun _ _ h => h), H, hs', fun x hx => ?_⟩
  rcases (hH x).1 hx with h | h
  · exact hz x h
  · exact Nat.le_trans h0.size (hF x h)

theorem St.alloc {w0 w : World} {l : List Thing} (h : St w0 w l) (c : Array Value) (t : TypeId) : St w0 (w.alloc (.cells c t)) (l ++ [bx w.heap.size c t]) :=
  h.push (F := fun x => x = w.heap.size) ((Mod.refl _ w).alloc _) ⟨heap_alloc_new w _, fun _ => Iff.rfl⟩ (fun x hx => by rw [hx]; exact Nat.le_refl _)

theorem Side.perm {w : World} {l l' : List Thing} (hp : l.Perm l') : ∀ {F : Nat → Prop}, Side w l F → Side w l' F := by
  induction hp with
  | nil => exact fun h => h
  | cons t _ ih =>
    rintro F ⟨F1, F2, h1, h2, hd, hF⟩
    exact ⟨F1, F2, h1, ih h2, hd, hF⟩
  | swap s t l =>
    rintro F ⟨F1, F2, h1, ⟨G1, G2, g1, g2, gd, gF⟩, hd, hF⟩
    refine ⟨G1, fun x => F1 x ∨ G2 x, g1, ⟨F1, G2, h1, g2, fun x h g => hd x h ((gF x).2 (.inr g)), fun x => Iff.rfl⟩, fun x g h => ?_, fun x => ?_⟩
    · rcases h with h | h
      · exact hd x h ((gF x).2 (.inl g))
      · exact gd x g h
    · rw [hF, gF]
      constructor
      · rintro (h | h | h)
        · exact .inr (.inl h)
        · exact .inl h
        · exact .inr (.inr h)
      · rintro (h | h | h)
        · exact .inr (.inl h)
        · exact .inl h
        · exact .inr (.inr h)
  | trans _ _ ih1 ih2 => exact fun h => ih2 (ih1 h)

theorem St.perm {w0 w : World} {l l' : List Thing} (h : St w0 w l) (hp : l.Perm l') : St w0 w l' := ⟨h.1, h.2.choose, Side.perm hp h.2.choose_spec.1, h.2.choose_spec.2⟩
theorem St.two {w0 w : World} {a b c d : Thing} {l : List Thing} (h : St w0 w (a :: b :: c :: d :: l)) : St w0 w (c :: d :: a :: b :: l) :=
  h.perm (List.perm_append_comm_assoc [a, b] [c, d] l)

/-- A new thing, ahead of the others. -/
theorem St.cons {w0 w w' : World} {l : List Thing} (h : St w0 w l) {t : Thing} {F : Nat → Prop} (hm : Mod (fun _ => False) w w') (ht : t.lies w' F) (hF : ∀ x, F x → w.heap.size ≤ x) : St w0 w' (t :: l) :=
  (h.push hm ht hF).perm (List.perm_append_comm (l₁ := l) (l₂ := [t]))
theorem St.box1 {w0 w : World} {l : List Thing} (h : St w0 w l) (c : Array Value) (t : TypeId) : St w0 (w.alloc (.cells c t)) (bx w.heap.size c t :: l) :=
  (h.alloc c t).perm (List.perm_append_comm (l₁ := l) (l₂ := [_]))
theorem St.tail {w0 w : World} {t : Thing} {l : List Thing} (h : St w0 w (t :: l)) : St w0 w l := by
  obtain ⟨h0, F, ⟨F1, F2, h1, h2, hd, hF⟩, hz⟩ := h
  exact ⟨h0, F2, h2, fun x hx => hz x ((hF x).2 (.inr hx))⟩

/-- The thing at place i is let go. -/
theorem St.drop {w0 w : World} {l : List Thing} (h : St w0 w l) (i : Nat) {t : Thing} (hi : l[i]? = some t) : St w0 w (l.set i no) := by
  obtain ⟨F1, hl, hz, hk⟩ := h.at i hi
  exact hk w no (fun _ => False) (Mod.refl _ _) (fun _ h => h) (fun _ h => h.elim)

theorem St.box {w0 w : World} {l : List Thing} (h : St w0 w l) (i : Nat) {pb : Nat} {c : Array Value} {t : TypeId} (hi : l[i]? = some (bx pb c t)) : w.heap[pb]? = some (.cells c t (0, 0)) := by
  obtain ⟨F1, hl, _⟩ := h.at i hi
  exact hl.1
theorem St.slice {w0 w : World} {l : List Thing} (h : St w0 w l) (i : Nat) {E k : Nat} {a : Option Addr} {n cap : Nat} {cs : List Value} (hi : l[i]? = some (sl E k a n cap cs)) : Sl w E k a n cap cs := by
  obtain ⟨F1, hl, _⟩ := h.at i hi
  exact hl.1

/-- A box that is written. -/
theorem St.rebox {w0 w w' : World} {l : List Thing} (h : St w0 w l) (i : Nat) {pb : Nat} {c c' : Array Value} {t : TypeId} (hi : l[i]? = some (bx pb c t)) (hw : w'.heap[pb]? = some (.cells c' t (0, 0))) (hm : Mod (fun b => b = pb) w w') : St w0 w' (l.set i (bx pb c' t)) := by
  obtain ⟨F1, ⟨hh, hF⟩, hz, hk⟩ := h.at i hi
  exact hk w' (bx pb c' t) F1 (hm.mono (fun x _ hx => (hF x).2 hx)) ⟨hw, hF⟩ (fun x hx => .inl hx)

theorem St.set {w0 w : World} {l : List Thing} (h : St w0 w l) (i : Nat) {pb : Nat} {c : Array Value} {t : TypeId} (hi : l[i]? = some (bx pb c t)) (j : Nat) (v : Value) : St w0 (w.setCell ⟨pb, j, none⟩ v) (l.set i (bx pb (c.setIfInBounds j v) t)) :=
  h.rebox i hi (blk_set v (h.box i hi)) ((Mod.refl _ w).setCell _ _ (fun _ => rfl))

/-- The block of a slice that has elements. -/
theorem Sl.block {w : World} {E k : Nat} {a : Option Addr} {n cap : Nat} {cs : List Value} (h : Sl w E k a n cap cs) (hn : 0 < n) : ∃ b off c, a = some ⟨b, off, none⟩ ∧ w.heap[b]? = some (.cells c E (0, 0)) ∧ off + cap * k ≤ c.size := by
  obtain ⟨hl, hnc, hm, ⟨rfl, h0⟩ | ⟨b, off, c, rfl, h3, h4, h5⟩⟩ := h
  · omega
  · exact ⟨b, off, c, rfl, h3, h4⟩

/-- A slice into whose block something was written. -/
theorem Sl.poke {w w' : World} {E k b off : Nat} {n cap : Nat} {cs : List Value} (h : Sl w E k (some ⟨b, off, none⟩) n cap cs) {c : Array Value} (hg : w.heap[b]? = some (.cells c E (0, 0))) (hfit : off + cap * k ≤ c.size)
    (o : Nat) (ys : List Value) (hy : o + ys.length ≤ c.size) (hw : w'.heap[b]? = some (.cells (splice c.toList o ys).toArray E (0, 0))) : ∃ cs', Sl w' E k (some ⟨b, off, none⟩) n cap cs' := by
  have hl : (splice c.toList o ys).length = c.size := (splice_length (c := c.toList) (o := o) (cs := ys) (by rw [Array.length_toList]; exact hy)).trans Array.length_toList
  refine ⟨((splice c.toList o ys).drop off).take (n * k), ?_, h.2.1, h.2.2.1, .inr ⟨b, off, _, rfl, hw, by rw [List.size_toArray, hl]; exact hfit, rfl⟩⟩
  have hnk : n * k ≤ cap * k := Nat.mul_le_mul_right _ h.2.1
  rw [List.length_take, List.length_drop, hl]
  omega

theorem St.reslice {w0 w w' : World} {l : List Thing} (h : St w0 w l) (i : Nat) {E k b off n cap : Nat} {cs cs' : List Value} (hi : l[i]? = some (sl E k (some ⟨b, off, none⟩) n cap cs)) (hs : Sl w' E k (some ⟨b, off, none⟩) n cap cs') (hm : Mod (fun x => x = b) w w') :
    St w0 w' (l.set i (sl E k (some ⟨b, off, none⟩) n cap cs')) := by
  obtain ⟨F1, ⟨hh, hF⟩, hz, hk⟩ := h.at i hi
  exact hk w' (sl E k (some ⟨b, off, none⟩) n cap cs') F1 (hm.mono (fun x _ hx => (hF x).2 (by rw [hx]; rfl))) ⟨hs, hF⟩ (fun x hx => .inl hx)

/-- What a call answers and leaves. -/
def StPost (v : Value) (w0 : World) (l : List Thing) (e : Ending) (w' : World) : Prop := e = .returned v ∧ St w0 w' l

/-- An old thing, read and not written. -/
theorem St.old {w0 w : World} {l : List Thing} (h : St w0 w l) {k : Nat} {a : Option Addr} {n cap : Nat} {cs : List Value} (hr : Rd w0 k a n cap cs) : Rd w k a n cap cs := hr.mod h.1 (fun _ _ h => h)
end

section
open Go.ChangeShapes Go.WideShapes Go.ChangeAt Go.RowKit Go.Deep
set_option linter.unusedSectionVars false
set_option linter.unusedSimpArgs false
set_option linter.unusedVariables false

section
variable {H : Type} {enc : TypeId × Value → H} {P : Program} {w : World} {base : Nat} {spare : Nat → Bool} {held : Bool}

/-- A field's own reading. -/
theorem field_read {fs : Array Field} {cs : List Value} {ys : List (DataW H × List MemPlace)} {n : Nat} (hlen : ys.length = fs.size)
    (hf : ∀ (i : Nat) (f : Field), fs[i]? = some f → DataW.trod enc P w base spare held n f.type ((cs.drop f.offset).take (P.cellsOf f.type)) = ys[i]?) (i : Nat) (f : Field) (hi : fs[i]? = some f) :
    ∃ y, ys[i]? = some y ∧ DataW.trod enc P w base spare held n f.type ((cs.drop f.offset).take (P.cellsOf f.type)) = some y := by
  have hlt : i < ys.length := by rw [hlen]; exact (Array.getElem?_eq_some_iff.1 hi).1
  exact ⟨ys[i], List.getElem?_eq_getElem hlt, by rw [hf i f hi]; exact List.getElem?_eq_getElem hlt⟩

theorem one_cell {cs : List Value} {o : Nat} {v : Value} (hv : cs[o]? = some v) : (cs.drop o).take 1 = [v] := by
  obtain ⟨h, rfl⟩ := List.getElem?_eq_some_iff.1 hv
  rw [List.drop_eq_getElem_cons h]; rfl

theorem field_int {fs : Array Field} {cs : List Value} {ys : List (DataW H × List MemPlace)} {n : Nat} (hlen : ys.length = fs.size)
    (hf : ∀ (i : Nat) (f : Field), fs[i]? = some f → DataW.trod enc P w base spare held n f.type ((cs.drop f.offset).take (P.cellsOf f.type)) = ys[i]?) (i : Nat) (f : Field) (hi : fs[i]? = some f)
    {k : IntKind} (hu : P.underlying f.type = some (.int k)) (hc : P.cellsOf f.type = 1) (v : Value) (hv : cs[f.offset]? = some v) : ∃ x, v = .int k x ∧ (Lit.int k x).wf = true := by
  obtain ⟨y, _, h⟩ := field_read hlen hf i f hi
  rw [hc, one_cell hv] at h
  obtain ⟨x, h1, _, h2⟩ := DataW.trod_int hu h
  exact ⟨x, by simpa using h1, h2⟩

theorem field_string {fs : Array Field} {cs : List Value} {ys : List (DataW H × List MemPlace)} {n : Nat} (hlen : ys.length = fs.size)
    (hf : ∀ (i : Nat) (f : Field), fs[i]? = some f → DataW.trod enc P w base spare held n f.type ((cs.drop f.offset).take (P.cellsOf f.type)) = ys[i]?) (i : Nat) (f : Field) (hi : fs[i]? = some f)
    (hu : P.underlying f.type = some .string) (hc : P.cellsOf f.type = 1) (v : Value) (hv : cs[f.offset]? = some v) : ∃ x : ByteArray, v = .string x ∧ x.size ≤ maxLen ∧ ∃ y, ys[i]? = some y ∧ y.1 = .lit (.string x.data.toList) := by
  obtain ⟨y, hy, h⟩ := field_read hlen hf i f hi
  rw [hc, one_cell hv] at h
  obtain ⟨x, h1, h3, h2⟩ := DataW.trod_string hu h
  exact ⟨x, by simpa using h1, h2, y, hy, by rw [h3]⟩

/-- A slice that came in, by a reading of its elements: 'E' is what one element's cells are. -/
theorem open_list {α : Type} [Inhabited α] {t e : TypeId} {k : Nat} (hk : P.cellsOf e = k) (cells : α → List Value) (hcl : ∀ x, (cells x).length = k) (ok : α → DataW H → Prop)
    (hone : ∀ fuel (cs : List Value) x, cs.length = k → DataW.trod enc P w base spare held fuel e cs = some x → ∃ p, cs = cells p ∧ ok p x.1)
    {fuel : Nat} {cs : List Value} {x : DataW H × List MemPlace} (ht : P.underlying t = some (.slice e)) (h : DataW.trod enc P w base spare held fuel t cs = some x) :
    ∃ (a : Option Addr) (n cap : Nat) (xs : List α) (D : List (DataW H)) (D' : List (DataW H)), cs = [.slice a n cap] ∧ xs.length = n ∧ n ≤ cap ∧ cap ≤ maxLen ∧ (x.1 = .nil ∧ a = none ∧ n = 0 ∧ cap = 0 ∧ D = [] ∨ x.1 = .slice D D' ∧ a.isSome = true) ∧ D.length = n ∧
      (∀ (i : Nat) (p : α) (d : DataW H), xs[i]? = some p → D[i]? = some d → ok p d) ∧ ((a = none ∧ cap = 0) ∨ ∃ y, a = some y ∧ ∀ (i : Nat) (p : α), xs[i]? = some p → ∀ (j : Nat) (u : Value), (cells p)[j]? = some u → w.cell? (y.add (i * k + j)) = some u) := by
  rcases open_slice ht h with ⟨rfl, rfl⟩ | ⟨a, len, cap, m, n, D, Pl, rfl, hb, hl, hm, hmm, rfl, hx⟩
  · exact ⟨none, 0, 0, [], [], [], rfl, rfl, Nat.le_refl _, Nat.zero_le _, .inl ⟨rfl, rfl, rfl, rfl, rfl⟩, rfl, fun i p d h => by simp at h, .inl ⟨rfl, rfl⟩⟩
  · have hle : len ≤ m := by rw [hmm]; split <;> omega
    have hall : ∀ i, i < len → ∃ p : α, (∀ j u, (cells p)[j]? = some u → w.cell? (a.add (i * k + j)) = some u) ∧ ok p (D i) := fun i hi => by
      obtain ⟨cs', h1, h2⟩ := hx i (by omega)
      obtain ⟨_, hlen, hat⟩ := World.cells?_some h1
      obtain ⟨p, rfl, hok⟩ := hone _ _ _ (by rw [hlen, hk]) h2
      refine ⟨p, fun j u hu => ?_, hok⟩
      have hj : j < (cells p).length := (List.getElem?_eq_some_iff.1 hu).1
      have := hat j (by rw [← hlen]; exact hj)
      rw [hk, Go.Deep.add_add] at this
      rw [this]; exact hu
    obtain ⟨f, hf⟩ := choose_lt hall
    refine ⟨some a, len, cap, (List.range len).map f, (List.range len).map D, _, rfl, by simp, hl, hm, .inr ⟨rfl, rfl⟩, by simp, fun i p d hp hd => ?_, .inr ⟨a, rfl, fun i p hp j u hu => ?_⟩⟩
    · simp only [List.getElem?_map] at hp hd
      obtain ⟨i', hi', rfl⟩ := Option.map_eq_some_iff.1 hp
      have hlt := (List.getElem?_eq_some_iff.1 hi').1
      rw [List.getElem?_range (by simpa using hlt)] at hi' hd
      simp at hi' hd
      subst hi'; subst hd
      exact (hf i (by simpa using hlt)).2
    · simp only [List.getElem?_map] at hp
      obtain ⟨i', hi', rfl⟩ := Option.map_eq_some_iff.1 hp
      have hlt := (List.getElem?_eq_some_iff.1 hi').1
      rw [List.getElem?_range (by simpa using hlt)] at hi'
      simp at hi'
      subst hi'
      exact (hf i (by simpa using hlt)).1 j u hu
end
end

section
open Go.ChangeShapes Go.WideShapes Go.ChangeAt Go.RowKit Go.Deep
set_option linter.unusedSectionVars false
set_option linter.unusedSimpArgs false
set_option linter.unusedVariables false

section
variable {α : Type} (cells : α → List Value) {k : Nat} (hk : ∀ x, (cells x).length = k)
include hk

theorem flatk_length : ∀ l : List α, (l.flatMap cells).length = l.length * k
  | [] => by simp
  | x :: l => by rw [List.flatMap_cons, List.length_append, flatk_length l, hk, List.length_cons, Nat.add_mul, Nat.one_mul, Nat.add_comm]

theorem flatk_get : ∀ (l : List α) (i : Nat) (x : α) (j : Nat) (u : Value), l[i]? = some x → (cells x)[j]? = some u → (l.flatMap cells)[i * k + j]? = some u
  | [], i, x, j, u, h, _ => by simp at h
  | y :: l, 0, x, j, u, h, hu => by
    simp only [List.getElem?_cons_zero, Option.some.injEq] at h
    subst h
    have hj : j < (cells y).length := (List.getElem?_eq_some_iff.1 hu).1
    rw [List.flatMap_cons, Nat.zero_mul, Nat.zero_add, List.getElem?_append_left hj]; exact hu
  | y :: l, i + 1, x, j, u, h, hu => by
    have e : (i + 1) * k + j = k + (i * k + j) := by rw [Nat.add_mul, Nat.one_mul]; omega
    rw [List.flatMap_cons, e, List.getElem?_append_right (by rw [hk]; omega), hk, Nat.add_sub_cancel_left]
    exact flatk_get l i x j u (by simpa using h) hu

theorem flatk_at (h0 : 0 < k) : ∀ (l : List α) (j : Nat) (u : Value), (l.flatMap cells)[j]? = some u → ∃ p, l[j / k]? = some p ∧ (cells p)[j % k]? = some u
  | [], j, u, h => by simp at h
  | x :: l, j, u, h => by
    rw [List.flatMap_cons] at h
    by_cases hj : j < k
    · rw [List.getElem?_append_left (by rw [hk]; exact hj)] at h
      exact ⟨x, by rw [Nat.div_eq_of_lt hj]; rfl, by rw [Nat.mod_eq_of_lt hj]; exact h⟩
    · rw [List.getElem?_append_right (by rw [hk]; omega), hk] at h
      obtain ⟨p, h1, h2⟩ := flatk_at h0 l (j - k) u h
      refine ⟨p, ?_, ?_⟩
      · rw [show j / k = (j - k) / k + 1 from by
          have := Nat.sub_mul_div j k 1
          rw [Nat.mul_one] at this
          have h3 : 1 ≤ j / k := (Nat.one_le_div_iff h0).2 (by omega)
          omega]
        exact h1
      · rw [show j % k = (j - k) % k from by rw [Nat.mod_eq_sub_mod (by omega)]]; exact h2

theorem flatk_take : ∀ (l : List α) (i : Nat), (l.flatMap cells).take (i * k) = (l.take i).flatMap cells
  | [], i => by simp
  | x :: l, 0 => by simp
  | x :: l, i + 1 => by
    rw [List.flatMap_cons, List.take_succ_cons, List.flatMap_cons, ← flatk_take l i, show (i + 1) * k = (cells x).length + i * k from by rw [hk, Nat.add_mul, Nat.one_mul, Nat.add_comm], List.take_length_add_append]
theorem flatk_drop : ∀ (l : List α) (i : Nat), (l.flatMap cells).drop (i * k) = (l.drop i).flatMap cells
  | [], i => by simp
  | x :: l, 0 => by simp
  | x :: l, i + 1 => by
    rw [List.flatMap_cons, List.drop_succ_cons, ← flatk_drop l i, show (i + 1) * k = (cells x).length + i * k from by rw [hk, Nat.add_mul, Nat.one_mul, Nat.add_comm], List.drop_length_add_append]

/-- One element's cells in a slice that is read. -/
theorem Rd.elem {w : World} {a : Option Addr} {n cap : Nat} {l : List α} (h : Rd w k a n cap (l.flatMap cells)) (h0 : 0 < k) {i : Nat} {x : α} (hx : l[i]? = some x) :
    ∃ b o, a = some ⟨b, o, none⟩ ∧ b < w.heap.size ∧ ∀ j u, (cells x)[j]? = some u → w.cell? ⟨b, o + i * k + j, none⟩ = some u := by
  have hlt : i < l.length := (List.getElem?_eq_some_iff.1 hx).1
  obtain ⟨hl, hn, hm, ⟨rfl, hc0⟩ | ⟨y, rfl, hc⟩⟩ := h
  · rw [flatk_length cells hk] at hl
    have : n = l.length := (Nat.eq_of_mul_eq_mul_right h0 hl).symm
    omega
  · have key : ∀ j u, (cells x)[j]? = some u → w.cell? (y.add (i * k + j)) = some u := fun j u hu => hc _ _ (flatk_get cells hk l i x j u hx hu)
    obtain ⟨b, o, sp⟩ := y
    have h00 : ∃ u, (cells x)[0]? = some u := ⟨_, List.getElem?_eq_getElem (by rw [hk]; exact h0)⟩
    obtain ⟨u0, hu0⟩ := h00
    have hs : sp = none := by
      have hl0 : 0 < l.length := by omega
      have hz : ∃ u, (cells l[0])[0]? = some u := ⟨_, List.getElem?_eq_getElem (by rw [hk]; exact h0)⟩
      obtain ⟨uz, huz⟩ := hz
      have := hc 0 uz (by have := flatk_get cells hk l 0 l[0] 0 uz (List.getElem?_eq_getElem hl0) huz; simpa using this)
      simp [Addr.add, World.cell?] at this
      split at this
      · cases sp <;> simp at this ⊢
      · cases this
    subst hs
    simp only [add_none] at key
    refine ⟨b, o, rfl, World.block_lt_of_cell? w _ (key 0 u0 hu0), fun j u hu => ?_⟩
    rw [Nat.add_assoc]; exact key j u hu
end

theorem Rd.lt {w : World} {k : Nat} {a : Option Addr} {n cap : Nat} {cs : List Value} (h : Rd w k a n cap cs) (hn : 0 < n * k) : ∀ b, own a = some b → b < w.heap.size := by
  obtain ⟨hl, hnc, hm, ⟨rfl, hc0⟩ | ⟨y, rfl, hc⟩⟩ := h
  · intro b hb; simp [own] at hb
  · intro b hb
    have h0 : 0 < cs.length := by omega
    have := World.block_lt_of_cell? w _ (hc 0 _ (List.getElem?_eq_getElem h0))
    have e : (y.add 0).block = y.block := by unfold Addr.add; split <;> rfl
    rw [e] at this
    simp [own] at hb
    omega

section
variable {H : Type} {enc : TypeId × Value → H} {P : Program} {w : World} {base : Nat} {spare : Nat → Bool} {held : Bool}

/-- A slice that came in, by a reading of its elements. -/
theorem open_rows {α : Type} [Inhabited α] {t e : TypeId} {k : Nat} (hk : P.cellsOf e = k) (h0 : 0 < k) (cells : α → List Value) (hcl : ∀ x, (cells x).length = k) (ok : α → DataW H → Prop)
    (hone : ∀ fuel (cs : List Value) x, cs.length = k → DataW.trod enc P w base spare held fuel e cs = some x → ∃ p, cs = cells p ∧ ok p x.1)
    {fuel : Nat} {cs : List Value} {x : DataW H × List MemPlace} (ht : P.underlying t = some (.slice e)) (h : DataW.trod enc P w base spare held fuel t cs = some x) :
    ∃ (a : Option Addr) (cap : Nat) (l : List α) (D D' : List (DataW H)), cs = [.slice a l.length cap] ∧ Rd w k a l.length cap (l.flatMap cells) ∧ (x.1 = .nil ∧ l = [] ∧ D = [] ∨ x.1 = .slice D D') ∧ D.length = l.length ∧
      ∀ (i : Nat) (p : α) (d : DataW H), l[i]? = some p → D[i]? = some d → ok p d := by
  obtain ⟨a, n, cap, l, D, D', rfl, rfl, hn, hm, hx, hD, hok, hc⟩ := open_list hk cells hcl ok hone ht h
  refine ⟨a, cap, l, D, D', rfl, ⟨flatk_length cells hcl l, hn, hm, ?_⟩, ?_, hD, hok⟩
  · rcases hc with h | ⟨y, rfl, hc⟩
    · exact .inl h
    · refine .inr ⟨y, rfl, fun j u hu => ?_⟩
      obtain ⟨p, h1, h2⟩ := flatk_at cells hcl h0 l j u hu
      have := hc (j / k) p h1 (j % k) u h2
      have e : j / k * k + j % k = j := by rw [Nat.mul_comm]; exact Nat.div_add_mod j k
      rw [e] at this
      exact this
  · rcases hx with ⟨h1, _, h2, _, h3⟩ | ⟨h1, _⟩
    · exact .inl ⟨h1, List.eq_nil_of_length_eq_zero h2, h3⟩
    · exact .inr h1

theorem weightsAll_mem' (P : Program) (e : TypeId) : ∀ (l : List (DataW H)) (x : DataW H), x ∈ l → ∀ n, n ∈ x.weights P e → n ∈ DataW.weightsAll P e l
  | y :: l, x, hx, n, hn => by
    rw [DataW.weightsAll]
    rcases List.mem_cons.1 hx with rfl | hx
    · exact List.mem_append_left _ hn
    · exact List.mem_append_right _ (weightsAll_mem' P e l x hx n hn)

theorem int_wf {n : Int} (hw : (Lit.int .i64 n).wf = true) : -9223372036854775808 ≤ n ∧ n ≤ 9223372036854775807 := by
  simpa [Lit.wf, IntKind.min, IntKind.max, IntKind.signed, IntKind.bits] using hw
end
end

section
open Go.RowKit Go.Maps
set_option linter.unusedSectionVars false
set_option linter.unusedSimpArgs false
set_option linter.unusedVariables false

/-- Each element reads as itself. -/
def raw (v : Value) : Option (DataW Value × List MemPlace) := some (.held v, [])

def key (x : Int) : Lit := .int .i64 x
theorem key_ne {x y : Int} (h : x ≠ y) : key x ≠ key y := fun e => by unfold key at e; injection e with _ e; exact h e
theorem key_is (x : Int) : WideAt.IsKeyLit (key x) := by unfold key; simp [WideAt.IsKeyLit]

def upd (f : Int → Option Value) (x : Int) (v : Option Value) : Int → Option Value := fun y => if y = x then v else f y

/-- What a datum says of the keys. -/
def Tells (D : DataW Value) (f : Int → Option Value) : Prop :=
  ∀ x, (f x = none → Maps.has D (key x) = false) ∧ ∀ v, f x = some v → Maps.has D (key x) = true ∧ ∀ z, D.atKey (key x) z = .held v

/-- Block b is a map of at most n entries that holds what f says. -/
def MapAt (P : Program) (k : TypeId) (w : World) (b n : Nat) (f : Int → Option Value) : Prop := ∃ D : DataW Value, w.ownsMap P k raw b n D ∧ Tells D f

theorem MapAt.made (P : Program) (k : TypeId) (w : World) : MapAt P k (w.alloc (.map #[] 0)) w.heap.size 0 (fun _ => none) :=
  ⟨_, World.ownsMap_made w P k raw, fun x => ⟨fun _ => rfl, fun v h => by simp at h⟩⟩

theorem MapAt.lt {P : Program} {k : TypeId} {w : World} {b n : Nat} {f : Int → Option Value} (h : MapAt P k w b n f) : b < w.heap.size := by
  obtain ⟨D, h, _⟩ := h; exact h.lt
theorem MapAt.kept {P : Program} {k : TypeId} {w w' : World} {b n : Nat} {f : Int → Option Value} (h : MapAt P k w b n f) (hk : w'.heap[b]? = w.heap[b]?) : MapAt P k w' b n f := by
  obtain ⟨D, ⟨es, clock, hb, F, hs, hD⟩, ht⟩ := h
  exact ⟨D, ⟨es, clock, hk.trans hb, F, hs, hD⟩, ht⟩
theorem MapAt.mono {P : Program} {k : TypeId} {w : World} {b n m : Nat} {f : Int → Option Value} (h : MapAt P k w b n f) (hn : n ≤ m) : MapAt P k w b m f := by
  obtain ⟨D, h, ht⟩ := h; exact ⟨D, h.mono hn, ht⟩

theorem grown_mod {w w' : World} {b : Nat} (h : w.grownBy w' (some b)) : Mod (fun x => x = b) w w' :=
  ⟨h.os, h.tape, h.output, h.size, fun x hx hn => h.block x hx (fun e => hn (by injection e))⟩

section
variable {P : Program} {k e t : TypeId} {w : World} {b n : Nat} {f : Int → Option Value} (hk : P.underlying k = some (.int .i64)) (ht : P.underlying t = some (.map k e))
include hk ht

theorem MapAt.look (h : MapAt P k w b n f) (c : Bool) {z : Value} (hz : (zeroValue e).run P w = .ok z w) {x : Int} (hx : -9223372036854775808 ≤ x) (hx' : x ≤ 9223372036854775807) :
    (Instr.lookup t (.map (some b)) (.int .i64 x) c).run P w = .ok (if c then .tuple #[(f x).getD z, .bool (f x).isSome] else (f x).getD z) w := by
  obtain ⟨D, ⟨es, clock, hb, F, hs, rfl⟩, hT⟩ := h
  have hkey : keyOf P k (.int .i64 x) = some (key x) := keyOf_int_mk hk (by simp [Lit.wf, IntKind.min, IntKind.max, IntKind.signed, IntKind.bits]; omega)
  obtain ⟨h1, h2⟩ := hT x
  rcases Maps.fit_look c (int_keyed hk) ht hz hb F hkey with ⟨hrun, _, hat⟩ | ⟨e0, y, _, _, hrun, hRv, hat, _⟩
  · cases hf : f x with
    | none => rw [hrun]; cases c <;> rfl
    | some v =>
      have := (h2 v hf).1
      rw [Maps.has_false_of_atKey hat] at this
      cases this
  · cases hf : f x with
    | none =>
      have := h1 hf
      rw [Maps.has_true_of_atKey hat] at this
      cases this
    | some v =>
      have h3 := (h2 v hf).2 (.held undef)
      rw [hat] at h3
      have h4 : raw e0.val = some y := hRv
      simp only [raw, Option.some.injEq] at h4
      rw [← h4] at h3
      injection h3 with h3
      rw [hrun, h3]; cases c <;> rfl

theorem MapAt.store (h : MapAt P k w b n f) (hn : n < maxLen) {x : Int} (hx : -9223372036854775808 ≤ x) (hx' : x ≤ 9223372036854775807) (v : Value) :
    ∃ w', (Instr.mapUpdate t (.map (some b)) (.int .i64 x) v).run P w = .ok () w' ∧ MapAt P k w' b (n + 1) (upd f x (some v)) ∧ Mod (fun x => x = b) w w' := by
  obtain ⟨D, h, hT⟩ := h
  have hkey : keyOf P k (.int .i64 x) = some (key x) := keyOf_int_mk hk (by simp [Lit.wf, IntKind.min, IntKind.max, IntKind.signed, IntKind.bits]; omega)
  obtain ⟨w', hrun, h', hg⟩ := h.store (int_keyed hk) ht hn hkey (d := .held v) (ps := []) (R := raw) (val := v) rfl
  refine ⟨w', hrun, ⟨_, h', fun y => ?_⟩, grown_mod hg.grown⟩
  by_cases hy : y = x
  · subst hy
    refine ⟨fun hf => by simp [upd] at hf, fun u hu => ?_⟩
    simp only [upd, if_true, Option.some.injEq] at hu
    subst hu
    exact ⟨has_put_same h.isMap (key_is _) _, fun z => atKey_put_same h.isMap (key_is _) _ z⟩
  · have hne : key y ≠ key x := key_ne hy
    simp only [upd, if_neg hy]
    refine ⟨fun hf => by rw [has_put_other hne]; exact (hT y).1 hf, fun u hu => ⟨by rw [has_put_other hne]; exact ((hT y).2 u hu).1, fun z => by rw [atKey_put_other hne]; exact ((hT y).2 u hu).2 z⟩⟩

theorem MapAt.del (h : MapAt P k w b n f) {x : Int} (hx : -9223372036854775808 ≤ x) (hx' : x ≤ 9223372036854775807) (ty : TypeId) :
    ∃ w', (Builtin.delete_ #[t, k] ty #[.map (some b), .int .i64 x]).run P w = .ok (.tuple #[]) w' ∧ MapAt P k w' b n (upd f x none) ∧ Mod (fun x => x = b) w w' := by
  obtain ⟨D, h, hT⟩ := h
  have hkey : keyOf P k (.int .i64 x) = some (key x) := keyOf_int_mk hk (by simp [Lit.wf, IntKind.min, IntKind.max, IntKind.signed, IntKind.bits]; omega)
  obtain ⟨w', hrun, h', hg⟩ := h.drop (int_keyed hk) ht hkey ty
  refine ⟨w', hrun, ⟨_, h', fun y => ?_⟩, grown_mod hg.grown⟩
  by_cases hy : y = x
  · subst hy
    exact ⟨fun _ => has_del_same, fun u hu => by simp [upd] at hu⟩
  · have hne : key y ≠ key x := key_ne hy
    simp only [upd, if_neg hy]
    refine ⟨fun hf => by rw [has_del_other hne]; exact (hT y).1 hf, fun u hu => ⟨by rw [has_del_other hne]; exact ((hT y).2 u hu).1, fun z => by rw [atKey_del_other hne]; exact ((hT y).2 u hu).2 z⟩⟩
end

/-- A map. -/
def mp (P : Program) (k : TypeId) (b n : Nat) (f : Int → Option Value) : Thing where
  lies w F := MapAt P k w b n f ∧ ∀ x, F x ↔ x = b
  keep := fun ⟨h, hF⟩ _ hk => ⟨h.kept (hk b h.lt ((hF _).2 rfl)), hF⟩
  below := fun ⟨h, hF⟩ x hx => by rw [(hF x).1 hx]; exact h.lt

theorem St.mapAt {w0 w : World} {l : List Thing} (h : St w0 w l) (i : Nat) {P : Program} {k : TypeId} {b n : Nat} {f : Int → Option Value} (hi : l[i]? = some (mp P k b n f)) : MapAt P k w b n f := by
  obtain ⟨F1, hl, _⟩ := h.at i hi
  exact hl.1
theorem St.remap {w0 w w' : World} {l : List Thing} (h : St w0 w l) (i : Nat) {P : Program} {k : TypeId} {b n m : Nat} {f g : Int → Option Value} (hi : l[i]? = some (mp P k b n f)) (hw : MapAt P k w' b m g) (hm : Mod (fun x => x = b) w w') : St w0 w' (l.set i (mp P k b m g)) := by
  obtain ⟨F1, ⟨hh, hF⟩, hz, hk⟩ := h.at i hi
  exact hk w' (mp P k b m g) F1 (hm.mono (fun x _ hx => (hF x).2 hx)) ⟨hw, hF⟩ (fun x hx => .inl hx)
theorem St.map1 {w0 w : World} {l : List Thing} (h : St w0 w l) (P : Program) (k : TypeId) : St w0 (w.alloc (.map #[] 0)) (mp P k w.heap.size 0 (fun _ => none) :: l) :=
  h.cons (F := fun x => x = w.heap.size) ((Mod.refl _ w).alloc _) ⟨MapAt.made P k w, fun _ => Iff.rfl⟩ (fun x hx => by rw [hx]; exact Nat.le_refl _)

section
variable {P : Program} {ops : Array Oper} {rest : List Oper} {dst : Option Tmp} {ty0 : TypeId} {pos : String} {after : Array Edge} {a : Act} {w : World} {Q : Exit → Act → World → Prop}
variable {k e t : TypeId} (hk : P.underlying k = some (.int .i64)) (ht : P.underlying t = some (.map k e)) (b n : Nat) (f : Int → Option Value) (h : MapAt P k w b n f)
include hk ht h

/-- 'v, ok := m[k]', at elements of one shape. -/
theorem wpList_look_ok {m x : Operand} (hm : a.eval m = .map (some b)) {z : Value} (hz : (zeroValue e).run P w = .ok z w) (y : Int) (hx : a.eval x = .int .i64 y) (h1 : -9223372036854775808 ≤ y) (h2 : y ≤ 9223372036854775807)
    (v : Value) (s : Bool) (hv : (f y).getD z = v) (hs : (f y).isSome = s)
    (hn : wpList P ops Q rest (a.put dst (.tuple #[v, .bool s])) w) : wpList P ops Q (⟨dst, .lookup t m x true, ty0, pos, after, none⟩ :: rest) a w :=
  wpList_plain rfl fun K hK => by
    have hr := h.look hk ht true hz h1 h2
    subst hv hs
    unfold Oper.wp execOp
    simp only [hm, hx, Sem.run_bind, Sem.run_pure, hr, Result.andThen_ok]
    exact hK _ _ hn

/-- 'm[k]'. -/
theorem wpList_look {m x : Operand} (hm : a.eval m = .map (some b)) {z : Value} (hz : (zeroValue e).run P w = .ok z w) (y : Int) (hx : a.eval x = .int .i64 y) (h1 : -9223372036854775808 ≤ y) (h2 : y ≤ 9223372036854775807)
    (v : Value) (hv : (f y).getD z = v)
    (hn : wpList P ops Q rest (a.put dst v) w) : wpList P ops Q (⟨dst, .lookup t m x false, ty0, pos, after, none⟩ :: rest) a w :=
  wpList_plain rfl fun K hK => by
    have hr := h.look hk ht false hz h1 h2
    subst hv
    unfold Oper.wp execOp
    simp only [hm, hx, Sem.run_bind, Sem.run_pure, hr, Result.andThen_ok]
    exact hK _ _ hn

/-- 'm[k] = v'. -/
theorem wpList_put {m x u : Operand} (hm : a.eval m = .map (some b)) (hb : n < maxLen) (y : Int) (hx : a.eval x = .int .i64 y) (h1 : -9223372036854775808 ≤ y) (h2 : y ≤ 9223372036854775807) (v : Value) (hv : a.eval u = v)
    (hn : ∀ w', MapAt P k w' b (n + 1) (upd f y (some v)) → Mod (fun x => x = b) w w' → wpList P ops Q rest a w') : wpList P ops Q (⟨none, .mapUpdate t m x u, ty0, pos, after, none⟩ :: rest) a w :=
  wpList_plain rfl fun K hK => by
    obtain ⟨w', hr, h3, h4⟩ := h.store hk ht hb h1 h2 v
    subst hv
    unfold Oper.wp execOp
    simp only [hm, hx, Sem.run_bind, Sem.run_pure, hr, Result.andThen_ok]
    exact hK _ _ (hn w' h3 h4)

/-- 'delete(m, k)'. -/
theorem wpList_del {m x : Operand} (hm : a.eval m = .map (some b)) (y : Int) (hx : a.eval x = .int .i64 y) (h1 : -9223372036854775808 ≤ y) (h2 : y ≤ 9223372036854775807)
    (hn : ∀ w', MapAt P k w' b n (upd f y none) → Mod (fun x => x = b) w w' → wpList P ops Q rest a w') : wpList P ops Q (⟨none, .call { callee := .builtin .delete, args := #[m, x], argTypes := #[t, k] }, ty0, pos, after, none⟩ :: rest) a w :=
  wpList_plain rfl fun K hK => by
    obtain ⟨w', hr, h3, h4⟩ := h.del hk ht h1 h2 ty0
    unfold Oper.wp execOp
    simp only [resolve, invoke, builtin, Sem.run_bind, Sem.run_pure, Result.andThen_ok, List.map_toArray, List.map_cons, List.map_nil, hm, hx, hr]
    exact hK _ _ (hn w' h3 h4)
end
end

section
open Go.RowKit
set_option linter.unusedSectionVars false
set_option linter.unusedSimpArgs false
set_option linter.unusedVariables false

/-- A slice that has grown, into its own block or into a new one. -/
theorem St.regrow {w0 w w' : World} {l : List Thing} (h : St w0 w l) (i : Nat) {E k n cap n' cap' : Nat} {a a' : Option Addr} {cs cs' : List Value} (hi : l[i]? = some (sl E k a n cap cs)) (hs : Sl w' E k a' n' cap' cs') (hm : Mod (fun x => own a = some x) w w')
    (hF : ∀ b, own a' = some b → own a = some b ∨ (w.heap.size ≤ b ∧ b < w'.heap.size)) : St w0 w' (l.set i (sl E k a' n' cap' cs')) := by
  obtain ⟨F1, ⟨hh, hF1⟩, hz, hk⟩ := h.at i hi
  exact hk w' (sl E k a' n' cap' cs') (fun x => own a' = some x) (hm.mono (fun x _ hx => (hF1 x).2 hx)) ⟨hs, fun _ => Iff.rfl⟩ (fun x hx => (hF x hx).imp (fun h => (hF1 x).2 h) (·.1))

/-- A new slice in a block of its own. -/
theorem St.newSlice {w0 w w' : World} {l : List Thing} (h : St w0 w l) {E k n cap : Nat} {a : Option Addr} {cs : List Value} (hm : Mod (fun _ => False) w w') (hs : Sl w' E k a n cap cs) (hF : ∀ b, own a = some b → w.heap.size ≤ b) : St w0 w' (sl E k a n cap cs :: l) :=
  h.cons (F := fun x => own a = some x) hm ⟨hs, fun _ => Iff.rfl⟩ hF

theorem St.nilSlice {w0 w : World} {l : List Thing} (h : St w0 w l) (E k : Nat) : St w0 w (sl E k none 0 0 [] :: l) :=
  h.newSlice (Mod.refl _ _) (Sl.nil _ _ _) (fun b hb => by simp [own] at hb)

/-- Several things as one. -/
def grp (ts : List Thing) : Thing where
  lies w F := Side w ts F
  keep := by
    intro w w' F h hs hk
    have : ∀ (ts : List Thing) (F : Nat → Prop), Side w ts F → (∀ x, x < w.heap.size → F x → w'.heap[x]? = w.heap[x]?) → Side w' ts F := by
      intro ts
      induction ts with
      | nil => exact fun F h _ => h
      | cons t ts ih =>
        rintro F ⟨F1, F2, h1, h2, hd, hF⟩ hk
        exact ⟨F1, F2, t.keep h1 hs (fun x hx hf => hk x hx ((hF x).2 (.inl hf))), ih F2 h2 (fun x hx hf => hk x hx ((hF x).2 (.inr hf))), hd, hF⟩
    exact this ts F h hk
  below := fun h x hx => Side.lt h x hx

theorem Side.appendTo {w : World} : ∀ {l m : List Thing} {F G : Nat → Prop}, Side w l F → Side w m G → (∀ x, F x → ¬ G x) → ∃ H, Side w (l ++ m) H ∧ ∀ x, H x ↔ F x ∨ G x
  | [], m, F, G, h, hm, hd => ⟨G, hm, fun x => ⟨.inr, fun h' => h'.elim (fun h' => absurd h' (h x)) id⟩⟩
  | t :: l, m, F, G, ⟨F1, F2, h1, h2, hd2, hF⟩, hm, hd => by
    obtain ⟨H, hs, hH⟩ := Side.appendTo h2 hm (fun x hx => hd x ((hF x).2 (.inr hx)))
    refine ⟨fun x => F1 x ∨ H x, ⟨F1, H, h1, hs, fun x hx h => ?_, fun _ => Iff.rfl⟩, fun x => ?_⟩
    · rcases (hH x).1 h with h' | h'
      · exact hd2 x hx h'
      · exact hd x ((hF x).2 (.inl hx)) h'
    · show F1 x ∨ H x ↔ F x ∨ G x
      rw [hH, hF, or_assoc]

theorem Side.parts {w : World} : ∀ {l m : List Thing} {H : Nat → Prop}, Side w (l ++ m) H → ∃ F G, Side w l F ∧ Side w m G ∧ (∀ x, F x → ¬ G x) ∧ ∀ x, H x ↔ F x ∨ G x
  | [], m, H, h => ⟨fun _ => False, H, fun _ h => h, h, fun _ h => h.elim, fun x => by simp⟩
  | t :: l, m, H, ⟨F1, F2, h1, h2, hd, hF⟩ => by
    obtain ⟨F, G, hs, hm, hd2, hH⟩ := Side.parts h2
    refine ⟨fun x => F1 x ∨ F x, G, ⟨F1, F, h1, hs, fun x hx h => hd x hx ((hH x).2 (.inl h)), fun _ => Iff.rfl⟩, hm, fun x hx h => ?_, fun x => ?_⟩
    · rcases hx with hx | hx
      · exact hd x hx ((hH x).2 (.inr h))
      · exact hd2 x hx h
    · show H x ↔ (F1 x ∨ F x) ∨ G x
      rw [hF, hH, or_assoc]

theorem St.ungrp {w0 w : World} {ts l : List Thing} (h : St w0 w (grp ts :: l)) : St w0 w (ts ++ l) := by
  obtain ⟨h0, F, ⟨F1, F2, h1, h2, hd, hF⟩, hz⟩ := h
  obtain ⟨H, hs, hH⟩ := Side.appendTo (show Side w ts F1 from h1) h2 hd
  exact ⟨h0, H, hs, fun x hx => hz x ((hF x).2 ((hH x).1 hx))⟩
theorem St.regrp {w0 w : World} (ts : List Thing) {l : List Thing} (h : St w0 w (ts ++ l)) : St w0 w (grp ts :: l) := by
  obtain ⟨h0, H, hs, hz⟩ := h
  obtain ⟨F, G, h1, h2, hd, hH⟩ := Side.parts hs
  exact ⟨h0, H, ⟨F, G, h1, h2, hd, hH⟩, hz⟩

/-- A thing of which something is not told. -/
def some1 {α : Type} (t : α → Thing) : Thing where
  lies w F := ∃ a, (t a).lies w F
  keep := fun ⟨a, h⟩ hs hk => ⟨a, (t a).keep h hs hk⟩
  below := fun ⟨a, h⟩ x hx => (t a).below h x hx

theorem St.untell {w0 w : World} {α : Type} {t : α → Thing} {l : List Thing} (a : α) (h : St w0 w (t a :: l)) : St w0 w (some1 t :: l) := by
  obtain ⟨h0, F, ⟨F1, F2, h1, h2, hd, hF⟩, hz⟩ := h
  exact ⟨h0, F, ⟨F1, F2, ⟨a, h1⟩, h2, hd, hF⟩, hz⟩
theorem St.tell {w0 w : World} {α : Type} {t : α → Thing} {l : List Thing} (h : St w0 w (some1 t :: l)) : ∃ a, St w0 w (t a :: l) := by
  obtain ⟨h0, F, ⟨F1, F2, ⟨a, h1⟩, h2, hd, hF⟩, hz⟩ := h
  exact ⟨a, h0, F, ⟨F1, F2, h1, h2, hd, hF⟩, hz⟩

/-- A box and a slice lie in different blocks. -/
theorem St.apart2 {w0 w : World} {tb pb : Nat} {c d : Array Value} {T U : TypeId} {E k n cap : Nat} {a : Option Addr} {cs : List Value} {l : List Thing} (h : St w0 w (bx tb c T :: bx pb d U :: sl E k a n cap cs :: l)) : own a ≠ some tb := by
  obtain ⟨h0, F, ⟨F1, F2, ⟨_, h1⟩, ⟨G1, G2, _, ⟨H1, H2, ⟨_, h3⟩, _, _, hF3⟩, _, hF2⟩, hd, hF⟩, hz⟩ := h
  intro he
  exact hd tb ((h1 tb).2 rfl) ((hF2 tb).2 (.inr ((hF3 tb).2 (.inl ((h3 tb).2 he)))))
end

section
open Go.RowKit
set_option linter.unusedSectionVars false
set_option linter.unusedSimpArgs false
set_option linter.unusedVariables false

theorem step_append {P : Program} {ops : Array Oper} {o : Oper} {a : Act} {w : World} {K : Act → World → Prop} {Q : Exit → Act → World → Prop} {G : Prop} (hgd : o.guard = none) {x y : Operand} {t : TypeId}
    (ho : o.op = .call { callee := .builtin .append, args := #[x, y], argTypes := #[t, t] })
    (E : TypeId) (i : TypeInfo) (z : Value) (k bytes : Nat) (ht : P.underlying t = some (.slice E)) (hi : P.info? E = some i) (hz : i.zero = some z) (hsize : i.size = k) (hby : i.bytes = bytes) (hzs : z.cells.size = k)
    (p : Option Addr) (n cap : Nat) (cs : List Value) (hx : a.eval x = .slice p n cap) (hv : Sl w E k p n cap cs)
    (s : Option Addr) (m sc : Nat) (news : List Value) (hy : a.eval y = .slice s m sc) (hs : Rd w k s m sc news) (h1 : ∀ u ∈ news, u.oneCell' = true)
    (h63 : n + m ≤ maxLen) (hb : ((n + m) + (n + m) / 4 + 512) * bytes ≤ 281474976710656)
    (h : ∀ a' cap' w', Sl w' E k a' (n + m) cap' (cs ++ news) → Mod (fun b => own p = some b) w w' → (∀ b, own a' = some b → own p = some b ∨ (w.heap.size ≤ b ∧ b < w'.heap.size)) → (a' = none ↔ p = none ∧ m = 0) → (n + m ≤ cap → a' = p ∧ cap' = cap) →
      K (a.put o.dst (.slice a' (n + m) cap')) w') : if Region.wanted o (yielded ops a.tmps) = true then Oper.wp P o a w K Q else G := by
  have hw : Region.wanted o (yielded ops a.tmps) = true := by simp [Region.wanted, hgd]
  rw [if_pos hw]
  obtain ⟨p', cap', w', hr, h2, h3, h4, h5, h6⟩ := append_law (P := P) w t o.type E i z k bytes ht hi hz hsize hby hzs p n cap cs hv s m sc news hs h1 h63 hb
  unfold Oper.wp
  simp [execOp, ho, resolve, invoke, builtin, hx, hy, hr, Result.andThen]
  exact h p' cap' w' h2 h3 h4 h5 h6
end

section
open Go.RowKit
set_option linter.unusedSectionVars false
set_option linter.unusedSimpArgs false
set_option linter.unusedVariables false

section
variable {P : Program} {md : Region.Mode}

/-- The post while the last operation is still to come. -/
def LastQ (P : Program) (ops : Array Oper) (n : Nat) (Q : Exit → Act → World → Prop) : Exit → Act → World → Prop
  | .normal, a, w => wpOp P ops Q n (fun a w => Q .normal a w) a w
  | e, a, w => Q e a w

theorem LastQ.outs {ops : Array Oper} {n : Nat} {Q : Exit → Act → World → Prop} (h : LetsOut (LastQ P ops n Q)) : LetsOut Q := h

theorem LastQ.oper {ops : Array Oper} {n : Nat} {Q : Exit → Act → World → Prop} {o : Oper} {a : Act} {w : World} {K : Act → World → Prop} (h : o.wp P a w K (LastQ P ops n Q)) : o.wp P a w K Q := by
  unfold Oper.wp at *
  generalize (execOp a.eval o).run P w = r at *
  cases r with
  | ok x w' =>
    cases x <;> simp only [Oper.upon] at h ⊢ <;> first | exact h | exact Calls.mono h (fun e w'' he => by cases e <;> exact he)
  | halt x w' => cases x <;> simp only [Oper.upon] at h ⊢ <;> exact h

/-- Do all edges lead down, and do all guards stand ahead? -/
def edgesDown (md : Region.Mode) (ops : Array Oper) : Bool :=
  (List.range ops.size).all fun i => ((ops[i]?).map fun o => (o.after.all fun e => !Region.binds md e || decide (e.on < i)) && (match o.guard with | none => true | some (j, _) => decide (j < i))).getD true

/-- Those that stand ahead of these. -/
def aheadOf (md : Region.Mode) (ops : Array Oper) (l : List Nat) : List Nat :=
  (List.range ops.size).filter fun k => l.contains k || l.any fun j => ((ops[j]?).map fun o => o.after.any fun e => Region.binds md e && e.on == k).getD false
def aheadAll (md : Region.Mode) (ops : Array Oper) : Nat → List Nat → List Nat
  | 0, l => l
  | m + 1, l => aheadAll md ops m (aheadOf md ops l)

/-- Whatever is listed has its edges listed. -/
def Closed (md : Region.Mode) (ops : Array Oper) (l : Array Bool) : Prop :=
  ∀ j o, ops[j]? = some o → l.getD j false = true → ∀ e ∈ o.after, Region.binds md e = true → l.getD e.on false = true

theorem Closed.ahead {ops : Array Oper} {l : Array Bool} (h : Closed md ops l) {s : List Nat} (hs : ∀ j ∈ s, l.getD j false = true) : ∀ j ∈ aheadOf md ops s, l.getD j false = true := by
  intro j hj
  simp only [aheadOf, List.mem_filter, Bool.or_eq_true, List.contains_eq_mem, decide_eq_true_eq, List.any_eq_true] at hj
  rcases hj.2 with h1 | ⟨k, hk, h1⟩
  · exact hs j h1
  · cases ho : ops[k]? with
    | none => simp [ho] at h1
    | some o =>
      simp only [ho, Option.map_some, Option.getD_some, Array.any_eq_true, Bool.and_eq_true, beq_iff_eq] at h1
      obtain ⟨i, hi, hb, he⟩ := h1
      have := h k o ho (hs k hk) o.after[i] (Array.getElem_mem hi) hb
      rw [he] at this
      exact this
theorem Closed.aheadAll {ops : Array Oper} {l : Array Bool} (h : Closed md ops l) : ∀ (m : Nat) {s : List Nat}, (∀ j ∈ s, l.getD j false = true) → ∀ j ∈ aheadAll md ops m s, l.getD j false = true
  | 0, _, hs => hs
  | m + 1, _, hs => Closed.aheadAll h m (h.ahead hs)

theorem push_getD (l : Array Bool) (k : Nat) : (l.push false).getD k false = l.getD k false := by
  simp only [Array.getD_eq_getD_getElem?, Array.getElem?_push]
  split
  · rename_i h; subst h; simp
  · rfl
theorem push_getD_true {l : Array Bool} {k : Nat} (h : k < l.size) (b : Bool) : (l.push false).getD k b = l.getD k b := by
  simp only [Array.getD_eq_getD_getElem?, Array.getElem?_push]
  rw [if_neg (by omega)]
theorem getD_any {l : Array Bool} {k : Nat} (h : k < l.size) (b c : Bool) : l.getD k b = l.getD k c := by
  simp only [Array.getD_eq_getD_getElem?, Array.getElem?_eq_getElem h, Option.getD_some]

theorem closed_set {ops : Array Oper} {l : Array Bool} (h : Closed md ops l) {i : Nat} (hi : i ∈ Region.ready md ops l) : Closed md ops (l.setIfInBounds i true) := by
  obtain ⟨hun, o, ho, hall⟩ := mem_ready.1 hi
  have mono : ∀ k, l.getD k false = true → (l.setIfInBounds i true).getD k false = true := fun k hk => by
    simp only [Array.getD_eq_getD_getElem?, Array.getElem?_setIfInBounds] at hk ⊢
    split
    · rename_i he; subst he
      split
      · rfl
      · rename_i hn; rw [Array.getElem?_eq_none (by omega)] at hk; simp at hk
    · exact hk
  intro j oj hj hl e he hb
  by_cases hij : i = j
  · subst hij
    rw [ho] at hj; cases hj
    exact mono _ (by simpa using hall e he hb)
  · refine mono _ (h j oj hj ?_ e he hb)
    simp only [Array.getD_eq_getD_getElem?, Array.getElem?_setIfInBounds, if_neg hij] at hl ⊢
    exact hl

variable {ops' : Array Oper} {o : Oper} {Q : Exit → Act → World → Prop}

theorem ready_push {l : Array Bool} (hl : l.size = ops'.size) {i : Nat} (hi : i < ops'.size) : i ∈ Region.ready md (ops'.push o) (l.push false) ↔ i ∈ Region.ready md ops' l := by
  simp only [Region.ready, List.mem_filter, List.mem_range, Array.size_push, Array.getElem?_push, if_neg (show ¬ i = ops'.size by omega), push_getD, push_getD_true (l := l) (k := i) (by omega)]
  constructor
  · rintro ⟨_, h⟩; exact ⟨hi, h⟩
  · rintro ⟨_, h⟩; exact ⟨by omega, h⟩

theorem wpOp_push {i : Nat} (hi : i < ops'.size) (hd : edgesDown md (ops'.push o) = true) {K K' : Act → World → Prop} (hK : ∀ a w, K a w → K' a w) {a : Act} {w : World}
    (h : wpOp P ops' (LastQ P (ops'.push o) ops'.size Q) i K a w) : wpOp P (ops'.push o) Q i K' a w := by
  have hg : (ops'.push o)[i]? = ops'[i]? := by rw [Array.getElem?_push, if_neg (by omega)]
  refine wpOp_mono hK ?_
  unfold wpOp at *
  rw [hg]
  cases ho : ops'[i]? with
  | none => rw [ho] at h; exact h
  | some x =>
    rw [ho] at h
    simp only at h ⊢
    have hw : Region.wanted x (yielded (ops'.push o) a.tmps) = Region.wanted x (yielded ops' a.tmps) := by
      unfold Region.wanted
      cases hgd : x.guard with
      | none => rfl
      | some p =>
        obtain ⟨j, b⟩ := p
        have hji : j < i := by
          have := (List.all_eq_true.1 hd) i (List.mem_range.2 (by rw [Array.size_push]; omega))
          rw [hg, ho] at this
          simp only [Option.map_some, Option.getD_some, Bool.and_eq_true, hgd, decide_eq_true_eq] at this
          exact this.2
        simp only [yielded]
        rw [Array.getElem?_push, if_neg (by omega)]
    rw [hw]
    split
    · rename_i hx; rw [if_pos hx] at h; exact h.imp LastQ.oper (fun h => ⟨h.1, LastQ.outs h.2⟩)
    · rename_i hx; rw [if_neg hx] at h; exact h

/-- All ahead of the last one are listed: none of them is ready. -/
theorem ready_all {ops : Array Oper} {l : Array Bool} (h : ∀ j, j < ops.size → l.getD j false = true) : Region.ready md ops l = [] := by
  refine List.filter_eq_nil_iff.2 fun i hi => ?_
  have hi' := List.mem_range.1 hi
  have h1 := h i hi'
  have h2 : i < l.size := by
    rcases Nat.lt_or_ge i l.size with h | h
    · exact h
    · simp [Array.getElem?_eq_none h] at h1
  rw [getD_any h2 true false, h1]
  simp

theorem wpAny_push (hd : edgesDown md (ops'.push o) = true) (hc : ((List.range ops'.size).all fun k => (aheadAll md (ops'.push o) ops'.size (aheadOf md (ops'.push o) [ops'.size])).contains k) = true) :
    ∀ (fuel : Nat) (l : Array Bool) (a : Act) (w : World), l.size = ops'.size → Closed md (ops'.push o) (l.push false) →
      wpAny P md ops' (LastQ P (ops'.push o) ops'.size Q) fuel l a w → wpAny P md (ops'.push o) Q (fuel + 1) (l.push false) a w := by
  have hn : (ops'.push o)[ops'.size]? = some o := by simp
  -- the last one is ready: all others are listed
  have hall : ∀ (l : Array Bool), l.size = ops'.size → Closed md (ops'.push o) (l.push false) → ops'.size ∈ Region.ready md (ops'.push o) (l.push false) → ∀ j, j < ops'.size → l.getD j false = true := by
    intro l hl hcl hr j hj
    obtain ⟨_, x, hx, hal⟩ := mem_ready.1 hr
    rw [hn] at hx; cases hx
    have hs : ∀ j ∈ aheadOf md (ops'.push o) [ops'.size], j ≠ ops'.size → (l.push false).getD j false = true := by
      intro j hj hne
      simp only [aheadOf, List.mem_filter, Bool.or_eq_true, List.contains_eq_mem, decide_eq_true_eq, List.any_eq_true, List.mem_singleton] at hj
      rcases hj.2 with h1 | ⟨k, rfl, h1⟩
      · exact absurd h1 hne
      · simp only [hn, Option.map_some, Option.getD_some, Array.any_eq_true, Bool.and_eq_true, beq_iff_eq] at h1
        obtain ⟨i, hi, hb, he⟩ := h1
        have := hal o.after[i] (Array.getElem_mem hi) hb
        rw [he] at this
        simpa using this
    -- a closed list that has the last one besides
    have hcl2 : Closed md (ops'.push o) (l.push true) := by
      have hset : (l.push false).setIfInBounds ops'.size true = l.push true := by
        refine Array.ext_getElem? fun k => ?_
        simp only [Array.getElem?_setIfInBounds, Array.getElem?_push, Array.size_push]
        by_cases hk : ops'.size = k
        · rw [if_pos hk, if_pos (by omega), if_pos (by omega)]
        · rw [if_neg hk, if_neg (by omega), if_neg (by omega)]
      rw [← hset]
      exact closed_set hcl hr
    have hmem : ∀ j ∈ aheadOf md (ops'.push o) [ops'.size], (l.push true).getD j false = true := by
      intro j hj
      by_cases hne : j = ops'.size
      · subst hne; rw [← hl]; simp
      · have := hs j hj hne
        rw [push_getD] at this
        simp only [Array.getD_eq_getD_getElem?, Array.getElem?_push] at this ⊢
        split
        · rfl
        · exact this
    have hjm : j ∈ aheadAll md (ops'.push o) ops'.size (aheadOf md (ops'.push o) [ops'.size]) := by
      have := (List.all_eq_true.1 hc) j (List.mem_range.2 hj)
      simpa using this
    have := hcl2.aheadAll _ hmem j hjm
    simp only [Array.getD_eq_getD_getElem?, Array.getElem?_push, if_neg (show ¬ j = l.size by omega)] at this ⊢
    exact this
  -- behind the last one nothing is ready
  have hdone : ∀ (l : Array Bool), l.size = ops'.size → (∀ j, j < ops'.size → l.getD j false = true) → Region.ready md (ops'.push o) ((l.push false).setIfInBounds ops'.size true) = [] := by
    intro l hl h
    refine ready_all fun j hj => ?_
    rw [Array.size_push] at hj
    simp only [Array.getD_eq_getD_getElem?, Array.getElem?_setIfInBounds, Array.getElem?_push, Array.size_push]
    by_cases hjn : ops'.size = j
    · rw [if_pos hjn, if_pos (by omega)]; rfl
    · rw [if_neg hjn, if_neg (by omega)]
      have := h j (by omega)
      rw [Array.getD_eq_getD_getElem?] at this
      exact this
  -- somebody is ready while the last one is not listed
  have hsome : ∀ (l : Array Bool), l.size = ops'.size → Region.ready md (ops'.push o) (l.push false) ≠ [] := by
    intro l hl h0
    have hlist : ∀ i, i < ops'.size + 1 → (l.push false).getD i false = true := by
      intro i
      induction i using Nat.strongRecOn with
      | _ i ih =>
        intro hi
        cases hb : (l.push false).getD i false with
        | true => rfl
        | false =>
          exfalso
          have hxi : ∃ x, (ops'.push o)[i]? = some x := ⟨_, Array.getElem?_eq_getElem (by rw [Array.size_push]; exact hi)⟩
          obtain ⟨x, hx⟩ := hxi
          have hdn := (List.all_eq_true.1 hd) i (List.mem_range.2 (by rw [Array.size_push]; exact hi))
          rw [hx] at hdn
          simp only [Option.map_some, Option.getD_some, Bool.and_eq_true, Array.all_eq_true, Bool.or_eq_true, Bool.not_eq_true', decide_eq_true_eq] at hdn
          have : i ∈ Region.ready md (ops'.push o) (l.push false) := by
            refine mem_ready.2 ⟨by rw [getD_any (by rw [Array.size_push]; omega) true false]; exact hb, x, hx, fun e he hbe => ?_⟩
            obtain ⟨k, hk, rfl⟩ := Array.mem_iff_getElem.1 he
            rcases hdn.1 k hk with h1 | h1
            · rw [h1] at hbe; cases hbe
            · have := ih _ h1 (by omega)
              simpa using this
          rw [h0] at this
          cases this
    have := hlist ops'.size (by omega)
    rw [push_getD, Array.getD_eq_getD_getElem?, Array.getElem?_eq_none (by omega)] at this
    cases this
  intro fuel
  induction fuel with
  | zero =>
    intro l a w hl hcl h
    refine ⟨fun h0 => absurd h0 (hsome l hl), fun i hi => ?_⟩
    have hin : i = ops'.size := by
      have h1 : i < ops'.size + 1 := by
        have := (List.mem_filter.1 hi).1
        rw [List.mem_range, Array.size_push] at this; exact this
      rcases Nat.lt_or_ge i ops'.size with h2 | h2
      · have := (ready_push hl h2).1 hi
        rw [h.1] at this; cases this
      · omega
    subst hin
    have hal := hall l hl hcl hi
    exact wpOp_mono (fun a' w' hq => ⟨hdone l hl hal, hq⟩) h.2
  | succ fuel ih =>
    intro l a w hl hcl h
    refine ⟨fun h0 => absurd h0 (hsome l hl), fun i hi => ?_⟩
    have h1 : i < ops'.size + 1 := by
      have := (List.mem_filter.1 hi).1
      rw [List.mem_range, Array.size_push] at this; exact this
    rcases Nat.lt_or_ge i ops'.size with h2 | h2
    · have hr := (ready_push hl h2).1 hi
      have hset : (l.push false).setIfInBounds i true = (l.setIfInBounds i true).push false := by
        refine Array.ext_getElem? fun k => ?_
        simp only [Array.getElem?_setIfInBounds, Array.getElem?_push, Array.size_push, Array.size_setIfInBounds]
        by_cases hik : i = k
        · rw [if_pos hik, if_pos (by omega), if_neg (by omega), if_pos hik, if_pos (by omega)]
        · rw [if_neg hik, if_neg hik]
      rw [hset]
      exact wpOp_push h2 hd (fun a' w' h3 => ih (l.setIfInBounds i true) a' w' (by rw [Array.size_setIfInBounds]; exact hl) (by rw [← hset]; exact closed_set hcl hi) h3) (h.2 i hr)
    · have hin : i = ops'.size := by omega
      subst hin
      have hal := hall l hl hcl hi
      have hq := h.1 (ready_all hal)
      refine wpOp_mono (fun a' w' hq => ⟨fun _ => hq, ?_⟩) hq
      rw [hdone l hl hal]
      intro i hi; cases hi

/-- **The last operation of a region that draws its order is taken out**, if all others stand ahead of it: the others are a region by themselves, and the last one stands behind. -/
theorem wp_region_last {id : Nat} {ops : Array Oper} {a : Act} {w : World} (hm : P.follows .mixedOrders = true) (ops' : Array Oper) (o : Oper) (ho : ops = ops'.push o) (hd : edgesDown .any (ops'.push o) = true)
    (hc : ((List.range ops'.size).all fun k => (aheadAll .any (ops'.push o) ops'.size (aheadOf .any (ops'.push o) [ops'.size])).contains k) = true)
    (h : wpAny P .any ops' (LastQ P (ops'.push o) ops'.size Q) ops'.size (Array.replicate ops'.size false) a w.drew) : (Code.region id ops true).wp P Q a w := by
  subst ho
  refine wp_region_any hm ?_
  have e : Array.replicate (ops'.push o).size false = (Array.replicate ops'.size false).push false := by
    rw [Array.size_push, ← Array.replicate_succ]
  rw [e, Array.size_push]
  refine wpAny_push hd hc ops'.size _ a _ (by simp) ?_ h
  intro j oj hj hl
  exfalso
  rw [push_getD, Array.getD_eq_getD_getElem?, Array.getElem?_replicate] at hl
  split at hl <;> cases hl

/-- The same, held by S: the walk goes on at 'wpAnyH' over the region without its last operation. -/
theorem wp_region_last_held {id n : Nat} {ops ops' : Array Oper} {S : World → Prop} {a : Act} {w : World} {Q : Exit → Act → World → Prop} (hm : P.follows .mixedOrders = true) (hn : ops.size = n + 1) (hp : ops.pop = ops') (hd : edgesDown .any ops = true)
    (hc : ((List.range n).all fun k => (aheadAll .any ops n (aheadOf .any ops [n])).contains k) = true) (hS : S w.drew)
    (h : S w.drew → wpAnyH P .any ops' (LastQ P ops n Q) S n (Array.replicate n false) a w.drew) : (Code.region id ops true).wp P Q a w := by
  have hne : 0 < ops.size := by omega
  have hs : ops'.size = n := by rw [← hp, Array.size_pop]; omega
  obtain ⟨o, ho⟩ : ∃ o, ops = ops'.push o := by
    subst hp
    refine ⟨ops[ops.size - 1], Array.ext_getElem? fun k => ?_⟩
    rw [Array.getElem?_push, Array.getElem?_pop, Array.size_pop]
    split
    · rename_i h; rw [h, Array.getElem?_eq_getElem (by omega)]
    · rename_i h
      split
      · rfl
      · rw [Array.getElem?_eq_none (by omega)]
  have h' := wpAny_of_held _ _ _ _ (h hS)
  rw [← hs] at h' hc
  exact wp_region_last hm ops' _ ho (by rw [← ho]; exact hd) (by rw [← ho]; exact hc) (by rw [← ho]; exact h')

/-- The last operation itself. -/
theorem LastQ.step {ops : Array Oper} {n : Nat} {Q : Exit → Act → World → Prop} {o : Oper} {a : Act} {w : World} (hi : ops[n]? = some o) (hg : o.guard = none) (h : o.wp P a w (fun a w => Q .normal a w) Q) : LastQ P ops n Q .normal a w := by
  show wpOp P ops Q n _ a w
  unfold wpOp
  rw [hi]
  simp only [Region.wanted, hg, if_true]
  exact .inl h

/-- A slice cut at its end (of what it may hold). -/
theorem run_upto (w : World) {t : TypeId} (E k : Nat) (ht : P.underlying t = some (.slice E)) (hk : P.cellsOf E = k) (hinf : (P.info? E).isSome = true) (p : Option Addr) (n cap h : Nat) (hp : p = none ∨ ∃ b off, p = some ⟨b, off, none⟩) (hh : h ≤ cap) (hm : cap ≤ maxLen) :
    (Instr.sliceAt t (.slice p n cap) none (some (.int .i64 h)) none).run P w = .ok (.slice p h cap) w := by
  have hb : (Instr.sliceBounds true n cap none (some (.int .i64 h)) none).run P w = .ok (0, h, cap) w := bounds_h _ _ _ _ (by omega) (by unfold maxLen at hm; omega)
  rw [run_cut (P := P) w t E k ht hk hinf p n cap none (some (.int .i64 h)) none 0 h cap hb]
  have e : (if cap = 0 then p else p.map (·.add (0 * k))) = p := by
    split
    · rfl
    · rcases hp with rfl | ⟨b, off, rfl⟩
      · rfl
      · simp [add_none]
  rw [e, Nat.sub_zero, Nat.sub_zero]

theorem step_upto {ops : Array Oper} {o : Oper} {a : Act} {w : World} {K : Act → World → Prop} {Q : Exit → Act → World → Prop} {G : Prop} (hgd : o.guard = none) {x y : Operand} {t : TypeId} (ho : o.op = .slice t x none (some y) none)
    (E k : Nat) (ht : P.underlying t = some (.slice E)) (hk : P.cellsOf E = k) (hinf : (P.info? E).isSome = true) (p : Option Addr) (n cap h : Nat) (hx : a.eval x = .slice p n cap) (hy : a.eval y = .int .i64 h) (hp : p = none ∨ ∃ b off, p = some ⟨b, off, none⟩) (hh : h ≤ cap) (hm : cap ≤ maxLen)
    (hK : K (a.put o.dst (.slice p h cap)) w) : if Region.wanted o (yielded ops a.tmps) = true then Oper.wp P o a w K Q else G := by
  have hw : Region.wanted o (yielded ops a.tmps) = true := by simp [Region.wanted, hgd]
  rw [if_pos hw]
  unfold Oper.wp execOp
  simp only [ho, Option.map_none, Option.map_some, hx, hy, Sem.run_bind, Sem.run_pure, run_upto w E k ht hk hinf p n cap h hp hh hm, Result.andThen_ok]
  exact hK

theorem wpList_upto {ops : Array Oper} {rest : List Oper} {dst : Option Tmp} {ty0 : TypeId} {pos : String} {after : Array Edge} {a : Act} {w : World} {Q : Exit → Act → World → Prop} {t : TypeId} {x y : Operand} (E k : Nat) (ht : P.underlying t = some (.slice E)) (hk : P.cellsOf E = k) (hinf : (P.info? E).isSome = true)
    (p : Option Addr) (n cap h : Nat) (hx : a.eval x = .slice p n cap) (hy : a.eval y = .int .i64 h) (hp : p = none ∨ ∃ b off, p = some ⟨b, off, none⟩) (hh : h ≤ cap) (hm : cap ≤ maxLen)
    (hn : wpList P ops Q rest (a.put dst (.slice p h cap)) w) : wpList P ops Q (⟨dst, .slice t x none (some y) none, ty0, pos, after, none⟩ :: rest) a w :=
  wpList_plain rfl fun K hK => by
    unfold Oper.wp execOp
    simp only [Option.map_none, Option.map_some, hx, hy, Sem.run_bind, Sem.run_pure, run_upto w E k ht hk hinf p n cap h hp hh hm, Result.andThen_ok]
    exact hK _ _ hn

theorem Sl.plain {w : World} {E k : Nat} {p : Option Addr} {n cap : Nat} {cs : List Value} (h : Sl w E k p n cap cs) : p = none ∨ ∃ b off, p = some ⟨b, off, none⟩ := by
  obtain ⟨_, _, _, ⟨rfl, _⟩ | ⟨b, off, _, rfl, _⟩⟩ := h
  · exact .inl rfl
  · exact .inr ⟨b, off, rfl⟩
end
end
end Go.Proofs.Ytmbkbkfcbloafab
