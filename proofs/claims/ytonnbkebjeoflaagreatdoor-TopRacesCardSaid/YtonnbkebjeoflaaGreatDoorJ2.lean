/-
  Contracts and plain laws of Lib, Bits.
  Conditions: each law states its own.
-/
import Derived.WalkKit
import Derived.ProofKit
import Derived.OpenShut
import Derived.Deep.QuietTactic
import Derived.BigQuiet
import Derived.StillTailTactics
import Derived.WalkSpells
import Derived.WalkLawsBesides
import Derived.Lib.Hide
set_option linter.unusedSectionVars false
set_option linter.unusedSimpArgs false
set_option linter.unusedVariables false
namespace Go.Proofs.YtonnbkebjeoflaaGreatDoor
open Go.RowKit
structure Mod (S : Nat → Prop) (w w' : World) : Prop where
 os : w'.os = w.os
 tape : w'.tape = w.tape
 output : w'.output = w.output
 size : w.heap.size ≤ w'.heap.size
 keep : ∀ b, b < w.heap.size → ¬ S b → w'.heap[b]? = w.heap[b]?
theorem Mod.refl (S : Nat → Prop) (w : World) : Mod S w w := ⟨rfl, rfl, rfl, Nat.le_refl _, fun _ _ _ => rfl⟩
theorem Mod.trans {S T U : Nat → Prop} {a b c : World} (h : Mod S a b) (k : Mod T b c) (hS : ∀ x, x < a.heap.size → S x → U x) (hT : ∀ x, x < a.heap.size → T x → U x) : Mod U a c :=
 ⟨k.os.trans h.os, k.tape.trans h.tape, k.output.trans h.output, Nat.le_trans h.size k.size, fun x hx hn =>
  (k.keep x (Nat.lt_of_lt_of_le hx h.size) (fun t => hn (hT x hx t))).trans (h.keep x hx (fun s => hn (hS x hx s)))⟩
theorem Mod.mono {S T : Nat → Prop} {a b : World} (h : Mod S a b) (hS : ∀ x, x < a.heap.size → S x → T x) : Mod T a b :=
 ⟨h.os, h.tape, h.output, h.size, fun x hx hn => h.keep x hx (fun s => hn (hS x hx s))⟩
theorem Mod.then {S T : Nat → Prop} {a b c : World} (h : Mod S a b) (k : Mod T b c) (hT : ∀ x, x < a.heap.size → T x → S x) : Mod S a c :=
 h.trans k (fun _ _ h => h) hT
theorem Mod.drewN {S : Nat → Prop} {a b : World} (h : Mod S a b) (n : Nat) : Mod S a (b.drewN n) := ⟨h.os, h.tape, h.output, h.size, h.keep⟩
theorem Mod.drew {S : Nat → Prop} {a b : World} (h : Mod S a b) : Mod S a b.drew := ⟨h.os, h.tape, h.output, h.size, h.keep⟩
theorem Mod.alloc {S : Nat → Prop} {a b : World} (h : Mod S a b) (o : Obj) : Mod S a (b.alloc o) :=
 ⟨h.os, h.tape, h.output, by have := h.size; simp; omega, fun x hx hn => by
  rw [Below.heap_alloc b o x (Nat.lt_of_lt_of_le hx h.size)]; exact h.keep x hx hn⟩
theorem Mod.setCell {S : Nat → Prop} {a b : World} (h : Mod S a b) (p : Addr) (v : Value) (hp : p.block < a.heap.size → S p.block) : Mod S a (b.setCell p v) :=
 ⟨h.os, h.tape, h.output, by have := h.size; simp; omega, fun x hx hn => by
  rw [heap_setCell_other b p x v (fun e => hn (e ▸ hp (e ▸ hx)))]; exact h.keep x hx hn⟩
theorem Mod.setRow {S : Nat → Prop} {a b : World} (h : Mod S a b) (g : Nat) (cs : Array Value) (hp : g < a.heap.size → S g) : Mod S a (b.setRow g cs) :=
 ⟨h.os, h.tape, h.output, by have := h.size; simp; omega, fun x hx hn => by
  rw [setRow_other b g x cs (fun e => hn (e ▸ hp (e ▸ hx)))]; exact h.keep x hx hn⟩
theorem Mod.cell {S : Nat → Prop} {a b : World} (h : Mod S a b) {p : Addr} {v : Value} (hc : a.cell? p = some v) (hn : ¬ S p.block) : b.cell? p = some v := by
 rw [World.cell?_of_block (h.keep p.block (World.block_lt_of_cell? a p hc) hn)]; exact hc
theorem Mod.heap {S : Nat → Prop} {a b : World} (h : Mod S a b) {x : Nat} {o : Obj} (hc : a.heap[x]? = some o) (hn : ¬ S x) : b.heap[x]? = some o := by
 rw [h.keep x (Array.getElem?_eq_some_iff.1 hc).1 hn]; exact hc
theorem Mod.below {w w' : World} (h : Mod (fun _ => False) w w') : Below w.heap.size w w' :=
 ⟨h.os, h.tape, h.output, h.size, fun k hk => h.keep k hk (fun f => f)⟩
theorem heap_lt {w : World} {b : Nat} {o : Obj} (h : w.heap[b]? = some o) : b < w.heap.size := (Array.getElem?_eq_some_iff.1 h).1
theorem blk_cell {w : World} {b : Nat} {c : Array Value} {e : TypeId} {fr : Nat × Nat} (h : w.heap[b]? = some (.cells c e fr)) (j : Nat) (v : Value) (hv : c[j]? = some v) : w.cell? ⟨b, j, none⟩ = some v := by
 rw [cell_of_row w b j c e fr h]; exact hv
theorem blk_free {w : World} {b : Nat} {c : Array Value} {e : TypeId} (h : w.heap[b]? = some (.cells c e (0, 0))) (j : Nat) : w.frozen? ⟨b, j, none⟩ = false := frozen_of_row w b j c e h
theorem blk_set {w : World} {b i : Nat} {c : Array Value} {e : TypeId} (v : Value) (h : w.heap[b]? = some (.cells c e (0, 0))) : (w.setCell ⟨b, i, none⟩ v).heap[b]? = some (.cells (c.setIfInBounds i v) e (0, 0)) :=
 heap_setCell_same w b i c e v h
theorem calls_named {P : Program} {f : FuncId} {args : Array Value} {w : World} {R : Ending → World → Prop} (h : ∀ W, W = w → Calls P f args W R) : Calls P f args w R := h w rfl
theorem add_none (b o j : Nat) : (⟨b, o, none⟩ : Addr).add j = ⟨b, o + j, none⟩ := by unfold Addr.add; split <;> simp_all
def own (a : Option Addr) : Option Nat := a.map (·.block)
def Rd (w : World) (k : Nat) (a : Option Addr) (n cap : Nat) (cs : List Value) : Prop :=
 cs.length = n * k ∧ n ≤ cap ∧ cap ≤ maxLen ∧ ((a = none ∧ cap = 0) ∨ ∃ x, a = some x ∧ ∀ j u, cs[j]? = some u → w.cell? (x.add j) = some u)
def Sl (w : World) (E k : Nat) (a : Option Addr) (n cap : Nat) (cs : List Value) : Prop :=
 cs.length = n * k ∧ n ≤ cap ∧ cap ≤ maxLen ∧ ((a = none ∧ cap = 0) ∨
  ∃ b off c, a = some ⟨b, off, none⟩ ∧ w.heap[b]? = some (.cells c E (0, 0)) ∧ off + cap * k ≤ c.size ∧ (c.toList.drop off).take (n * k) = cs)
theorem Sl.rd {w : World} {E k : Nat} {a : Option Addr} {n cap : Nat} {cs : List Value} (h : Sl w E k a n cap cs) : Rd w k a n cap cs := by
 obtain ⟨hl, hn, hm, h | ⟨b, off, c, rfl, h3, h4, h5⟩⟩ := h
 ·exact ⟨hl, hn, hm, .inl h⟩
 ·refine ⟨hl, hn, hm, .inr ⟨_, rfl, fun j u hu => ?_⟩⟩
  rw [add_none, cell_of_row w b (off + j) c E (0, 0) h3]
  rw [← h5, List.getElem?_take] at hu
  split at hu
  ·rw [List.getElem?_drop] at hu; simpa using hu
  ·cases hu
theorem Rd.kept {w w' : World} {k : Nat} {a : Option Addr} {n cap : Nat} {cs : List Value} (h : Rd w k a n cap cs) (hk : ∀ b, own a = some b → b < w.heap.size → w'.heap[b]? = w.heap[b]?) : Rd w' k a n cap cs := by
 obtain ⟨hl, hn, hm, h | ⟨x, rfl, h3⟩⟩ := h
 ·exact ⟨hl, hn, hm, .inl h⟩
 ·refine ⟨hl, hn, hm, .inr ⟨x, rfl, fun j u hu => ?_⟩⟩
  have hc := h3 j u hu
  have hb : (x.add j).block = x.block := by unfold Addr.add; split <;> rfl
  have hlt := World.block_lt_of_cell? w _ hc
  rw [hb] at hlt
  rw [World.cell?_of_block (w := w) (by rw [hb]; exact hk x.block rfl hlt)]
  exact hc
theorem Sl.kept {w w' : World} {E k : Nat} {a : Option Addr} {n cap : Nat} {cs : List Value} (h : Sl w E k a n cap cs) (hk : ∀ b, own a = some b → b < w.heap.size → w'.heap[b]? = w.heap[b]?) : Sl w' E k a n cap cs := by
 obtain ⟨hl, hn, hm, h | ⟨b, off, c, rfl, h3, h4, h5⟩⟩ := h
 ·exact ⟨hl, hn, hm, .inl h⟩
 ·exact ⟨hl, hn, hm, .inr ⟨b, off, c, rfl, by rw [hk b rfl (heap_lt h3)]; exact h3, h4, h5⟩⟩
theorem Rd.mod {S : Nat → Prop} {w w' : World} {k : Nat} {a : Option Addr} {n cap : Nat} {cs : List Value} (h : Rd w k a n cap cs) (hm : Mod S w w') (hS : ∀ b, own a = some b → ¬ S b) : Rd w' k a n cap cs :=
 h.kept fun b hb hlt => hm.keep b hlt (hS b hb)
theorem Sl.mod {S : Nat → Prop} {w w' : World} {E k : Nat} {a : Option Addr} {n cap : Nat} {cs : List Value} (h : Sl w E k a n cap cs) (hm : Mod S w w') (hS : ∀ b, own a = some b → ¬ S b) : Sl w' E k a n cap cs :=
 h.kept fun b hb hlt => hm.keep b hlt (hS b hb)
theorem Sl.lt {w : World} {E k : Nat} {a : Option Addr} {n cap : Nat} {cs : List Value} (h : Sl w E k a n cap cs) : ∀ b, own a = some b → b < w.heap.size := by
 obtain ⟨_, _, _, ⟨rfl, _⟩ | ⟨b, off, c, rfl, h3, h4, h5⟩⟩ := h
 ·intro b hb; simp [own] at hb
 ·intro b' hb; simp [own] at hb; subst hb; exact heap_lt h3
theorem Sl.nil (w : World) (E k : Nat) : Sl w E k none 0 0 [] := ⟨by simp, Nat.le_refl _, Nat.zero_le _, .inl ⟨rfl, rfl⟩⟩
theorem Rd.nil (w : World) (k : Nat) : Rd w k none 0 0 [] := ⟨by simp, Nat.le_refl _, Nat.zero_le _, .inl ⟨rfl, rfl⟩⟩
theorem Sl.new {w : World} {E k b n : Nat} {c : Array Value} (h : w.heap[b]? = some (.cells c E (0, 0))) (hn : c.size = n * k) (hm : n ≤ maxLen) : Sl w E k (some ⟨b, 0, none⟩) n n c.toList :=
 ⟨by simpa using hn, Nat.le_refl _, hm, .inr ⟨b, 0, c, rfl, h, by omega, by rw [List.drop_zero, List.take_of_length_le (by simp [hn])]⟩⟩
theorem nextcap_le {need old : Nat} (h : old < need) : Builtin.nextslicecap need old ≤ need + need / 4 + 512 := by
 unfold Builtin.nextslicecap
 split
 ·omega
 ·split
  ·omega
  ·rw [growBy_four]
   repeat' split
   all_goals omega
theorem append_law {P : Program} (w : World) (t ty E : TypeId) (i : TypeInfo) (z : Value) (k bytes : Nat) (ht : P.underlying t = some (.slice E)) (hi : P.info? E = some i) (hz : i.zero = some z)
 (hsize : i.size = k) (hby : i.bytes = bytes) (hzs : z.cells.size = k)
 (a : Option Addr) (n cap : Nat) (cs : List Value) (hv : Sl w E k a n cap cs)
 (s : Option Addr) (m sc : Nat) (news : List Value) (hs : Rd w k s m sc news) (h1 : ∀ u ∈ news, u.oneCell' = true)
 (h63 : n + m ≤ maxLen) (hb : ((n + m) + (n + m) / 4 + 512) * bytes ≤ 281474976710656) :
 ∃ a' cap' w', (Builtin.append_ #[t, t] ty #[.slice a n cap, .slice s m sc]).run P w = .ok (.slice a' (n + m) cap') w' ∧ Sl w' E k a' (n + m) cap' (cs ++ news) ∧ Mod (fun b => own a = some b) w w' ∧
   (∀ b, own a' = some b → own a = some b ∨ (w.heap.size ≤ b ∧ b < w'.heap.size)) ∧ (a' = none ↔ a = none ∧ m = 0) ∧ (n + m ≤ cap → a' = a ∧ cap' = cap) := by
 subst hsize
 subst hby
 have hsmall : n + m ≤ 9223372036854775807 := by simp only [maxLen] at h63; omega
 have hlen : (cs ++ news).length = (n + m) * i.size := by rw [List.length_append, hv.1, hs.1, Nat.add_mul]
 have fits : ∀ old, old < n + m → Builtin.nextslicecap (n + m) old * i.bytes ≤ 281474976710656 := fun old ho =>
  Nat.le_trans (Nat.mul_le_mul_right _ (nextcap_le ho)) hb
 have grown : ∀ (old : Nat), old < n + m → ∀ S : Nat → Prop,
  Sl (w.drew.alloc (.cells (cs.toArray ++ news.toArray ++ Builtin.zeroCells z.cells (grownCap w (n + m) old E - (n + m))) E)) E i.size
   (some ⟨w.heap.size, 0, none⟩) (n + m) (grownCap w (n + m) old E) (cs ++ news) ∧
  Mod S w (w.drew.alloc (.cells (cs.toArray ++ news.toArray ++ Builtin.zeroCells z.cells (grownCap w (n + m) old E - (n + m))) E)) := by
  intro old ho S
  have hge := grownCap_ge w (n + m) old E
  have hcm : grownCap w (n + m) old E ≤ maxLen := grownCap_le_maxLen w (n + m) old E h63
  refine ⟨⟨hlen, hge, hcm, .inr ⟨w.heap.size, 0, _, rfl, heap_alloc_new w.drew _, ?_, ?_⟩⟩, ((Mod.refl S w).drew).alloc _⟩
  ·simp only [Array.size_append, List.size_toArray, size_zeroCells, hzs, hv.1, hs.1, ← Nat.add_mul, Nat.zero_add]
   apply Nat.mul_le_mul_right
   omega
  ·simp only [Array.toList_append, List.append_assoc, List.drop_zero]
   rw [← List.append_assoc, ← hlen]
   exact List.take_left
 obtain ⟨hsl, hsc, hscm, hs3⟩ := hs
 obtain ⟨hvl, hnc, hcm, hv3⟩ := id hv
 rcases hs3 with ⟨rfl, rfl⟩ | ⟨x, rfl, hcells⟩
 ·-- nothing is appended
  obtain rfl : m = 0 := by omega
  have hx : news = [] := List.eq_nil_of_length_eq_zero (by simpa using hsl)
  subst hx
  rcases hv3 with ⟨rfl, rfl⟩ | ⟨b, off, c, rfl, hg, hfit, htake⟩
  ·obtain rfl : n = 0 := by omega
   have hc : cs = [] := List.eq_nil_of_length_eq_zero (by simpa using hvl)
   subst hc
   refine ⟨none, 0, w, ?_, Sl.nil _ _ _, Mod.refl _ _, fun b hb => by simp [own] at hb, by simp, fun _ => ⟨rfl, rfl⟩⟩
   simp [Builtin.append_, run_underlying ht, sizeOf, typeInfo, hi, Builtin.lenOf, Builtin.firstCells]
  ·have e0 : n + 0 ≤ cap := by omega
   refine ⟨some ⟨b, off, none⟩, cap, w, ?_, by simpa using hv, Mod.refl _ _, fun b hb => .inl hb, by simp, fun _ => ⟨rfl, rfl⟩⟩
   simp [Builtin.append_, run_underlying ht, sizeOf, typeInfo, hi, Builtin.lenOf, Builtin.firstCells, hnc, storeCells]
 ·rcases hv3 with ⟨rfl, rfl⟩ | ⟨b, off, c, rfl, hg, hfit, htake⟩
  ·obtain rfl : n = 0 := by omega
   have hc : cs = [] := List.eq_nil_of_length_eq_zero (by simpa using hvl)
   subst hc
   by_cases hm : m = 0
   ·subst hm
    have hx : news = [] := List.eq_nil_of_length_eq_zero (by simpa using hsl)
    subst hx
    refine ⟨none, 0, w, ?_, Sl.nil _ _ _, Mod.refl _ _, fun b hb => by simp [own] at hb, by simp, fun _ => ⟨rfl, rfl⟩⟩
    simp [Builtin.append_, run_underlying ht, sizeOf, typeInfo, hi, Builtin.lenOf, Builtin.firstCells, loadCells, loadCellsFrom]
   ·have hr := run_append_nil (P := P) w t ty E i z ht hi hz x m sc news hsl hcells (by omega) (by omega) (by
     have := fits 0 (by omega); rw [Nat.zero_add, nextslicecap_zero (by omega)] at this; exact this)
    have hgr := grown 0 (by omega) (fun b => own none = some b)
    simp only [Nat.zero_add, List.nil_append, Array.empty_append] at hgr ⊢
    exact ⟨_, _, _, hr, hgr.1, hgr.2, fun b hb => by simp [own] at hb ⊢; omega, by simp [hm], fun h => by omega⟩
  ·by_cases hroom : n + m ≤ cap
   ·have hfit2 : off + n * i.size + news.length ≤ c.size := by
     have : (n + m) * i.size ≤ cap * i.size := Nat.mul_le_mul_right _ hroom
     rw [Nat.add_mul] at this; rw [hsl]; omega
    have hf := run_firstCells_some (P := P) w i.size m x m sc news hsl hcells
    have hst := run_storeCells_at P b (off + n * i.size) E news 0 c w hg (by simpa using hfit2) h1
    simp only [Nat.add_zero] at hst
    refine ⟨some ⟨b, off, none⟩, cap, w.setRow b (c.toList.take (off + n * i.size) ++ news ++ c.toList.drop (off + n * i.size + news.length)).toArray, ?_, ⟨hlen, hroom, hcm, .inr ⟨b, off, _, rfl, setRow_heap w b c _ E _ hg, ?_, ?_⟩⟩, (Mod.refl _ w).setRow _ _ (fun _ => rfl), fun b hb => .inl hb, by simp, fun _ => ⟨rfl, rfl⟩⟩
    ·simp [Builtin.append_, run_underlying ht, sizeOf, typeInfo, hi, Builtin.lenOf, hroom, hf, add_none, hst]
    ·simp only [List.size_toArray, List.length_append, List.length_take, List.length_drop, Array.length_toList]
     omega
    ·have e1 : c.toList.take (off + n * i.size) = c.toList.take off ++ cs := by
      rw [← htake]; exact List.take_add
     have e2 : (c.toList.take off).length = off := by rw [List.length_take, Array.length_toList]; omega
     show ((c.toList.take (off + n * i.size) ++ news ++ c.toList.drop (off + n * i.size + news.length)).drop off).take _ = _
     rw [e1, List.append_assoc, List.append_assoc, List.drop_append_of_le_length (by omega), List.drop_of_length_le (by omega), List.nil_append, ← List.append_assoc, ← hlen]
     exact List.take_left
   ·have holds : ∀ j u, cs[j]? = some u → w.cell? ((⟨b, off, none⟩ : Addr).add j) = some u := fun j u hu => by
     obtain ⟨_, _, _, ⟨he, _⟩ | ⟨a', he, hh⟩⟩ := hv.rd
     ·cases he
     ·injection he with he; subst he; exact hh j u hu
    have hr := run_append_grow (P := P) w t ty E i z ht hi hz ⟨b, off, none⟩ n cap cs hvl holds x m sc news hsl hcells (by omega) (by omega) (fits cap (by omega))
    have hgr := grown cap (by omega) (fun y => own (some ⟨b, off, none⟩) = some y)
    exact ⟨_, _, _, hr, hgr.1, hgr.2, fun b hb => by simp [own] at hb ⊢; omega, by simp, fun h => absurd h hroom⟩
section
variable {P : Program} {ops : Array Oper} {rest : List Oper} {dst : Option Tmp} {ty0 : TypeId} {pos : String} {after : Array Edge} {a : Act} {w : World} {Q : Exit → Act → World → Prop}
theorem at_list {l : List Oper} (h : wpList P ops Q l a w) : wpList P ops Q l a w := h
theorem wpList_append {xs xn : Operand} {t : TypeId} (E : TypeId) (i : TypeInfo) (z : Value) (k bytes : Nat) (ht : P.underlying t = some (.slice E)) (hi : P.info? E = some i) (hz : i.zero = some z)
 (hsize : i.size = k) (hby : i.bytes = bytes) (hzs : z.cells.size = k)
 (p : Option Addr) (n cap : Nat) (cs : List Value) (hx : a.eval xs = .slice p n cap) (hv : Sl w E k p n cap cs)
 (s : Option Addr) (m sc : Nat) (news : List Value) (hy : a.eval xn = .slice s m sc) (hs : Rd w k s m sc news) (h1 : ∀ u ∈ news, u.oneCell' = true)
 (h63 : n + m ≤ maxLen) (hb : ((n + m) + (n + m) / 4 + 512) * bytes ≤ 281474976710656)
 (h : ∀ p' cap' w', Sl w' E k p' (n + m) cap' (cs ++ news) → Mod (fun b => own p = some b) w w' → (∀ b, own p' = some b → own p = some b ∨ (w.heap.size ≤ b ∧ b < w'.heap.size)) → (p' = none ↔ p = none ∧ m = 0) → (n + m ≤ cap → p' = p ∧ cap' = cap) →
  wpList P ops Q rest (a.put dst (.slice p' (n + m) cap')) w') : wpList P ops Q (⟨dst, .call { callee := .builtin .append, args := #[xs, xn], argTypes := #[t, t] }, ty0, pos, after, none⟩ :: rest) a w :=
 wpList_plain rfl fun K hK => by
  obtain ⟨p', cap', w', hr, h2, h3, h4, h5, h6⟩ := append_law (P := P) w t ty0 E i z k bytes ht hi hz hsize hby hzs p n cap cs hv s m sc news hs h1 h63 hb
  unfold Oper.wp execOp
  simp only [resolve, invoke, builtin, Sem.run_bind, Sem.run_pure, Result.andThen_ok, List.map_toArray, List.map_cons, List.map_nil, hx, hy, hr]
  exact hK _ _ (h p' cap' w' h2 h3 h4 h5 h6)
end
theorem Sl.cut {w : World} {E k : Nat} {p : Option Addr} {n cap : Nat} {cs : List Value} (hv : Sl w E k p n cap cs) (l h m : Nat) (hlh : l ≤ h) (hh : h ≤ n) (hm : h ≤ m) (hmc : m ≤ cap) :
 Sl w E k (if m = l then p else p.map (·.add (l * k))) (h - l) (m - l) ((cs.drop (l * k)).take ((h - l) * k)) ∧ own (if m = l then p else p.map (·.add (l * k))) = own p := by
 obtain ⟨hvl, hnc, hcm, hv3⟩ := hv
 have hlen : ((cs.drop (l * k)).take ((h - l) * k)).length = (h - l) * k := by
  rw [List.length_take, List.length_drop, hvl, ← Nat.sub_mul]
  exact Nat.min_eq_left (Nat.mul_le_mul_right _ (by omega))
 rcases hv3 with ⟨rfl, rfl⟩ | ⟨b, off, c, rfl, hg, hfit, htake⟩
 ·exact ⟨⟨hlen, by omega, by omega, .inl ⟨by simp, by omega⟩⟩, by simp⟩
 ·have ha : ∀ j, (⟨b, off, none⟩ : Addr).add j = ⟨b, off + j, none⟩ := add_none b off
  by_cases hml : m = l
  ·have hz : h - l = 0 := by omega
   rw [if_pos hml]
   refine ⟨⟨hlen, by omega, by omega, .inr ⟨b, off, c, rfl, hg, ?_, ?_⟩⟩, rfl⟩
   ·rw [hml, Nat.sub_self, Nat.zero_mul]; omega
   ·rw [hz]; simp
  ·rw [if_neg hml]
   refine ⟨⟨hlen, by omega, by omega, .inr ⟨b, off + l * k, c, by simp [ha], hg, ?_, ?_⟩⟩, by simp [own, ha]⟩
   ·have : l * k + (m - l) * k ≤ cap * k := by rw [← Nat.add_mul]; exact Nat.mul_le_mul_right _ (by omega)
    omega
   ·rw [← htake, List.drop_take, List.drop_drop, List.take_take]
    congr 1
    rw [Nat.min_eq_left]
    rw [← Nat.sub_mul]
    exact Nat.mul_le_mul_right _ (by omega)
theorem Rd.cut {w : World} {k : Nat} {p : Option Addr} {n cap : Nat} {cs : List Value} (hv : Rd w k p n cap cs) (l h m : Nat) (hlh : l ≤ h) (hh : h ≤ n) (hm : h ≤ m) (hmc : m ≤ cap) :
 Rd w k (if m = l then p else p.map (·.add (l * k))) (h - l) (m - l) ((cs.drop (l * k)).take ((h - l) * k)) ∧ own (if m = l then p else p.map (·.add (l * k))) = own p := by
 obtain ⟨hvl, hnc, hcm, hv3⟩ := hv
 have hlen : ((cs.drop (l * k)).take ((h - l) * k)).length = (h - l) * k := by
  rw [List.length_take, List.length_drop, hvl, ← Nat.sub_mul]
  exact Nat.min_eq_left (Nat.mul_le_mul_right _ (by omega))
 have hblk : ∀ (x : Addr) j, (x.add j).block = x.block := fun x j => by unfold Addr.add; split <;> rfl
 rcases hv3 with ⟨rfl, rfl⟩ | ⟨x, rfl, hc⟩
 ·exact ⟨⟨hlen, by omega, by omega, .inl ⟨by simp, by omega⟩⟩, by simp⟩
 ·by_cases hml : m = l
  ·rw [if_pos hml]
   have hz : h - l = 0 := by omega
   refine ⟨⟨hlen, by omega, by omega, .inr ⟨x, rfl, ?_⟩⟩, rfl⟩
   rw [hz]; simp
  ·rw [if_neg hml]
   refine ⟨⟨hlen, by omega, by omega, .inr ⟨x.add (l * k), rfl, fun j u hu => ?_⟩⟩, by simp [own, hblk]⟩
   rw [List.getElem?_take] at hu
   split at hu
   ·rw [List.getElem?_drop] at hu
    have e : (x.add (l * k)).add j = x.add (l * k + j) := by
     unfold Addr.add
     by_cases h1 : l * k = 0 <;> by_cases h2 : j = 0 <;> simp [h1, h2, Nat.add_assoc]
    rw [e]; exact hc _ _ hu
   ·cases hu
theorem Rd.drew {w : World} {k : Nat} {p : Option Addr} {n cap : Nat} {cs : List Value} (h : Rd w k p n cap cs) : Rd w.drew k p n cap cs := h
section
variable {P : Program} (w : World) (t E k : Nat) (ht : P.underlying t = some (.slice E)) (hk : P.cellsOf E = k) (hi : (P.info? E).isSome = true) (p : Option Addr) (n cap : Nat)
include ht hk hi
theorem run_sizeOf_cells : (sizeOf E).run P w = .ok k w := by
 obtain ⟨i, hi'⟩ := Option.isSome_iff_exists.1 hi
 have : i.size = k := by rw [← hk]; simp [Program.cellsOf, hi']
 simp [sizeOf, typeInfo, hi', this]
theorem run_cut (lo hi' mx : Option Value) (l h m : Nat) (hb : (Instr.sliceBounds true n cap lo hi' mx).run P w = .ok (l, h, m) w) :
 (Instr.sliceAt t (.slice p n cap) lo hi' mx).run P w = .ok (.slice (if m = l then p else p.map (·.add (l * k))) (h - l) (m - l)) w := by
 have hs := run_sizeOf_cells w t E k ht hk hi
 simp [Instr.sliceAt, Instr.slice, run_underlying ht, hb, hs]
end
section
variable {P : Program} {ops : Array Oper} {rest : List Oper} {dst : Option Tmp} {ty0 : TypeId} {pos : String} {after : Array Edge} {a : Act} {w : World} {Q : Exit → Act → World → Prop}
theorem bounds_l (w : World) (n cap : Nat) (l : Int) (h0 : 0 ≤ l) (h1 : l ≤ n) : (Instr.sliceBounds true n cap (some (.int .i64 l)) none none).run P w = .ok (l.toNat, n, cap) w := by
 simp [Instr.sliceBounds, run_sliceBound, h0, h1]
theorem bounds_h (w : World) (n cap : Nat) (h : Int) (h0 : 0 ≤ h) (h1 : h ≤ cap) : (Instr.sliceBounds true n cap none (some (.int .i64 h)) none).run P w = .ok (0, h.toNat, cap) w := by
 simp [Instr.sliceBounds, run_sliceBound, h0, h1]
theorem bounds_lh (w : World) (n cap : Nat) (l h : Int) (h0 : 0 ≤ l) (h1 : l ≤ h) (h2 : h ≤ cap) : (Instr.sliceBounds true n cap (some (.int .i64 l)) (some (.int .i64 h)) none).run P w = .ok (l.toNat, h.toNat, cap) w := by
 have eh : (h.toNat : Int) = h := Int.toNat_of_nonneg (by omega)
 simp [Instr.sliceBounds, run_sliceBound, h0, h1, h2, eh, (by omega : 0 ≤ h)]
theorem bounds_hm (w : World) (n cap : Nat) (h m : Int) (h0 : 0 ≤ h) (h1 : h ≤ m) (h2 : m ≤ cap) : (Instr.sliceBounds true n cap none (some (.int .i64 h)) (some (.int .i64 m))).run P w = .ok (0, h.toNat, m.toNat) w := by
 have eh : (m.toNat : Int) = m := Int.toNat_of_nonneg (by omega)
 simp [Instr.sliceBounds, run_sliceBound, h0, h1, h2, eh, (by omega : 0 ≤ m)]
theorem wpList_cutR {t : TypeId} {x : Operand} {lo hi mx : Option Operand} (E k : Nat) (ht : P.underlying t = some (.slice E)) (hk : P.cellsOf E = k) (hinf : (P.info? E).isSome = true)
 (p : Option Addr) (n cap : Nat) (cs : List Value) (hx : a.eval x = .slice p n cap) (hv : Rd w k p n cap cs)
 (lv hv' mv : Option Value) (hlo : lo.map a.eval = lv) (hhi : hi.map a.eval = hv') (hmx : mx.map a.eval = mv)
 (l h m : Nat) (hb : (Instr.sliceBounds true n cap lv hv' mv).run P w = .ok (l, h, m) w) (hlh : l ≤ h) (hh : h ≤ n) (hm : h ≤ m) (hmc : m ≤ cap)
 (hn : ∀ p', Rd w k p' (h - l) (m - l) ((cs.drop (l * k)).take ((h - l) * k)) → own p' = own p → wpList P ops Q rest (a.put dst (.slice p' (h - l) (m - l))) w) : wpList P ops Q (⟨dst, .slice t x lo hi mx, ty0, pos, after, none⟩ :: rest) a w :=
 wpList_plain rfl fun K hK => by
  have hr := run_cut (P := P) w t E k ht hk hinf p n cap lv hv' mv l h m hb
  obtain ⟨h1, h2⟩ := hv.cut l h m hlh hh hm hmc
  unfold Oper.wp execOp
  simp only [hlo, hhi, hmx, hx, Sem.run_bind, Sem.run_pure, hr, Result.andThen_ok]
  exact hK _ _ (hn _ h1 h2)
end
def splice (c : List Value) (o : Nat) (cs : List Value) : List Value := c.take o ++ cs ++ c.drop (o + cs.length)
theorem splice_length {c : List Value} {o : Nat} {cs : List Value} (h : o + cs.length ≤ c.length) : (splice c o cs).length = c.length := by
 simp only [splice, List.length_append, List.length_take, List.length_drop]; omega
theorem run_loadAt_chunk {P : Program} (w : World) (ty k : Nat) (d : TypeDesc) (hu : P.underlying ty = some d) (hd : (match d with | .struct _ | .array _ _ => true | _ => false) = true) (hi : (P.info? ty).map (·.size) = some k)
 (ad : Addr) (cs : List Value) (hl : cs.length = k) (hc : ∀ j u, cs[j]? = some u → w.cell? (ad.add j) = some u) :
 (Instr.loadAt ty (.pointer (some ad))).run P w = .ok (.agg cs.toArray) w := by
 obtain ⟨i, hi1, hi2⟩ := Option.map_eq_some_iff.1 hi
 have hld := run_loadCells_list (P := P) w ad cs hc
 rw [hl] at hld
 have hagg : (isAgg ty).run P w = .ok true w := by
  cases d <;> simp at hd <;> simp [isAgg, run_underlying hu]
 simp [Instr.loadAt, loadVar, hagg, sizeOf, typeInfo, hi1, hi2, hld, Instr.sureAddr]
theorem run_storeAt_chunk {P : Program} (w : World) (ty k : Nat) (hi : (P.info? ty).map (·.size) = some k)
 (b o : Nat) (c : Array Value) (E : TypeId) (hg : w.heap[b]? = some (.cells c E (0, 0))) (cs : List Value) (hl : cs.length = k) (hfit : o + k ≤ c.size) (h1 : ∀ u ∈ cs, u.oneCell' = true) :
 (Instr.storeAt ty (.pointer (some ⟨b, o, none⟩)) (.agg cs.toArray)).run P w = .ok () (w.setRow b (splice c.toList o cs).toArray) := by
 obtain ⟨i, hi1, hi2⟩ := Option.map_eq_some_iff.1 hi
 subst hl
 have hst := run_storeCells_at P b o E cs 0 c w hg (by simpa using hfit) h1
 simp only [Nat.add_zero] at hst
 simp [Instr.storeAt, storeVar, sizeOf, typeInfo, hi1, hi2, Instr.sureAddr, Value.cells, hst, splice]
section
variable {P : Program} {ops : Array Oper} {rest : List Oper} {dst : Option Tmp} {ty0 : TypeId} {pos : String} {after : Array Edge} {a : Act} {w : World} {Q : Exit → Act → World → Prop}
theorem wpList_load_chunk {ty : TypeId} {x : Operand} (k : Nat) (d : TypeDesc) (hu : P.underlying ty = some d) (hd : (match d with | .struct _ | .array _ _ => true | _ => false) = true) (hi : (P.info? ty).map (·.size) = some k)
 (ad : Addr) (hx : a.eval x = .pointer (some ad)) (cs : List Value) (hl : cs.length = k) (hc : ∀ j u, cs[j]? = some u → w.cell? (ad.add j) = some u)
 (h : wpList P ops Q rest (a.put dst (.agg cs.toArray)) w) : wpList P ops Q (⟨dst, .load ty x, ty0, pos, after, none⟩ :: rest) a w :=
 wpList_plain rfl fun K hK => by
  have hr := run_loadAt_chunk (P := P) w ty k d hu hd hi ad cs hl hc
  unfold Oper.wp execOp
  simp only [hx, Sem.run_bind, Sem.run_pure, hr, Result.andThen_ok]
  exact hK _ _ h
theorem wpList_store_chunk {ty : TypeId} {x y : Operand} (k : Nat) (hi : (P.info? ty).map (·.size) = some k)
 (b off : Nat) (hx : a.eval x = .pointer (some ⟨b, off, none⟩)) (c : Array Value) (E : TypeId) (hg : w.heap[b]? = some (.cells c E (0, 0)))
 (v : Value) (hy : a.eval y = v) (cs : List Value) (hv : v = .agg cs.toArray) (hl : cs.length = k) (hfit : off + k ≤ c.size) (h1 : ∀ u ∈ cs, u.oneCell' = true)
 (h : ∀ w', w'.heap[b]? = some (.cells (splice c.toList off cs).toArray E (0, 0)) → Mod (fun x => x = b) w w' → w'.heap.size = w.heap.size → wpList P ops Q rest a w') : wpList P ops Q (⟨none, .store ty x y, ty0, pos, after, none⟩ :: rest) a w :=
 wpList_plain rfl fun K hK => by
  have hr := run_storeAt_chunk (P := P) w ty k hi b off c E hg cs hl hfit h1
  subst hv
  unfold Oper.wp execOp
  simp only [hx, hy, Sem.run_bind, Sem.run_pure, hr, Result.andThen_ok]
  exact hK _ _ (h _ (setRow_heap w b c _ E _ hg) ((Mod.refl _ w).setRow _ _ (fun _ => rfl)) (size_setRow _ _ _))
theorem wpList_store_whole {ty : TypeId} {x y : Operand} (k : Nat) (hi : (P.info? ty).map (·.size) = some k)
 (b : Nat) (hx : a.eval x = .pointer (some ⟨b, 0, none⟩)) (c : Array Value) (E : TypeId) (hg : w.heap[b]? = some (.cells c E (0, 0))) (hk : c.size = k)
 (cs : List Value) (hy : a.eval y = .agg cs.toArray) (hl : cs.length = k) (h1 : cs.all (·.oneCell') = true)
 (h : ∀ w', w'.heap[b]? = some (.cells cs.toArray E (0, 0)) → Mod (fun x => x = b) w w' → w'.heap.size = w.heap.size → wpList P ops Q rest a w') : wpList P ops Q (⟨none, .store ty x y, ty0, pos, after, none⟩ :: rest) a w :=
 wpList_store_chunk k hi b 0 hx c E hg _ hy cs rfl hl (by omega) (fun u hu => List.all_eq_true.1 h1 u hu) fun w' h2 h3 h4 => h w' (by
  have e : splice c.toList 0 cs = cs := by
   simp only [splice, List.take_zero, List.nil_append, Nat.zero_add]
   rw [List.drop_of_length_le (by simp; omega), List.append_nil]
  rw [e] at h2; exact h2) h3 h4
end
theorem results_cell_tmp {P : Program} {fn : Func} {p t : Tmp} {ty : TypeId} (h : fn.results = #[.cell p ty, .tmp t]) (tmps : Array Value) (w : World) (g : Nat) (T : TypeId) (cs : Array Value) (fr : Nat × Nat) (d : TypeDesc)
 (hp : tmps.getD p undef = .pointer (some ⟨g, 0, none⟩)) (hg : w.heap[g]? = some (.cells cs T fr))
 (hu : P.underlying ty = some d) (hd : (match d with | .struct _ | .array _ _ => true | _ => false) = true) (hi : (P.info? ty).map (·.size) = some cs.size) :
 (results fn tmps).run P w = .ok (.tuple #[.agg cs, tmps.getD t undef]) w := by
 have hp' : tmps[p]?.getD undef = .pointer (some ⟨g, 0, none⟩) := by simpa using hp
 simp [results, h, hp', asAddr, run_loadVar_row w g T ty cs fr d hg hu hd hi]
end Go.Proofs.YtonnbkebjeoflaaGreatDoor
namespace Go.Proofs.YtonnbkebjeoflaaGreatDoor.W
open Go.RowKit
theorem xor_ones (x : Nat) (h : x < 2 ^ 64) : x ^^^ (2 ^ 64 - 1) = 2 ^ 64 - (x + 1) := by
 apply Nat.eq_of_testBit_eq
 intro i
 rw [Nat.testBit_xor, Nat.testBit_two_pow_sub_succ h, Nat.testBit_two_pow_sub_one]
 by_cases hi : i < 64
 ·simp [hi]
 ·have hb : x.testBit i = false := Nat.testBit_lt_two_pow (Nat.lt_of_lt_of_le h (Nat.pow_le_pow_right (by omega) (by omega)))
  simp [hi, hb]
def zig (n : Int) : Nat := if 0 ≤ n then (2 * n).toNat else (-2 * n - 1).toNat
theorem zig_eq (n : Int) (h0 : -9223372036854775808 ≤ n) (h1 : n ≤ 9223372036854775807) :
 bits .xor .u64 (IntKind.u64.wrap (IntKind.u64.wrap n * 2)) (IntKind.u64.wrap (n / 9223372036854775808)) = (zig n : Int) := by
 simp only [IntKind.wrap_u64]
 by_cases hn : 0 ≤ n
 ·have e1 : n % 18446744073709551616 * 2 % 18446744073709551616 = ((2 * n).toNat : Int) := by omega
  have e2 : n / 9223372036854775808 % 18446744073709551616 = ((0 : Nat) : Int) := by omega
  rw [e1, e2, u64_xor_nat _ _ (by omega) (by omega), Nat.xor_zero, zig, if_pos hn]
 ·have e1 : n % 18446744073709551616 * 2 % 18446744073709551616 = ((18446744073709551616 + 2 * n).toNat : Int) := by omega
  have e2 : n / 9223372036854775808 % 18446744073709551616 = ((18446744073709551615 : Nat) : Int) := by omega
  have hx := xor_ones (18446744073709551616 + 2 * n).toNat (by omega)
  rw [e1, e2, u64_xor_nat _ _ (by omega) (by omega)]
  rw [show (18446744073709551615 : Nat) = 2 ^ 64 - 1 from rfl, hx, zig, if_neg hn]
  omega
theorem zig_lt (n : Int) (h0 : -9223372036854775808 ≤ n) (h1 : n ≤ 9223372036854775807) : zig n < 18446744073709551616 := by
 unfold zig; split <;> omega
theorem seven_step (u k c : Nat) (hu : u < 128 ^ k) (hk : k ≤ 9) (hc : c < 256) (h9 : k = 9 → c ≤ 1) :
 bits .or .u64 (u : Int) (IntKind.u64.wrap (IntKind.u64.wrap (bits .and .u8 (c : Int) 127) * 2 ^ (7 * k))) = ((u + c % 128 * 128 ^ k : Nat) : Int) := by
 have e0 : (128 : Nat) ^ k = 2 ^ (7 * k) := by rw [Nat.pow_mul]
 have e1 : bits .and .u8 (c : Int) 127 = ((c % 128 : Nat) : Int) := by
  rw [show (127 : Int) = ((127 : Nat) : Int) from rfl, u8_and_nat c 127 hc (by omega), nat_mask7]
 have e2 : ((c % 128 : Nat) : Int) % 18446744073709551616 = ((c % 128 : Nat) : Int) := by omega
 have hlt : c % 128 * 128 ^ k < 18446744073709551616 := by
  rcases Nat.lt_or_ge k 9 with h | h
  ·have h3 : (128 : Nat) ^ k ≤ 128 ^ 8 := Nat.pow_le_pow_right (by omega) (by omega)
   have h4 : c % 128 * 128 ^ k ≤ 127 * 128 ^ 8 := Nat.mul_le_mul (by omega) h3
   have h5 : 127 * (128 : Nat) ^ 8 < 18446744073709551616 := by decide
   omega
  ·obtain rfl : k = 9 := by omega
   have h1 := h9 rfl
   have h2 : c % 128 ≤ 1 := by omega
   exact Nat.lt_of_le_of_lt (Nat.mul_le_mul_right (128 ^ 9) h2) (by decide)
 have hul : u < 18446744073709551616 := by
  have h3 : (128 : Nat) ^ k ≤ 128 ^ 9 := Nat.pow_le_pow_right (by omega) hk
  exact Nat.lt_of_lt_of_le hu (Nat.le_trans h3 (by decide))
 have e3 : (((c % 128 : Nat) : Int) * 2 ^ (7 * k)) = ((c % 128 * 128 ^ k : Nat) : Int) := by
  rw [e0, Int.natCast_mul, Int.natCast_pow]; rfl
 simp only [IntKind.wrap_u64, e1, e2, e3]
 rw [show ((c % 128 * 128 ^ k : Nat) : Int) % 18446744073709551616 = ((c % 128 * 128 ^ k : Nat) : Int) by omega]
 rw [u64_or_nat _ _ hul hlt, Nat.or_comm, nat_join (7 * k) _ _ (by rw [← e0]; exact Nat.mul_mod_left _ _) (by rw [← e0]; exact hu), Nat.add_comm]
end Go.Proofs.YtonnbkebjeoflaaGreatDoor.W
