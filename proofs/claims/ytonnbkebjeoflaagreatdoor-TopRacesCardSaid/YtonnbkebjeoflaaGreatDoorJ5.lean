/-
  Contracts and plain laws of St, Read, Flat, WireA, WireB, WireC.
  Conditions: each law states its own.
-/
import Derived.ChangeOld
import Derived.Deep.Slices
import Derived.SizedLaws
import Derived.Deep.RegionHeld3
import Derived.Deep.LoopGhost
import Derived.Test.YtonnbkebjeoflaaGreatDoorJ2
import Derived.Test.YtonnbkebjeoflaaGreatDoorJ4
set_option linter.unusedSectionVars false
set_option linter.unusedSimpArgs false
set_option linter.unusedVariables false
set_option maxRecDepth 100000
namespace Go.Proofs.YtonnbkebjeoflaaGreatDoor
open Go.RowKit
structure Thing where
 lies : World → (Nat → Prop) → Prop
 keep : ∀ {w w' : World} {F : Nat → Prop}, lies w F → w.heap.size ≤ w'.heap.size → (∀ x, x < w.heap.size → F x → w'.heap[x]? = w.heap[x]?) → lies w' F
 below : ∀ {w : World} {F : Nat → Prop}, lies w F → ∀ x, F x → x < w.heap.size
theorem Thing.mod (t : Thing) {w w' : World} {F S : Nat → Prop} (h : t.lies w F) (hm : Mod S w w') (hd : ∀ x, F x → ¬ S x) : t.lies w' F :=
 t.keep h hm.size fun x hx hF => hm.keep x hx (hd x hF)
def bx (pb : Nat) (c : Array Value) (t : TypeId) : Thing where
 lies w F := w.heap[pb]? = some (.cells c t (0, 0)) ∧ ∀ x, F x ↔ x = pb
 keep := fun ⟨h, hF⟩ _ hk => ⟨by rw [hk pb (heap_lt h) ((hF _).2 rfl)]; exact h, hF⟩
 below := fun ⟨h, hF⟩ x hx => by rw [(hF x).1 hx]; exact heap_lt h
def sl (E k : Nat) (a : Option Addr) (n cap : Nat) (cs : List Value) : Thing where
 lies w F := Sl w E k a n cap cs ∧ ∀ x, F x ↔ own a = some x
 keep := fun ⟨h, hF⟩ _ hk => ⟨h.kept fun b hb hlt => hk b hlt ((hF _).2 hb), hF⟩
 below := fun ⟨h, hF⟩ x hx => h.lt x ((hF x).1 hx)
def no : Thing where
 lies _ F := ∀ x, ¬ F x
 keep := fun h _ _ => h
 below := fun h x hx => absurd hx (h x)
def Side (w : World) : List Thing → (Nat → Prop) → Prop
 | [], F => ∀ x, ¬ F x
 | t :: l, F => ∃ F1 F2, t.lies w F1 ∧ Side w l F2 ∧ (∀ x, F1 x → ¬ F2 x) ∧ ∀ x, F x ↔ F1 x ∨ F2 x
theorem Side.mod {w w' : World} {S : Nat → Prop} (hm : Mod S w w') : ∀ {l : List Thing} {F : Nat → Prop}, Side w l F → (∀ x, F x → ¬ S x) → Side w' l F
 | [], _, h, _ => h
 | t :: _, F, ⟨F1, F2, h1, h2, hd, hF⟩, hS =>
   ⟨F1, F2, t.mod h1 hm (fun x hx => hS x ((hF x).2 (.inl hx))), Side.mod hm h2 (fun x hx => hS x ((hF x).2 (.inr hx))), hd, hF⟩
theorem Side.lt {w : World} : ∀ {l : List Thing} {F : Nat → Prop}, Side w l F → ∀ x, F x → x < w.heap.size
 | [], _, h, x, hx => absurd hx (h x)
 | t :: _, F, ⟨F1, F2, h1, h2, hd, hF⟩, x, hx => ((hF x).1 hx).elim (t.below h1 x) (Side.lt h2 x)
theorem Side.at {w : World} : ∀ {l : List Thing} {F : Nat → Prop} (i : Nat) {t : Thing}, Side w l F → l[i]? = some t →
 ∃ F1, t.lies w F1 ∧ (∀ x, F1 x → F x) ∧ ∀ (w' : World) (t' : Thing) (F' : Nat → Prop), Mod F1 w w' → t'.lies w' F' → (∀ x, F' x → F1 x ∨ w.heap.size ≤ x) → ∃ G, Side w' (l.set i t') G ∧ ∀ x, G x → F x ∨ w.heap.size ≤ x
 | [], _, i, t, _, hi => by simp at hi
 | s :: l, F, 0, t, ⟨F1, F2, h1, h2, hd, hF⟩, hi => by
   simp only [List.getElem?_cons_zero, Option.some.injEq] at hi
   subst hi
   refine ⟨F1, h1, fun x hx => (hF x).2 (.inl hx), fun w' t' F' hm ht hF' => ⟨fun x => F' x ∨ F2 x, ⟨F', F2, ht, Side.mod hm h2 (fun x hx h => hd x h hx), fun x hx h => ?_, fun _ => Iff.rfl⟩, fun x hx => ?_⟩⟩
   ·rcases hF' x hx with h' | h'
    ·exact hd x h' h
    ·have := Side.lt h2 x h; omega
   ·rcases hx with hx | hx
    ·exact (hF' x hx).imp (fun h => (hF x).2 (.inl h)) id
    ·exact .inl ((hF x).2 (.inr hx))
 | s :: l, F, i + 1, t, ⟨F1, F2, h1, h2, hd, hF⟩, hi => by
   obtain ⟨G1, hl, hG, hk⟩ := Side.at i h2 (by simpa using hi)
   refine ⟨G1, hl, fun x hx => (hF x).2 (.inr (hG x hx)), fun w' t' F' hm ht hF' => ?_⟩
   obtain ⟨G, hs, hg⟩ := hk w' t' F' hm ht hF'
   refine ⟨fun x => F1 x ∨ G x, ⟨F1, G, s.mod h1 hm (fun x hx h => hd x hx (hG x h)), hs, fun x hx h => ?_, fun _ => Iff.rfl⟩, fun x hx => ?_⟩
   ·rcases hg x h with h' | h'
    ·exact hd x hx h'
    ·have := s.below h1 x hx; omega
   ·rcases hx with hx | hx
    ·exact .inl ((hF x).2 (.inl hx))
    ·exact (hg x hx).imp (fun h => (hF x).2 (.inr h)) id
theorem Side.append {w : World} : ∀ {l : List Thing} {F G : Nat → Prop} {t : Thing}, Side w l F → t.lies w G → (∀ x, F x → ¬ G x) → ∃ H, Side w (l ++ [t]) H ∧ ∀ x, H x ↔ F x ∨ G x
 | [], F, G, t, h, ht, hd => by
   have h0 : ∀ x, ¬ F x := h
   refine ⟨fun x => G x ∨ False, ⟨G, fun _ => False, ht, fun _ h => h, fun _ _ h => h, fun _ => Iff.rfl⟩, fun x => ?_⟩
   show G x ∨ False ↔ F x ∨ G x
   simp [h0 x]
 | s :: l, F, G, t, ⟨F1, F2, h1, h2, hd2, hF⟩, ht, hd => by
   obtain ⟨H, hs, hH⟩ := Side.append h2 ht (fun x hx => hd x ((hF x).2 (.inr hx)))
   refine ⟨fun x => F1 x ∨ H x, ⟨F1, H, h1, hs, fun x hx h => ?_, fun _ => Iff.rfl⟩, fun x => ?_⟩
   ·rcases (hH x).1 h with h' | h'
    ·exact hd2 x hx h'
    ·exact hd x ((hF x).2 (.inl hx)) h'
   ·show F1 x ∨ H x ↔ F x ∨ G x
    rw [hH, hF, or_assoc]
def St (w0 w : World) (l : List Thing) : Prop := Mod (fun _ => False) w0 w ∧ ∃ F, Side w l F ∧ ∀ x, F x → w0.heap.size ≤ x
theorem St.start (w : World) : St w w [] := ⟨Mod.refl _ _, fun _ => False, fun _ h => h, fun _ h => h.elim⟩
theorem St.mod {w0 w w' : World} {l : List Thing} (h : St w0 w l) (hm : Mod (fun _ => False) w w') : St w0 w' l := by
 obtain ⟨h0, F, hs, hz⟩ := h
 exact ⟨h0.trans hm (fun _ _ h => h) (fun _ _ h => h), F, Side.mod hm hs (fun _ _ h => h), hz⟩
theorem St.drew {w0 w : World} {l : List Thing} (h : St w0 w l) : St w0 w.drew l := h.mod ((Mod.refl _ w).drew)
theorem St.drewN {w0 w : World} {l : List Thing} (h : St w0 w l) (n : Nat) : St w0 (w.drewN n) l := h.mod ((Mod.refl _ w).drewN n)
theorem St.begin {w0 w : World} (h : Mod (fun _ => False) w0 w) : St w0 w [] := (St.start w0).mod h
theorem St.at {w0 w : World} {l : List Thing} (h : St w0 w l) (i : Nat) {t : Thing} (hi : l[i]? = some t) :
 ∃ F1, t.lies w F1 ∧ (∀ x, F1 x → w0.heap.size ≤ x) ∧ ∀ (w' : World) (t' : Thing) (F' : Nat → Prop), Mod F1 w w' → t'.lies w' F' → (∀ x, F' x → F1 x ∨ w.heap.size ≤ x) → St w0 w' (l.set i t') := by
 obtain ⟨h0, F, hs, hz⟩ := h
 obtain ⟨F1, hl, hF, hk⟩ := Side.at i hs hi
 refine ⟨F1, hl, fun x hx => hz x (hF x hx), fun w' t' F' hm ht hF' => ?_⟩
 obtain ⟨G, hs', hg⟩ := hk w' t' F' hm ht hF'
 refine ⟨h0.then hm (fun x hx hf => by have := hz x (hF x hf); omega), G, hs', fun x hx => ?_⟩
 rcases hg x hx with h | h
 ·exact hz x h
 ·exact Nat.le_trans h0.size h
theorem St.push {w0 w w' : World} {l : List Thing} (h : St w0 w l) {t : Thing} {F : Nat → Prop} (hm : Mod (fun _ => False) w w') (ht : t.lies w' F) (hF : ∀ x, F x → w.heap.size ≤ x) : St w0 w' (l ++ [t]) := by
 obtain ⟨h0, G, hs, hz⟩ := h
 obtain ⟨H, hs', hH⟩ := Side.append (Side.mod hm hs (fun _ _ h => h)) ht (fun x hx hf => by have := Side.lt hs x hx; have := hF x hf; omega)
 refine ⟨h0.trans hm (fun _ _ h => h) (fun _ _ h => h), H, hs', fun x hx => ?_⟩
 rcases (hH x).1 hx with h | h
 ·exact hz x h
 ·exact Nat.le_trans h0.size (hF x h)
theorem St.alloc {w0 w : World} {l : List Thing} (h : St w0 w l) (c : Array Value) (t : TypeId) : St w0 (w.alloc (.cells c t)) (l ++ [bx w.heap.size c t]) :=
 h.push (F := fun x => x = w.heap.size) ((Mod.refl _ w).alloc _) ⟨heap_alloc_new w _, fun _ => Iff.rfl⟩ (fun x hx => by rw [hx]; exact Nat.le_refl _)
theorem Side.perm {w : World} {l l' : List Thing} (hp : l.Perm l') : ∀ {F : Nat → Prop}, Side w l F → Side w l' F := by
 induction hp with
 | nil => exact fun h => h
 | cons t _ ih =>
   rintro F ⟨F1, F2, h1, h2, hd, hF⟩
   exact ⟨F1, F2, h1, ih h2, hd, hF⟩
 | swap s t l =>
   rintro F ⟨F1, F2, h1, ⟨G1, G2, g1, g2, gd, gF⟩, hd, hF⟩
   refine ⟨G1, fun x => F1 x ∨ G2 x, g1, ⟨F1, G2, h1, g2, fun x h g => hd x h ((gF x).2 (.inr g)), fun x => Iff.rfl⟩, fun x g h => ?_, fun x => ?_⟩
   ·rcases h with h | h
    ·exact hd x h ((gF x).2 (.inl g))
    ·exact gd x g h
   ·rw [hF, gF]
    constructor
    ·rintro (h | h | h)
     ·exact .inr (.inl h)
     ·exact .inl h
     ·exact .inr (.inr h)
    ·rintro (h | h | h)
     ·exact .inr (.inl h)
     ·exact .inl h
     ·exact .inr (.inr h)
 | trans _ _ ih1 ih2 => exact fun h => ih2 (ih1 h)
theorem St.perm {w0 w : World} {l l' : List Thing} (h : St w0 w l) (hp : l.Perm l') : St w0 w l' := ⟨h.1, h.2.choose, Side.perm hp h.2.choose_spec.1, h.2.choose_spec.2⟩
theorem St.cons {w0 w w' : World} {l : List Thing} (h : St w0 w l) {t : Thing} {F : Nat → Prop} (hm : Mod (fun _ => False) w w') (ht : t.lies w' F) (hF : ∀ x, F x → w.heap.size ≤ x) : St w0 w' (t :: l) :=
 (h.push hm ht hF).perm (List.perm_append_comm (l₁ := l) (l₂ := [t]))
theorem St.box1 {w0 w : World} {l : List Thing} (h : St w0 w l) (c : Array Value) (t : TypeId) : St w0 (w.alloc (.cells c t)) (bx w.heap.size c t :: l) :=
 (h.alloc c t).perm (List.perm_append_comm (l₁ := l) (l₂ := [_]))
theorem St.tail {w0 w : World} {t : Thing} {l : List Thing} (h : St w0 w (t :: l)) : St w0 w l := by
 obtain ⟨h0, F, ⟨F1, F2, h1, h2, hd, hF⟩, hz⟩ := h
 exact ⟨h0, F2, h2, fun x hx => hz x ((hF x).2 (.inr hx))⟩
theorem St.box {w0 w : World} {l : List Thing} (h : St w0 w l) (i : Nat) {pb : Nat} {c : Array Value} {t : TypeId} (hi : l[i]? = some (bx pb c t)) : w.heap[pb]? = some (.cells c t (0, 0)) := by
 obtain ⟨F1, hl, _⟩ := h.at i hi
 exact hl.1
theorem St.slice {w0 w : World} {l : List Thing} (h : St w0 w l) (i : Nat) {E k : Nat} {a : Option Addr} {n cap : Nat} {cs : List Value} (hi : l[i]? = some (sl E k a n cap cs)) : Sl w E k a n cap cs := by
 obtain ⟨F1, hl, _⟩ := h.at i hi
 exact hl.1
theorem St.rebox {w0 w w' : World} {l : List Thing} (h : St w0 w l) (i : Nat) {pb : Nat} {c c' : Array Value} {t : TypeId} (hi : l[i]? = some (bx pb c t)) (hw : w'.heap[pb]? = some (.cells c' t (0, 0))) (hm : Mod (fun b => b = pb) w w') : St w0 w' (l.set i (bx pb c' t)) := by
 obtain ⟨F1, ⟨hh, hF⟩, hz, hk⟩ := h.at i hi
 exact hk w' (bx pb c' t) F1 (hm.mono (fun x _ hx => (hF x).2 hx)) ⟨hw, hF⟩ (fun x hx => .inl hx)
theorem St.set {w0 w : World} {l : List Thing} (h : St w0 w l) (i : Nat) {pb : Nat} {c : Array Value} {t : TypeId} (hi : l[i]? = some (bx pb c t)) (j : Nat) (v : Value) : St w0 (w.setCell ⟨pb, j, none⟩ v) (l.set i (bx pb (c.setIfInBounds j v) t)) :=
 h.rebox i hi (blk_set v (h.box i hi)) ((Mod.refl _ w).setCell _ _ (fun _ => rfl))
def StPost (v : Value) (w0 : World) (l : List Thing) (e : Ending) (w' : World) : Prop := e = .returned v ∧ St w0 w' l
theorem St.old {w0 w : World} {l : List Thing} (h : St w0 w l) {k : Nat} {a : Option Addr} {n cap : Nat} {cs : List Value} (hr : Rd w0 k a n cap cs) : Rd w k a n cap cs := hr.mod h.1 (fun _ _ h => h)
end Go.Proofs.YtonnbkebjeoflaaGreatDoor
namespace Go.Proofs.YtonnbkebjeoflaaGreatDoor
open Go.ChangeShapes Go.WideShapes Go.ChangeAt Go.RowKit Go.Deep
section
variable {H : Type} {enc : TypeId × Value → H} {P : Program} {w : World} {base : Nat} {spare : Nat → Bool} {held : Bool}
theorem open_list {α : Type} [Inhabited α] {t e : TypeId} {k : Nat} (hk : P.cellsOf e = k) (cells : α → List Value) (hcl : ∀ x, (cells x).length = k) (ok : α → DataW H → Prop)
 (hone : ∀ fuel (cs : List Value) x, cs.length = k → DataW.trod enc P w base spare held fuel e cs = some x → ∃ p, cs = cells p ∧ ok p x.1)
 {fuel : Nat} {cs : List Value} {x : DataW H × List MemPlace} (ht : P.underlying t = some (.slice e)) (h : DataW.trod enc P w base spare held fuel t cs = some x) :
 ∃ (a : Option Addr) (n cap : Nat) (xs : List α) (D : List (DataW H)) (D' : List (DataW H)), cs = [.slice a n cap] ∧ xs.length = n ∧ n ≤ cap ∧ cap ≤ maxLen ∧ (x.1 = .nil ∧ a = none ∧ n = 0 ∧ cap = 0 ∧ D = [] ∨ x.1 = .slice D D' ∧ a.isSome = true) ∧ D.length = n ∧
   (∀ (i : Nat) (p : α) (d : DataW H), xs[i]? = some p → D[i]? = some d → ok p d) ∧ ((a = none ∧ cap = 0) ∨ ∃ y, a = some y ∧ ∀ (i : Nat) (p : α), xs[i]? = some p → ∀ (j : Nat) (u : Value), (cells p)[j]? = some u → w.cell? (y.add (i * k + j)) = some u) := by
 rcases open_slice ht h with ⟨rfl, rfl⟩ | ⟨a, len, cap, m, n, D, Pl, rfl, hb, hl, hm, hmm, rfl, hx⟩
 ·exact ⟨none, 0, 0, [], [], [], rfl, rfl, Nat.le_refl _, Nat.zero_le _, .inl ⟨rfl, rfl, rfl, rfl, rfl⟩, rfl, fun i p d h => by simp at h, .inl ⟨rfl, rfl⟩⟩
 ·have hle : len ≤ m := by rw [hmm]; split <;> omega
  have hall : ∀ i, i < len → ∃ p : α, (∀ j u, (cells p)[j]? = some u → w.cell? (a.add (i * k + j)) = some u) ∧ ok p (D i) := fun i hi => by
   obtain ⟨cs', h1, h2⟩ := hx i (by omega)
   obtain ⟨_, hlen, hat⟩ := World.cells?_some h1
   obtain ⟨p, rfl, hok⟩ := hone _ _ _ (by rw [hlen, hk]) h2
   refine ⟨p, fun j u hu => ?_, hok⟩
   have hj : j < (cells p).length := (List.getElem?_eq_some_iff.1 hu).1
   have := hat j (by rw [← hlen]; exact hj)
   rw [hk, Go.Deep.add_add] at this
   rw [this]; exact hu
  obtain ⟨f, hf⟩ := choose_lt hall
  refine ⟨some a, len, cap, (List.range len).map f, (List.range len).map D, _, rfl, by simp, hl, hm, .inr ⟨rfl, rfl⟩, by simp, fun i p d hp hd => ?_, .inr ⟨a, rfl, fun i p hp j u hu => ?_⟩⟩
  ·simp only [List.getElem?_map] at hp hd
   obtain ⟨i', hi', rfl⟩ := Option.map_eq_some_iff.1 hp
   have hlt := (List.getElem?_eq_some_iff.1 hi').1
   rw [List.getElem?_range (by simpa using hlt)] at hi' hd
   simp at hi' hd
   subst hi'; subst hd
   exact (hf i (by simpa using hlt)).2
  ·simp only [List.getElem?_map] at hp
   obtain ⟨i', hi', rfl⟩ := Option.map_eq_some_iff.1 hp
   have hlt := (List.getElem?_eq_some_iff.1 hi').1
   rw [List.getElem?_range (by simpa using hlt)] at hi'
   simp at hi'
   subst hi'
   exact (hf i (by simpa using hlt)).1 j u hu
end
end Go.Proofs.YtonnbkebjeoflaaGreatDoor
namespace Go.Proofs.YtonnbkebjeoflaaGreatDoor
open Go.ChangeShapes Go.WideShapes Go.ChangeAt Go.RowKit Go.Deep
section
variable {α : Type} (cells : α → List Value) {k : Nat} (hk : ∀ x, (cells x).length = k)
include hk
theorem flatk_length : ∀ l : List α, (l.flatMap cells).length = l.length * k
 | [] => by simp
 | x :: l => by rw [List.flatMap_cons, List.length_append, flatk_length l, hk, List.length_cons, Nat.add_mul, Nat.one_mul, Nat.add_comm]
theorem flatk_get : ∀ (l : List α) (i : Nat) (x : α) (j : Nat) (u : Value), l[i]? = some x → (cells x)[j]? = some u → (l.flatMap cells)[i * k + j]? = some u
 | [], i, x, j, u, h, _ => by simp at h
 | y :: l, 0, x, j, u, h, hu => by
   simp only [List.getElem?_cons_zero, Option.some.injEq] at h
   subst h
   have hj : j < (cells y).length := (List.getElem?_eq_some_iff.1 hu).1
   rw [List.flatMap_cons, Nat.zero_mul, Nat.zero_add, List.getElem?_append_left hj]; exact hu
 | y :: l, i + 1, x, j, u, h, hu => by
   have e : (i + 1) * k + j = k + (i * k + j) := by rw [Nat.add_mul, Nat.one_mul]; omega
   rw [List.flatMap_cons, e, List.getElem?_append_right (by rw [hk]; omega), hk, Nat.add_sub_cancel_left]
   exact flatk_get l i x j u (by simpa using h) hu
theorem flatk_at (h0 : 0 < k) : ∀ (l : List α) (j : Nat) (u : Value), (l.flatMap cells)[j]? = some u → ∃ p, l[j / k]? = some p ∧ (cells p)[j % k]? = some u
 | [], j, u, h => by simp at h
 | x :: l, j, u, h => by
   rw [List.flatMap_cons] at h
   by_cases hj : j < k
   ·rw [List.getElem?_append_left (by rw [hk]; exact hj)] at h
    exact ⟨x, by rw [Nat.div_eq_of_lt hj]; rfl, by rw [Nat.mod_eq_of_lt hj]; exact h⟩
   ·rw [List.getElem?_append_right (by rw [hk]; omega), hk] at h
    obtain ⟨p, h1, h2⟩ := flatk_at h0 l (j - k) u h
    refine ⟨p, ?_, ?_⟩
    ·rw [show j / k = (j - k) / k + 1 from by
      have := Nat.sub_mul_div j k 1
      rw [Nat.mul_one] at this
      have h3 : 1 ≤ j / k := (Nat.one_le_div_iff h0).2 (by omega)
      omega]
     exact h1
    ·rw [show j % k = (j - k) % k from by rw [Nat.mod_eq_sub_mod (by omega)]]; exact h2
theorem Rd.elem {w : World} {a : Option Addr} {n cap : Nat} {l : List α} (h : Rd w k a n cap (l.flatMap cells)) (h0 : 0 < k) {i : Nat} {x : α} (hx : l[i]? = some x) :
 ∃ b o, a = some ⟨b, o, none⟩ ∧ b < w.heap.size ∧ ∀ j u, (cells x)[j]? = some u → w.cell? ⟨b, o + i * k + j, none⟩ = some u := by
 have hlt : i < l.length := (List.getElem?_eq_some_iff.1 hx).1
 obtain ⟨hl, hn, hm, ⟨rfl, hc0⟩ | ⟨y, rfl, hc⟩⟩ := h
 ·rw [flatk_length cells hk] at hl
  have : n = l.length := (Nat.eq_of_mul_eq_mul_right h0 hl).symm
  omega
 ·have key : ∀ j u, (cells x)[j]? = some u → w.cell? (y.add (i * k + j)) = some u := fun j u hu => hc _ _ (flatk_get cells hk l i x j u hx hu)
  obtain ⟨b, o, sp⟩ := y
  have h00 : ∃ u, (cells x)[0]? = some u := ⟨_, List.getElem?_eq_getElem (by rw [hk]; exact h0)⟩
  obtain ⟨u0, hu0⟩ := h00
  have hs : sp = none := by
   have hl0 : 0 < l.length := by omega
   have hz : ∃ u, (cells l[0])[0]? = some u := ⟨_, List.getElem?_eq_getElem (by rw [hk]; exact h0)⟩
   obtain ⟨uz, huz⟩ := hz
   have := hc 0 uz (by have := flatk_get cells hk l 0 l[0] 0 uz (List.getElem?_eq_getElem hl0) huz; simpa using this)
   simp [Addr.add, World.cell?] at this
   split at this
   ·cases sp <;> simp at this ⊢
   ·cases this
  subst hs
  simp only [add_none] at key
  refine ⟨b, o, rfl, World.block_lt_of_cell? w _ (key 0 u0 hu0), fun j u hu => ?_⟩
  rw [Nat.add_assoc]; exact key j u hu
end
section
variable {H : Type} {enc : TypeId × Value → H} {P : Program} {w : World} {base : Nat} {spare : Nat → Bool} {held : Bool}
theorem open_rows {α : Type} [Inhabited α] {t e : TypeId} {k : Nat} (hk : P.cellsOf e = k) (h0 : 0 < k) (cells : α → List Value) (hcl : ∀ x, (cells x).length = k) (ok : α → DataW H → Prop)
 (hone : ∀ fuel (cs : List Value) x, cs.length = k → DataW.trod enc P w base spare held fuel e cs = some x → ∃ p, cs = cells p ∧ ok p x.1)
 {fuel : Nat} {cs : List Value} {x : DataW H × List MemPlace} (ht : P.underlying t = some (.slice e)) (h : DataW.trod enc P w base spare held fuel t cs = some x) :
 ∃ (a : Option Addr) (cap : Nat) (l : List α) (D D' : List (DataW H)), cs = [.slice a l.length cap] ∧ Rd w k a l.length cap (l.flatMap cells) ∧ (x.1 = .nil ∧ l = [] ∧ D = [] ∨ x.1 = .slice D D') ∧ D.length = l.length ∧
   ∀ (i : Nat) (p : α) (d : DataW H), l[i]? = some p → D[i]? = some d → ok p d := by
 obtain ⟨a, n, cap, l, D, D', rfl, rfl, hn, hm, hx, hD, hok, hc⟩ := open_list hk cells hcl ok hone ht h
 refine ⟨a, cap, l, D, D', rfl, ⟨flatk_length cells hcl l, hn, hm, ?_⟩, ?_, hD, hok⟩
 ·rcases hc with h | ⟨y, rfl, hc⟩
  ·exact .inl h
  ·refine .inr ⟨y, rfl, fun j u hu => ?_⟩
   obtain ⟨p, h1, h2⟩ := flatk_at cells hcl h0 l j u hu
   have := hc (j / k) p h1 (j % k) u h2
   have e : j / k * k + j % k = j := by rw [Nat.mul_comm]; exact Nat.div_add_mod j k
   rw [e] at this
   exact this
 ·rcases hx with ⟨h1, _, h2, _, h3⟩ | ⟨h1, _⟩
  ·exact .inl ⟨h1, List.eq_nil_of_length_eq_zero h2, h3⟩
  ·exact .inr h1
theorem int_wf {n : Int} (hw : (Lit.int .i64 n).wf = true) : -9223372036854775808 ≤ n ∧ n ≤ 9223372036854775807 := by
 simpa [Lit.wf, IntKind.min, IntKind.max, IntKind.signed, IntKind.bits] using hw
end
end Go.Proofs.YtonnbkebjeoflaaGreatDoor
namespace Go.Proofs.YtonnbkebjeoflaaGreatDoor.W
open Go.RowKit
def wrt (pb : Nat) (xs : List UInt8) : Thing where
 lies w F := ∃ a cap, WrAt w pb a cap xs ∧ ∀ x, F x ↔ (x = pb ∨ own a = some x)
 keep := fun ⟨a, cap, h, hF⟩ hs hk => by
  obtain ⟨h1, h2, h3, h4⟩ := h
  exact ⟨a, cap, ⟨by rw [hk pb (heap_lt h1) ((hF _).2 (.inl rfl))]; exact h1, h2.kept fun b hb hlt => hk b hlt ((hF _).2 (.inr hb)), h3, h4⟩, hF⟩
 below := fun ⟨a, cap, h, hF⟩ x hx => by
  rcases (hF x).1 hx with hx | hx
  ·rw [hx]; exact h.lt.1
  ·exact h.lt.2 x hx
def rdt (pb : Nat) (bs : List UInt8) (s : RS) : Thing where
 lies w F := ∃ a cap, RdrAt w pb a cap bs s ∧ (∀ x, F x ↔ (x = pb ∨ own a = some x)) ∧ ∀ x, F x → x < w.heap.size
 keep := fun ⟨a, cap, h, hF, hl⟩ hs hk => by
  obtain ⟨h1, h2, h3, h4, h5⟩ := h
  exact ⟨a, cap, ⟨by rw [hk pb (heap_lt h1) ((hF _).2 (.inl rfl))]; exact h1, h2.kept fun b hb hlt => hk b hlt ((hF _).2 (.inr hb)), h3, h4, h5⟩, hF, fun x hx => Nat.lt_of_lt_of_le (hl x hx) hs⟩
 below := fun ⟨a, cap, h, hF, hl⟩ x hx => hl x hx
section
variable {w0 w : World} {l : List Thing} {pb : Nat} {f : FuncId} {args : Array Value}
theorem _root_.Go.Proofs.YtonnbkebjeoflaaGreatDoor.St.wr (h : St w0 w l) (i : Nat) {xs ys : List UInt8} (hi : l[i]? = some (wrt pb xs)) (hc : ∀ a cap, WrAt w pb a cap xs → Calls Tryz.prog f args w (WrTo w pb a ys)) : Calls Tryz.prog f args w (StPost (.tuple #[]) w0 (l.set i (wrt pb ys))) := by
 obtain ⟨F1, ⟨a, cap, hw, hF⟩, hz, ht⟩ := h.at i hi
 refine (hc a cap hw).mono ?_
 rintro e w' ⟨rfl, a', cap', hw', hm, hf⟩
 refine ⟨rfl, ht w' (wrt pb ys) (fun x => x = pb ∨ own a' = some x) (hm.mono (fun x _ hx => (hF x).2 hx)) ⟨a', cap', hw', fun _ => Iff.rfl⟩ (fun x hx => ?_)⟩
 rcases hx with hx | hx
 ·exact .inl ((hF x).2 (.inl hx))
 ·rcases hf x hx with h | h
  ·exact .inl ((hF x).2 (.inr h))
  ·exact .inr h.1
theorem _root_.Go.Proofs.YtonnbkebjeoflaaGreatDoor.St.rdr (h : St w0 w l) (i : Nat) {bs : List UInt8} {s s' : RS} {v : Value} (hi : l[i]? = some (rdt pb bs s)) (hc : ∀ a cap, RdrAt w pb a cap bs s → Calls Tryz.prog f args w (RdrTo v w pb a cap bs s')) : Calls Tryz.prog f args w (StPost v w0 (l.set i (rdt pb bs s'))) := by
 obtain ⟨F1, ⟨a, cap, hw, hF, hl⟩, hz, ht⟩ := h.at i hi
 refine (hc a cap hw).mono ?_
 rintro e w' ⟨rfl, hw', hm, hzz⟩
 exact ⟨rfl, ht w' (rdt pb bs s') F1 (hm.mono (fun x _ hx => (hF x).2 (.inl hx))) ⟨a, cap, hw', hF, fun x hx => by have := hl x hx; have := hm.size; omega⟩ (fun x hx => .inl hx)⟩
theorem _root_.Go.Proofs.YtonnbkebjeoflaaGreatDoor.St.rok (h : St w0 w l) (i : Nat) {bs : List UInt8} {s : RS} (hi : l[i]? = some (rdt pb bs s)) : s.ok bs.length ∧ bfits bs.length := by
 obtain ⟨F1, ⟨a, cap, hw, hF, hl⟩, hz, ht⟩ := h.at i hi
 exact hw.2.2.2
end
section
variable {w0 w : World} {l : List Thing} {pb : Nat} {xs : List UInt8}
theorem wnum_st (h : St w0 w l) (i : Nat) (hi : l[i]? = some (wrt pb xs)) (n : Int) (hn : -9223372036854775808 ≤ n ∧ n ≤ 9223372036854775807) (hf : bfits (xs.length + 10)) :
 Calls Tryz.prog 99 #[.pointer (some ⟨pb, 0, none⟩), .int .i64 n] w (StPost (.tuple #[]) w0 (l.set i (wrt pb (xs ++ sevens (zig n))))) :=
 h.wr i hi fun a cap hw => wnum_any pb a cap xs w hw n hn.1 hn.2 hf
theorem wcount_st (h : St w0 w l) (i : Nat) (hi : l[i]? = some (wrt pb xs)) (n : Int) (hn : -9223372036854775808 ≤ n ∧ n ≤ 9223372036854775807) (hf : bfits (xs.length + 10)) :
 Calls Tryz.prog 100 #[.pointer (some ⟨pb, 0, none⟩), .int .i64 n] w (StPost (.tuple #[]) w0 (l.set i (wrt pb (xs ++ sevens n.toNat)))) :=
 h.wr i hi fun a cap hw => wcount_any pb a cap xs w hw n hn.1 hn.2 hf
theorem wtext_st (h : St w0 w l) (i : Nat) (hi : l[i]? = some (wrt pb xs)) (s : ByteArray) (hf : bfits (xs.length + 10 + s.size)) :
 Calls Tryz.prog 231 #[.pointer (some ⟨pb, 0, none⟩), .string s] w (StPost (.tuple #[]) w0 (l.set i (wrt pb (xs ++ (sevens s.size ++ s.data.toList))))) := by
 rw [← List.append_assoc]
 exact h.wr i hi fun a cap hw => wtext_any pb a cap xs w hw s hf
theorem wbytes_st (h : St w0 w l) (i : Nat) (hi : l[i]? = some (wrt pb xs)) :
 Calls Tryz.prog 101 #[.pointer (some ⟨pb, 0, none⟩)] w (StrPost (.string ⟨xs.toArray⟩) w) := by
 obtain ⟨F1, ⟨a, cap, hw, hF⟩, hz, ht⟩ := h.at i hi
 exact wbytes_any pb a cap xs w hw
def StNew (w0 : World) (t : Nat → Thing) (l : List Thing) (e : Ending) (w' : World) : Prop := ∃ pb, e = .returned (.pointer (some ⟨pb, 0, none⟩)) ∧ St w0 w' (t pb :: l)
theorem wnew_st (h : St w0 w l) : Calls Tryz.prog 98 #[] w (StNew w0 (fun pb => wrt pb []) l) := by
 refine (wnew_any w).mono ?_
 rintro e w' ⟨pb, rfl, hw, hm, hp1, hp2⟩
 exact ⟨pb, rfl, h.cons (F := fun x => x = pb ∨ own none = some x) hm ⟨none, 0, hw, fun _ => Iff.rfl⟩ (fun x hx => by
  rcases hx with rfl | hx
  ·exact hp1
  ·simp [own] at hx)⟩
theorem rread_st (h : St w0 w l) (bs : ByteArray) (hf : bfits bs.size) : Calls Tryz.prog 151 #[.string bs] w (StNew w0 (fun pb => rdt pb bs.data.toList ⟨0, 0⟩) l) := by
 refine (rread_any bs hf w).mono ?_
 rintro e w' ⟨pb, a, cap, rfl, hr, hm, hp1, hp2, hpo⟩
 exact ⟨pb, rfl, h.cons (F := fun x => x = pb ∨ own a = some x) hm ⟨a, cap, hr, fun _ => Iff.rfl, fun x hx => by
  rcases hx with rfl | hx
  ·exact hp2
  ·exact (hpo x hx).2⟩ (fun x hx => by
  rcases hx with rfl | hx
  ·exact hp1
  ·exact (hpo x hx).1)⟩
end
section
variable {w0 w : World} {l : List Thing} {pb : Nat} {bs : List UInt8} {s : RS}
theorem rnum_st (h : St w0 w l) (i : Nat) (hi : l[i]? = some (rdt pb bs s)) :
 Calls Tryz.prog 226 #[.pointer (some ⟨pb, 0, none⟩)] w (StPost (.int .i64 (rnum bs s).1) w0 (l.set i (rdt pb bs (rnum bs s).2))) :=
 h.rdr i hi fun a cap hw => rnum_any pb a cap bs s w hw
theorem rcount_st (h : St w0 w l) (i : Nat) (hi : l[i]? = some (rdt pb bs s)) (most : Int) (hm : -9223372036854775808 ≤ most ∧ most ≤ 9223372036854775807) :
 Calls Tryz.prog 230 #[.pointer (some ⟨pb, 0, none⟩), .int .i64 most] w (StPost (.int .i64 (rcount bs most s).1) w0 (l.set i (rdt pb bs (rcount bs most s).2))) :=
 h.rdr i hi fun a cap hw => rcount_any pb a cap bs s w hw most hm.1 hm.2
theorem rtext_st (h : St w0 w l) (i : Nat) (hi : l[i]? = some (rdt pb bs s)) (most : Int) (hm : -9223372036854775808 ≤ most ∧ most ≤ 9223372036854775807) :
 Calls Tryz.prog 263 #[.pointer (some ⟨pb, 0, none⟩), .int .i64 most] w (StPost (.string ⟨(rtext bs most s).1.toArray⟩) w0 (l.set i (rdt pb bs (rtext bs most s).2))) :=
 h.rdr i hi fun a cap hw => rtext_any pb a cap bs s w hw most hm.1 hm.2
theorem rend_st (h : St w0 w l) (i : Nat) (hi : l[i]? = some (rdt pb bs s)) :
 Calls Tryz.prog 152 #[.pointer (some ⟨pb, 0, none⟩)] w (StPost (.int .i64 (rend bs s).wr) w0 (l.set i (rdt pb bs (rend bs s)))) :=
 h.rdr i hi fun a cap hw => rend_any pb a cap bs s w hw
end
def ic (ns : List Int) : List Value := ns.map (.int .i64)
def i64 (n : Int) : Prop := -9223372036854775808 ≤ n ∧ n ≤ 9223372036854775807
theorem _root_.Go.Proofs.YtonnbkebjeoflaaGreatDoor.St.slice1 {w0 w : World} {l : List Thing} (h : St w0 w l) (c : Array Value) (T : TypeId) (k n : Nat) (hn : c.size = n * k) (hm : n ≤ maxLen) : St w0 (w.alloc (.cells c T)) (sl T k (some ⟨w.heap.size, 0, none⟩) n n c.toList :: l) :=
 h.cons (F := fun x => own (some (⟨w.heap.size, 0, none⟩ : Addr)) = some x) ((Mod.refl _ w).alloc _) ⟨Sl.new (heap_alloc_new w _) hn hm, fun _ => Iff.rfl⟩ (fun x hx => Nat.le_of_eq (by simpa [own] using hx))
theorem _root_.Go.Proofs.YtonnbkebjeoflaaGreatDoor.Rd.int {w : World} {a : Option Addr} {n cap : Nat} {ts : List Int} (h : Rd w 1 a n cap (ic ts)) {k : Nat} {t : Int} (ht : ts[k]? = some t) :
 ∃ b o, a = some ⟨b, o, none⟩ ∧ b < w.heap.size ∧ w.cell? ⟨b, o + k, none⟩ = some (.int .i64 t) := by
 have h' : Rd w 1 a n cap (ts.flatMap (fun t => [Value.int .i64 t])) := by
  have e : ts.flatMap (fun t => [Value.int .i64 t]) = ic ts := by
   unfold ic; rw [List.map_eq_flatMap]
  rw [e]; exact h
 obtain ⟨b, o, rfl, hb, hc⟩ := h'.elem (k := 1) (fun t => [Value.int .i64 t]) (fun _ => rfl) (by omega) ht
 exact ⟨b, o, rfl, hb, by have := hc 0 _ rfl; simpa using this⟩
def numsB (ns : List Int) : List UInt8 := ns.flatMap fun n => sevens (zig n)
theorem numsB_len : ∀ ns : List Int, (∀ t ∈ ns, i64 t) → (numsB ns).length ≤ 10 * ns.length
 | [], _ => by simp [numsB]
 | n :: ns, h => by
   have h1 := h n (List.mem_cons_self ..)
   have h2 := numsB_len ns fun t ht => h t (List.mem_cons_of_mem _ ht)
   have h3 := zig_lt n h1.1 h1.2
   have h4 := sevens_length 10 (zig n) (by omega) (by omega)
   simp only [numsB, List.flatMap_cons, List.length_append, List.length_cons] at h2 ⊢
   omega
theorem numsB_snoc {ns : List Int} {k : Nat} {t : Int} (h : ns[k]? = some t) : numsB (ns.take (k + 1)) = numsB (ns.take k) ++ sevens (zig t) := by
 obtain ⟨hk, rfl⟩ := List.getElem?_eq_some_iff.1 h
 rw [List.take_succ_eq_append_getElem hk]
 unfold numsB
 rw [List.flatMap_append]
 congr 1
 simp
theorem numbers_st {w0 w : World} {l : List Thing} {pb : Nat} {xs : List UInt8} (h : St w0 w l) (i j : Nat) (hi : l[i]? = some (wrt pb xs)) (a : Option Addr) (n cap : Nat) (ns : List Int) (hj : l[j]? = some (sl 3 1 a n cap (ic ns))) (hij : i ≠ j)
 (hn : ns.length = n) (hr : ∀ t ∈ ns, i64 t) (hf : bfits (xs.length + 10 * n)) (hl : n ≤ 2 ^ 63 - 1) :
 Calls Tryz.prog 156 #[.pointer (some ⟨pb, 0, none⟩), .slice a n cap] w (StPost (.tuple #[]) w0 (l.set i (wrt pb (xs ++ numsB ns)))) := by
 have hil : i < l.length := (List.getElem?_eq_some_iff.1 hi).1
 have HI := Lib.hid hi
 have HJ := Lib.hid hj
 have HN := Lib.hid hn
 have HR := Lib.hid hr
 have HF := Lib.hid hf
 have HS := Lib.hid h
 clear hi hj hn hr hf h
 go_enter Tryz.func156, Tryz.ntmps156
 go_wp2
 go_loopg [8] n (fun g y wr => ∃ k : Nat, k + g = n ∧ y = .int .i64 k ∧ St w0 wr (l.set i (wrt pb (xs ++ numsB (ns.take k)))))
 case atStart =>
  refine ⟨0, by omega, rfl, ?_⟩
  rw [List.take_zero, show numsB [] = [] from rfl, List.append_nil]
  have e : l.set i (wrt pb xs) = l := by
   apply List.ext_getElem?
   intro x
   rw [List.getElem?_set]
   split
   ·next hx => subst hx; rw [HI.out]
   ·rfl
  rw [e]; exact HS.out
 case round =>
  obtain ⟨k, hkg, rfl, hS⟩ := hrel
  by_cases hlt : k < n
  ·have hx : ns[k]? = some (ns[k]'(HN.out ▸ hlt)) := List.getElem?_eq_getElem _
   obtain ⟨t, hxx⟩ : ∃ x, ns[k]'(HN.out ▸ hlt) = x := ⟨_, rfl⟩
   rw [hxx] at hx
   obtain ⟨b, o, rfl, hbl, hc⟩ := (hS.slice j (by rw [List.getElem?_set_ne hij]; exact HJ.out)).rd.int hx
   have hb : (numsB (ns.take k)).length ≤ 10 * k := Nat.le_trans (numsB_len _ fun t ht => HR.out t (List.mem_of_mem_take ht)) (by rw [List.length_take]; omega)
   have HX := Lib.hid hx
   have hft : bfits ((xs ++ numsB (ns.take k)).length + 10) := HF.out.mono (by rw [List.length_append]; omega)
   have HFT := Lib.hid hft
   clear hx hxx hb hft
   go_wp2_with fail
   refine (wnum_st hS i (by rw [List.getElem?_set_self hil]) t (HR.out t (List.mem_of_getElem? HX.out)) HFT.out).mono ?_
   clear hS
   rintro e w1 ⟨rfl, hS⟩
   go_wp2
   go_roundg (gk - 1)
   case measure => omega
   case rel =>
    refine ⟨k + 1, by omega, by simp, ?_⟩
    rw [numsB_snoc HX.out, ← List.append_assoc]
    rw [List.set_set] at hS
    exact hS
  ·have hk : k = n := by omega
   clear hkg hlt
   rw [hk, List.take_of_length_le (by rw [HN.out]; exact Nat.le_refl _)] at hS
   go_wp2
   go_end0
   exact ⟨rfl, hS⟩
end Go.Proofs.YtonnbkebjeoflaaGreatDoor.W
namespace Go.Proofs.YtonnbkebjeoflaaGreatDoor.W
open Go.RowKit
def numB (n : Int) : List UInt8 := sevens (zig n)
def txtB (s : ByteArray) : List UInt8 := sevens s.size ++ s.data.toList
theorem numB_len {n : Int} (h : i64 n) : (numB n).length ≤ 10 := by
 have h3 := zig_lt n h.1 h.2
 exact sevens_length 10 (zig n) (by omega) (by omega)
end Go.Proofs.YtonnbkebjeoflaaGreatDoor.W
namespace Go.Proofs.YtonnbkebjeoflaaGreatDoor.W
open Go.RowKit
theorem mk_size (xs : List UInt8) : (ByteArray.mk xs.toArray).size = xs.length := by show xs.toArray.size = _; simp
end Go.Proofs.YtonnbkebjeoflaaGreatDoor.W
