/-
  Things side by side, over any program: a state is a list of things, each with blocks of its own, all of them younger than the world at the start. A thing keeps its place in the list.
  No condition: every law states its own.
-/
import Derived.Test.YtmbkbkfcbloafaaLib
namespace Go.Proofs.Ytmbkbkfcbloafaa
open Go.RowKit
set_option linter.unusedSectionVars false
set_option linter.unusedSimpArgs false
set_option linter.unusedVariables false

/-- A thing: what it says of a world, in the blocks F, and that only these blocks matter. -/
structure Thing where
  lies : World → (Nat → Prop) → Prop
  keep : ∀ {w w' : World} {F : Nat → Prop}, lies w F → w.heap.size ≤ w'.heap.size → (∀ x, x < w.heap.size → F x → w'.heap[x]? = w.heap[x]?) → lies w' F
  below : ∀ {w : World} {F : Nat → Prop}, lies w F → ∀ x, F x → x < w.heap.size

theorem Thing.mod (t : Thing) {w w' : World} {F S : Nat → Prop} (h : t.lies w F) (hm : Mod S w w') (hd : ∀ x, F x → ¬ S x) : t.lies w' F :=
  t.keep h hm.size fun x hx hF => hm.keep x hx (hd x hF)

/-- A block of cells. -/
def bx (pb : Nat) (c : Array Value) (t : TypeId) : Thing where
  lies w F := w.heap[pb]? = some (.cells c t (0, 0)) ∧ ∀ x, F x ↔ x = pb
  keep := fun ⟨h, hF⟩ _ hk => ⟨by rw [hk pb (heap_lt h) ((hF _).2 rfl)]; exact h, hF⟩
  below := fun ⟨h, hF⟩ x hx => by rw [(hF x).1 hx]; exact heap_lt h

/-- A slice in a block of its own. -/
def sl (E k : Nat) (a : Option Addr) (n cap : Nat) (cs : List Value) : Thing where
  lies w F := Sl w E k a n cap cs ∧ ∀ x, F x ↔ own a = some x
  keep := fun ⟨h, hF⟩ _ hk => ⟨h.kept fun b hb hlt => hk b hlt ((hF _).2 hb), hF⟩
  below := fun ⟨h, hF⟩ x hx => h.lt x ((hF x).1 hx)

/-- Nothing. -/
def no : Thing where
  lies _ F := ∀ x, ¬ F x
  keep := fun h _ _ => h
  below := fun h x hx => absurd hx (h x)

/-- Things side by side, in the blocks F together. -/
def Side (w : World) : List Thing → (Nat → Prop) → Prop
  | [], F => ∀ x, ¬ F x
  | t :: l, F => ∃ F1 F2, t.lies w F1 ∧ Side w l F2 ∧ (∀ x, F1 x → ¬ F2 x) ∧ ∀ x, F x ↔ F1 x ∨ F2 x

theorem Side.mod {w w' : World} {S : Nat → Prop} (hm : Mod S w w') : ∀ {l : List Thing} {F : Nat → Prop}, Side w l F → (∀ x, F x → ¬ S x) → Side w' l F
  | [], _, h, _ => h
  | t :: _, F, ⟨F1, F2, h1, h2, hd, hF⟩, hS =>
    ⟨F1, F2, t.mod h1 hm (fun x hx => hS x ((hF x).2 (.inl hx))), Side.mod hm h2 (fun x hx => hS x ((hF x).2 (.inr hx))), hd, hF⟩

theorem Side.lt {w : World} : ∀ {l : List Thing} {F : Nat → Prop}, Side w l F → ∀ x, F x → x < w.heap.size
  | [], _, h, x, hx => absurd hx (h x)
  | t :: _, F, ⟨F1, F2, h1, h2, hd, hF⟩, x, hx => ((hF x).1 hx).elim (t.below h1 x) (Side.lt h2 x)

/-- The thing at place i: what it says, and how another one comes into its place. -/
theorem Side.at {w : World} : ∀ {l : List Thing} {F : Nat → Prop} (i : Nat) {t : Thing}, Side w l F → l[i]? = some t →
    ∃ F1, t.lies w F1 ∧ (∀ x, F1 x → F x) ∧ ∀ (w' : World) (t' : Thing) (F' : Nat → Prop), Mod F1 w w' → t'.lies w' F' → (∀ x, F' x → F1 x ∨ w.heap.size ≤ x) → ∃ G, Side w' (l.set i t') G ∧ ∀ x, G x → F x ∨ w.heap.size ≤ x
  | [], _, i, t, _, hi => by simp at hi
  | s :: l, F, 0, t, ⟨F1, F2, h1, h2, hd, hF⟩, hi => by
    simp only [List.getElem?_cons_zero, Option.some.injEq] at hi
    subst hi
    refine ⟨F1, h1, fun x hx => (hF x).2 (.inl hx), fun w' t' F' hm ht hF' => ⟨fun x => F' x ∨ F2 x, ⟨F', F2, ht, Side.mod hm h2 (fun x hx h => hd x h hx), fun x hx h => ?_, fun _ => Iff.rfl⟩, fun x hx => ?_⟩⟩
    · rcases hF' x hx with h' | h'
      · exact hd x h' h
      · have := Side.lt h2 x h; omega
    · rcases hx with hx | hx
      · exact (hF' x hx).imp (fun h => (hF x).2 (.inl h)) id
      · exact .inl ((hF x).2 (.inr hx))
  | s :: l, F, i + 1, t, ⟨F1, F2, h1, h2, hd, hF⟩, hi => by
    obtain ⟨G1, hl, hG, hk⟩ := Side.at i h2 (by simpa using hi)
    refine ⟨G1, hl, fun x hx => (hF x).2 (.inr (hG x hx)), fun w' t' F' hm ht hF' => ?_⟩
    obtain ⟨G, hs, hg⟩ := hk w' t' F' hm ht hF'
    refine ⟨fun x => F1 x ∨ G x, ⟨F1, G, s.mod h1 hm (fun x hx h => hd x hx (hG x h)), hs, fun x hx h => ?_, fun _ => Iff.rfl⟩, fun x hx => ?_⟩
    · rcases hg x h with h' | h'
      · exact hd x hx h'
      · have := s.below h1 x hx; omega
    · rcases hx with hx | hx
      · exact .inl ((hF x).2 (.inl hx))
      · exact (hg x hx).imp (fun h => (hF x).2 (.inr h)) id

theorem Side.append {w : World} : ∀ {l : List Thing} {F G : Nat → Prop} {t : Thing}, Side w l F → t.lies w G → (∀ x, F x → ¬ G x) → ∃ H, Side w (l ++ [t]) H ∧ ∀ x, H x ↔ F x ∨ G x
  | [], F, G, t, h, ht, hd => by
    have h0 : ∀ x, ¬ F x := h
    refine ⟨fun x => G x ∨ False, ⟨G, fun _ => False, ht, fun _ h => h, fun _ _ h => h, fun _ => Iff.rfl⟩, fun x => ?_⟩
    show G x ∨ False ↔ F x ∨ G x
    simp [h0 x]
  | s :: l, F, G, t, ⟨F1, F2, h1, h2, hd2, hF⟩, ht, hd => by
    obtain ⟨H, hs, hH⟩ := Side.append h2 ht (fun x hx => hd x ((hF x).2 (.inr hx)))
    refine ⟨fun x => F1 x ∨ H x, ⟨F1, H, h1, hs, fun x hx h => ?_, fun _ => Iff.rfl⟩, fun x => ?_⟩
    · rcases (hH x).1 h with h' | h'
      · exact hd2 x hx h'
      · exact hd x ((hF x).2 (.inl hx)) h'
    · show F1 x ∨ H x ↔ F x ∨ G x
      rw [hH, hF, or_assoc]

/-- From w0 on nothing old has changed, and the things lie side by side in young blocks. -/
def St (w0 w : World) (l : List Thing) : Prop := Mod (fun _ => False) w0 w ∧ ∃ F, Side w l F ∧ ∀ x, F x → w0.heap.size ≤ x

theorem St.start (w : World) : St w w [] := ⟨Mod.refl _ _, fun _ => False, fun _ h => h, fun _ h => h.elim⟩
theorem St.mod {w0 w w' : World} {l : List Thing} (h : St w0 w l) (hm : Mod (fun _ => False) w w') : St w0 w' l := by
  obtain ⟨h0, F, hs, hz⟩ := h
  exact ⟨h0.trans hm (fun _ _ h => h) (fun _ _ h => h), F, Side.mod hm hs (fun _ _ h => h), hz⟩
theorem St.drew {w0 w : World} {l : List Thing} (h : St w0 w l) : St w0 w.drew l := h.mod ((Mod.refl _ w).drew)
theorem St.drewN {w0 w : World} {l : List Thing} (h : St w0 w l) (n : Nat) : St w0 (w.drewN n) l := h.mod ((Mod.refl _ w).drewN n)
theorem St.begin {w0 w : World} (h : Mod (fun _ => False) w0 w) : St w0 w [] := (St.start w0).mod h

/-- The thing at place i turns. -/
theorem St.at {w0 w : World} {l : List Thing} (h : St w0 w l) (i : Nat) {t : Thing} (hi : l[i]? = some t) :
    ∃ F1, t.lies w F1 ∧ (∀ x, F1 x → w0.heap.size ≤ x) ∧ ∀ (w' : World) (t' : Thing) (F' : Nat → Prop), Mod F1 w w' → t'.lies w' F' → (∀ x, F' x → F1 x ∨ w.heap.size ≤ x) → St w0 w' (l.set i t') := by
  obtain ⟨h0, F, hs, hz⟩ := h
  obtain ⟨F1, hl, hF, hk⟩ := Side.at i hs hi
  refine ⟨F1, hl, fun x hx => hz x (hF x hx), fun w' t' F' hm ht hF' => ?_⟩
  obtain ⟨G, hs', hg⟩ := hk w' t' F' hm ht hF'
  refine ⟨h0.then hm (fun x hx hf => by have := hz x (hF x hf); omega), G, hs', fun x hx => ?_⟩
  rcases hg x hx with h | h
  · exact hz x h
  · exact Nat.le_trans h0.size h

/-- A new thing, in young blocks. -/
theorem St.push {w0 w w' : World} {l : List Thing} (h : St w0 w l) {t : Thing} {F : Nat → Prop} (hm : Mod (fun _ => False) w w') (ht : t.lies w' F) (hF : ∀ x, F x → w.heap.size ≤ x) : St w0 w' (l ++ [t]) := by
  obtain ⟨h0, G, hs, hz⟩ := h
  obtain ⟨H, hs', hH⟩ := Side.append (Side.mod hm hs (fun _ _ h => h)) ht (fun x hx hf => by have := Side.lt hs x hx; have := hF x hf; omega)
  refine ⟨h0.trans hm (fun _ _ h => h) (fun _ _ h => h), H, hs', fun x hx => ?_⟩
  rcases (hH x).1 hx with h | h
  · exact hz x h
  · exact Nat.le_trans h0.size (hF x h)

theorem St.alloc {w0 w : World} {l : List Thing} (h : St w0 w l) (c : Array Value) (t : TypeId) : St w0 (w.alloc (.cells c t)) (l ++ [bx w.heap.size c t]) :=
  h.push (F := fun x => x = w.heap.size) ((Mod.refl _ w).alloc _) ⟨heap_alloc_new w _, fun _ => Iff.rfl⟩ (fun x hx => by rw [hx]; exact Nat.le_refl _)

theorem Side.perm {w : World} {l l' : List Thing} (hp : l.Perm l') : ∀ {F : Nat → Prop}, Side w l F → Side w l' F := by
  induction hp with
  | nil => exact fun h => h
  | cons t _ ih =>
    rintro F ⟨F1, F2, h1, h2, hd, hF⟩
    exact ⟨F1, F2, h1, ih h2, hd, hF⟩
  | swap s t l =>
    rintro F ⟨F1, F2, h1, ⟨G1, G2, g1, g2, gd, gF⟩, hd, hF⟩
    refine ⟨G1, fun x => F1 x ∨ G2 x, g1, ⟨F1, G2, h1, g2, fun x h g => hd x h ((gF x).2 (.inr g)), fun x => Iff.rfl⟩, fun x g h => ?_, fun x => ?_⟩
    · rcases h with h | h
      · exact hd x h ((gF x).2 (.inl g))
      · exact gd x g h
    · rw [hF, gF]
      constructor
      · rintro (h | h | h)
        · exact .inr (.inl h)
        · exact .inl h
        · exact .inr (.inr h)
      · rintro (h | h | h)
        · exact .inr (.inl h)
        · exact .inl h
        · exact .inr (.inr h)
  | trans _ _ ih1 ih2 => exact fun h => ih2 (ih1 h)

theorem St.perm {w0 w : World} {l l' : List Thing} (h : St w0 w l) (hp : l.Perm l') : St w0 w l' := ⟨h.1, h.2.choose, Side.perm hp h.2.choose_spec.1, h.2.choose_spec.2⟩
theorem St.two {w0 w : World} {a b c d : Thing} {l : List Thing} (h : St w0 w (a :: b :: c :: d :: l)) : St w0 w (c :: d :: a :: b :: l) :=
  h.perm (List.perm_append_comm_assoc [a, b] [c, d] l)

/-- A new thing, ahead of the others. -/
theorem St.cons {w0 w w' : World} {l : List Thing} (h : St w0 w l) {t : Thing} {F : Nat → Prop} (hm : Mod (fun _ => False) w w') (ht : t.lies w' F) (hF : ∀ x, F x → w.heap.size ≤ x) : St w0 w' (t :: l) :=
  (h.push hm ht hF).perm (List.perm_append_comm (l₁ := l) (l₂ := [t]))
theorem St.box1 {w0 w : World} {l : List Thing} (h : St w0 w l) (c : Array Value) (t : TypeId) : St w0 (w.alloc (.cells c t)) (bx w.heap.size c t :: l) :=
  (h.alloc c t).perm (List.perm_append_comm (l₁ := l) (l₂ := [_]))
theorem St.tail {w0 w : World} {t : Thing} {l : List Thing} (h : St w0 w (t :: l)) : St w0 w l := by
  obtain ⟨h0, F, ⟨F1, F2, h1, h2, hd, hF⟩, hz⟩ := h
  exact ⟨h0, F2, h2, fun x hx => hz x ((hF x).2 (.inr hx))⟩

/-- The thing at place i is let go. -/
theorem St.drop {w0 w : World} {l : List Thing} (h : St w0 w l) (i : Nat) {t : Thing} (hi : l[i]? = some t) : St w0 w (l.set i no) := by
  obtain ⟨F1, hl, hz, hk⟩ := h.at i hi
  exact hk w no (fun _ => False) (Mod.refl _ _) (fun _ h => h) (fun _ h => h.elim)

theorem St.box {w0 w : World} {l : List Thing} (h : St w0 w l) (i : Nat) {pb : Nat} {c : Array Value} {t : TypeId} (hi : l[i]? = some (bx pb c t)) : w.heap[pb]? = some (.cells c t (0, 0)) := by
  obtain ⟨F1, hl, _⟩ := h.at i hi
  exact hl.1
theorem St.slice {w0 w : World} {l : List Thing} (h : St w0 w l) (i : Nat) {E k : Nat} {a : Option Addr} {n cap : Nat} {cs : List Value} (hi : l[i]? = some (sl E k a n cap cs)) : Sl w E k a n cap cs := by
  obtain ⟨F1, hl, _⟩ := h.at i hi
  exact hl.1

/-- A box that is written. -/
theorem St.rebox {w0 w w' : World} {l : List Thing} (h : St w0 w l) (i : Nat) {pb : Nat} {c c' : Array Value} {t : TypeId} (hi : l[i]? = some (bx pb c t)) (hw : w'.heap[pb]? = some (.cells c' t (0, 0))) (hm : Mod (fun b => b = pb) w w') : St w0 w' (l.set i (bx pb c' t)) := by
  obtain ⟨F1, ⟨hh, hF⟩, hz, hk⟩ := h.at i hi
  exact hk w' (bx pb c' t) F1 (hm.mono (fun x _ hx => (hF x).2 hx)) ⟨hw, hF⟩ (fun x hx => .inl hx)

theorem St.set {w0 w : World} {l : List Thing} (h : St w0 w l) (i : Nat) {pb : Nat} {c : Array Value} {t : TypeId} (hi : l[i]? = some (bx pb c t)) (j : Nat) (v : Value) : St w0 (w.setCell ⟨pb, j, none⟩ v) (l.set i (bx pb (c.setIfInBounds j v) t)) :=
  h.rebox i hi (blk_set v (h.box i hi)) ((Mod.refl _ w).setCell _ _ (fun _ => rfl))

/-- The block of a slice that has elements. -/
theorem Sl.block {w : World} {E k : Nat} {a : Option Addr} {n cap : Nat} {cs : List Value} (h : Sl w E k a n cap cs) (hn : 0 < n) : ∃ b off c, a = some ⟨b, off, none⟩ ∧ w.heap[b]? = some (.cells c E (0, 0)) ∧ off + cap * k ≤ c.size := by
  obtain ⟨hl, hnc, hm, ⟨rfl, h0⟩ | ⟨b, off, c, rfl, h3, h4, h5⟩⟩ := h
  · omega
  · exact ⟨b, off, c, rfl, h3, h4⟩

/-- A slice into whose block something was written. -/
theorem Sl.poke {w w' : World} {E k b off : Nat} {n cap : Nat} {cs : List Value} (h : Sl w E k (some ⟨b, off, none⟩) n cap cs) {c : Array Value} (hg : w.heap[b]? = some (.cells c E (0, 0))) (hfit : off + cap * k ≤ c.size)
    (o : Nat) (ys : List Value) (hy : o + ys.length ≤ c.size) (hw : w'.heap[b]? = some (.cells (splice c.toList o ys).toArray E (0, 0))) : ∃ cs', Sl w' E k (some ⟨b, off, none⟩) n cap cs' := by
  have hl : (splice c.toList o ys).length = c.size := (splice_length (c := c.toList) (o := o) (cs := ys) (by rw [Array.length_toList]; exact hy)).trans Array.length_toList
  refine ⟨((splice c.toList o ys).drop off).take (n * k), ?_, h.2.1, h.2.2.1, .inr ⟨b, off, _, rfl, hw, by rw [List.size_toArray, hl]; exact hfit, rfl⟩⟩
  have hnk : n * k ≤ cap * k := Nat.mul_le_mul_right _ h.2.1
  rw [List.length_take, List.length_drop, hl]
  omega

theorem St.reslice {w0 w w' : World} {l : List Thing} (h : St w0 w l) (i : Nat) {E k b off n cap : Nat} {cs cs' : List Value} (hi : l[i]? = some (sl E k (some ⟨b, off, none⟩) n cap cs)) (hs : Sl w' E k (some ⟨b, off, none⟩) n cap cs') (hm : Mod (fun x => x = b) w w') :
    St w0 w' (l.set i (sl E k (some ⟨b, off, none⟩) n cap cs')) := by
  obtain ⟨F1, ⟨hh, hF⟩, hz, hk⟩ := h.at i hi
  exact hk w' (sl E k (some ⟨b, off, none⟩) n cap cs') F1 (hm.mono (fun x _ hx => (hF x).2 (by rw [hx]; rfl))) ⟨hs, hF⟩ (fun x hx => .inl hx)

/-- What a call answers and leaves. -/
def StPost (v : Value) (w0 : World) (l : List Thing) (e : Ending) (w' : World) : Prop := e = .returned v ∧ St w0 w' l

/-- An old thing, read and not written. -/
theorem St.old {w0 w : World} {l : List Thing} (h : St w0 w l) {k : Nat} {a : Option Addr} {n cap : Nat} {cs : List Value} (hr : Rd w0 k a n cap cs) : Rd w k a n cap cs := hr.mod h.1 (fun _ _ h => h)
end Go.Proofs.Ytmbkbkfcbloafaa
