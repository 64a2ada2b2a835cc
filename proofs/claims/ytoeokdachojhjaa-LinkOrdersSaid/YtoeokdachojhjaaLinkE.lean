/-
  What Hear does to a link (plain).
  No condition.
-/
import Derived.Test.YtoeokdachojhjaaLinkD
namespace Go.Proofs.Ytoeokdachojhjaa
open Go.RowKit
set_option linter.unusedSectionVars false
set_option linter.unusedSimpArgs false
set_option linter.unusedVariables false

def Lk.deaf (L : Lk) (p : Pk) : Bool := L.over || p.a != L.peer || p.b != L.me || p.c != 2 || decide (p.d < 1)
def Lk.alien (L : Lk) (p : Pk) : Bool := p.e != 0 && p.e != L.life
def Lk.older (L : Lk) (p : Pk) : Bool := decide (p.d < L.far)
def Lk.newer (L : Lk) (p : Pk) : Bool := decide (L.far < p.d) && L.far != 0
/-- Heard of: its life, what it has got. -/
def Lk.acked (L : Lk) (p : Pk) : Lk := { L with far := p.d, queue := if p.e = L.life then L.queue.filter (stays p.g) else L.queue }
def Lk.owing (L : Lk) (p : Pk) : Lk := { L with owes := L.owes || decide (0 < p.f) }
def Lk.wants (L : Lk) (p : Pk) : Bool := decide (L.got < p.f) && decide (p.f - L.got ≤ 64)
def Lk.keep (L : Lk) (p : Pk) : Lk := if L.wants p && (L.kept p.f).isNone then { L with kept := set1 L.kept p.f (some p.s), cnt := L.cnt + 1 } else L

/-- What comes out in order: what stays, how far it is, what has come. -/
def drain : Nat → (Int → Option ByteArray) → Int → (Int → Option ByteArray) × Int × List ByteArray
  | 0, f, g => (f, g, [])
  | m + 1, f, g => match f (g + 1) with
    | none => (f, g, [])
    | some s => ((drain m (set1 f (g + 1) none) (g + 1)).1, (drain m (set1 f (g + 1) none) (g + 1)).2.1, s :: (drain m (set1 f (g + 1) none) (g + 1)).2.2)

theorem drain_none {m : Nat} {f : Int → Option ByteArray} {g : Int} (h : f (g + 1) = none) : drain m f g = (f, g, []) := by
  cases m with
  | zero => rfl
  | succ m => rw [drain, h]
theorem drain_some {m : Nat} {f : Int → Option ByteArray} {g : Int} {s : ByteArray} (h : f (g + 1) = some s) :
    drain (m + 1) f g = ((drain m (set1 f (g + 1) none) (g + 1)).1, (drain m (set1 f (g + 1) none) (g + 1)).2.1, s :: (drain m (set1 f (g + 1) none) (g + 1)).2.2) := by
  rw [drain, h]

def Lk.taken (L : Lk) : Lk := { L with kept := (drain 64 L.kept L.got).1, got := (drain 64 L.kept L.got).2.1 }
def Lk.came (L : Lk) : List ByteArray := (drain 64 L.kept L.got).2.2

def Lk.main (L : Lk) (p : Pk) : Lk := ((L.acked p).owing p).keep p
def Lk.hear (L : Lk) (p : Pk) : Lk :=
  if L.deaf p then L else if L.alien p then { L with owes := L.owes || decide (p.e < L.life) } else if L.older p then L else if L.newer p then { L with over := true } else (L.main p).taken
def Lk.heard (L : Lk) (p : Pk) : List ByteArray :=
  if L.deaf p then [] else if L.alien p then [] else if L.older p then [] else if L.newer p then [] else (L.main p).came
def Lk.ends (L : Lk) (p : Pk) : Bool :=
  if L.deaf p then false else if L.alien p then false else if L.older p then false else if L.newer p then true else false

/-- What is kept is ahead, and not far. -/
def Lk.ok (L : Lk) : Prop := 0 ≤ L.got ∧ L.got ≤ 9223372036854775807 ∧ ∀ k s, L.kept k = some s → L.got < k ∧ k ≤ L.got + 64 ∧ k ≤ 9223372036854775807

theorem Lk.ok_new (me peer life : Int) : (Lk.new me peer life).ok := ⟨by simp [Lk.new], by simp [Lk.new], fun k s h => by simp [Lk.new] at h⟩

theorem set1_some {f : Int → Option ByteArray} {x y : Int} {v : Option ByteArray} {s : ByteArray} (h : set1 f x v y = some s) : (y = x ∧ v = some s) ∨ (y ≠ x ∧ f y = some s) := by
  unfold set1 at h; split at h
  · exact .inl ⟨‹_›, h⟩
  · exact .inr ⟨‹_›, h⟩

theorem Lk.ok_keep {L : Lk} (h : L.ok) (p : Pk) (hf : p.f ≤ 9223372036854775807) : (L.keep p).ok := by
  unfold Lk.keep
  split
  · rename_i hc
    obtain ⟨h0, h1, h2⟩ := h
    refine ⟨h0, h1, fun k s hk => ?_⟩
    simp only [Lk.wants, Bool.and_eq_true, decide_eq_true_eq] at hc
    rcases set1_some hk with ⟨rfl, _⟩ | ⟨_, hk⟩
    · exact ⟨hc.1.1, by show p.f ≤ L.got + 64; omega, hf⟩
    · exact h2 k s hk
  · exact h

theorem drain_ok : ∀ (m : Nat) (f : Int → Option ByteArray) (g : Int), 0 ≤ g → g ≤ 9223372036854775807 → (∀ k s, f k = some s → g < k ∧ k ≤ g + m ∧ k ≤ 9223372036854775807) →
    g ≤ (drain m f g).2.1 ∧ (drain m f g).2.1 ≤ 9223372036854775807 ∧ (∀ k s, (drain m f g).1 k = some s → f k = some s ∧ (drain m f g).2.1 < k) ∧ (drain m f g).1 ((drain m f g).2.1 + 1) = none
  | 0, f, g, h0, h1, h => ⟨Int.le_refl _, h1, fun k s hk => ⟨hk, (h k s hk).1⟩, by
      show f (g + 1) = none
      cases hf : f (g + 1) with
      | none => rfl
      | some s => have := (h _ s hf).2.1; omega⟩
  | m + 1, f, g, h0, h1, h => by
    cases hf : f (g + 1) with
    | none => rw [drain_none hf]; exact ⟨Int.le_refl _, h1, fun k s hk => ⟨hk, (h k s hk).1⟩, hf⟩
    | some s =>
      rw [drain_some hf]
      have hg := h _ s hf
      have ih := drain_ok m (set1 f (g + 1) none) (g + 1) (by omega) hg.2.2 (fun k s hk => by
        rcases set1_some hk with ⟨_, h'⟩ | ⟨hne, h'⟩
        · cases h'
        · have := h k s h'; exact ⟨by omega, by omega, this.2.2⟩)
      refine ⟨by have := ih.1; show g ≤ (drain m (set1 f (g + 1) none) (g + 1)).2.1; omega, ih.2.1, fun k s hk => ?_, ih.2.2.2⟩
      obtain ⟨h3, h4⟩ := ih.2.2.1 k s hk
      rcases set1_some h3 with ⟨_, h'⟩ | ⟨hne, h'⟩
      · cases h'
      · exact ⟨h', h4⟩

theorem Lk.ok_taken {L : Lk} (h : L.ok) : L.taken.ok := by
  obtain ⟨h0, h1, h2⟩ := h
  obtain ⟨i1, i2, i3, i4⟩ := drain_ok 64 L.kept L.got h0 h1 (fun k s hk => by have := h2 k s hk; exact ⟨this.1, by omega, this.2.2⟩)
  refine ⟨by show 0 ≤ (drain 64 L.kept L.got).2.1; omega, i2, fun k s hk => ?_⟩
  obtain ⟨h3, h4⟩ := i3 k s hk
  have := h2 k s h3
  exact ⟨h4, by show k ≤ (drain 64 L.kept L.got).2.1 + 64; omega, this.2.2⟩

theorem Lk.ok_hear {L : Lk} (h : L.ok) (p : Pk) (hf : p.f ≤ 9223372036854775807) : (L.hear p).ok := by
  unfold Lk.hear
  split
  · exact h
  · split
    · exact h
    · split
      · exact h
      · split
        · exact h
        · exact Lk.ok_taken (Lk.ok_keep (L := (L.acked p).owing p) h p hf)
end Go.Proofs.Ytoeokdachojhjaa
