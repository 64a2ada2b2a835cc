/-
  Things of several things; a slice that has grown.
  No condition: every law states its own.
-/
import Derived.Test.YtmbkbkfcbloafaaMap
namespace Go.Proofs.Ytmbkbkfcbloafaa
open Go.RowKit
set_option linter.unusedSectionVars false
set_option linter.unusedSimpArgs false
set_option linter.unusedVariables false

/-- A slice that has grown, into its own block or into a new one. -/
theorem St.regrow {w0 w w' : World} {l : List Thing} (h : St w0 w l) (i : Nat) {E k n cap n' cap' : Nat} {a a' : Option Addr} {cs cs' : List Value} (hi : l[i]? = some (sl E k a n cap cs)) (hs : Sl w' E k a' n' cap' cs') (hm : Mod (fun x => own a = some x) w w')
    (hF : ∀ b, own a' = some b → own a = some b ∨ (w.heap.size ≤ b ∧ b < w'.heap.size)) : St w0 w' (l.set i (sl E k a' n' cap' cs')) := by
  obtain ⟨F1, ⟨hh, hF1⟩, hz, hk⟩ := h.at i hi
  exact hk w' (sl E k a' n' cap' cs') (fun x => own a' = some x) (hm.mono (fun x _ hx => (hF1 x).2 hx)) ⟨hs, fun _ => Iff.rfl⟩ (fun x hx => (hF x hx).imp (fun h => (hF1 x).2 h) (·.1))

/-- A new slice in a block of its own. -/
theorem St.newSlice {w0 w w' : World} {l : List Thing} (h : St w0 w l) {E k n cap : Nat} {a : Option Addr} {cs : List Value} (hm : Mod (fun _ => False) w w') (hs : Sl w' E k a n cap cs) (hF : ∀ b, own a = some b → w.heap.size ≤ b) : St w0 w' (sl E k a n cap cs :: l) :=
  h.cons (F := fun x => own a = some x) hm ⟨hs, fun _ => Iff.rfl⟩ hF

theorem St.nilSlice {w0 w : World} {l : List Thing} (h : St w0 w l) (E k : Nat) : St w0 w (sl E k none 0 0 [] :: l) :=
  h.newSlice (Mod.refl _ _) (Sl.nil _ _ _) (fun b hb => by simp [own] at hb)

/-- Several things as one. -/
def grp (ts : List Thing) : Thing where
  lies w F := Side w ts F
  keep := by
    intro w w' F h hs hk
    have : ∀ (ts : List Thing) (F : Nat → Prop), Side w ts F → (∀ x, x < w.heap.size → F x → w'.heap[x]? = w.heap[x]?) → Side w' ts F := by
      intro ts
      induction ts with
      | nil => exact fun F h _ => h
      | cons t ts ih =>
        rintro F ⟨F1, F2, h1, h2, hd, hF⟩ hk
        exact ⟨F1, F2, t.keep h1 hs (fun x hx hf => hk x hx ((hF x).2 (.inl hf))), ih F2 h2 (fun x hx hf => hk x hx ((hF x).2 (.inr hf))), hd, hF⟩
    exact this ts F h hk
  below := fun h x hx => Side.lt h x hx

theorem Side.appendTo {w : World} : ∀ {l m : List Thing} {F G : Nat → Prop}, Side w l F → Side w m G → (∀ x, F x → ¬ G x) → ∃ H, Side w (l ++ m) H ∧ ∀ x, H x ↔ F x ∨ G x
  | [], m, F, G, h, hm, hd => ⟨G, hm, fun x => ⟨.inr, fun h' => h'.elim (fun h' => absurd h' (h x)) id⟩⟩
  | t :: l, m, F, G, ⟨F1, F2, h1, h2, hd2, hF⟩, hm, hd => by
    obtain ⟨H, hs, hH⟩ := Side.appendTo h2 hm (fun x hx => hd x ((hF x).2 (.inr hx)))
    refine ⟨fun x => F1 x ∨ H x, ⟨F1, H, h1, hs, fun x hx h => ?_, fun _ => Iff.rfl⟩, fun x => ?_⟩
    · rcases (hH x).1 h with h' | h'
      · exact hd2 x hx h'
      · exact hd x ((hF x).2 (.inl hx)) h'
    · show F1 x ∨ H x ↔ F x ∨ G x
      rw [hH, hF, or_assoc]

theorem Side.parts {w : World} : ∀ {l m : List Thing} {H : Nat → Prop}, Side w (l ++ m) H → ∃ F G, Side w l F ∧ Side w m G ∧ (∀ x, F x → ¬ G x) ∧ ∀ x, H x ↔ F x ∨ G x
  | [], m, H, h => ⟨fun _ => False, H, fun _ h => h, h, fun _ h => h.elim, fun x => by simp⟩
  | t :: l, m, H, ⟨F1, F2, h1, h2, hd, hF⟩ => by
    obtain ⟨F, G, hs, hm, hd2, hH⟩ := Side.parts h2
    refine ⟨fun x => F1 x ∨ F x, G, ⟨F1, F, h1, hs, fun x hx h => hd x hx ((hH x).2 (.inl h)), fun _ => Iff.rfl⟩, hm, fun x hx h => ?_, fun x => ?_⟩
    · rcases hx with hx | hx
      · exact hd x hx ((hH x).2 (.inr h))
      · exact hd2 x hx h
    · show H x ↔ (F1 x ∨ F x) ∨ G x
      rw [hF, hH, or_assoc]

theorem St.ungrp {w0 w : World} {ts l : List Thing} (h : St w0 w (grp ts :: l)) : St w0 w (ts ++ l) := by
  obtain ⟨h0, F, ⟨F1, F2, h1, h2, hd, hF⟩, hz⟩ := h
  obtain ⟨H, hs, hH⟩ := Side.appendTo (show Side w ts F1 from h1) h2 hd
  exact ⟨h0, H, hs, fun x hx => hz x ((hF x).2 ((hH x).1 hx))⟩
theorem St.regrp {w0 w : World} (ts : List Thing) {l : List Thing} (h : St w0 w (ts ++ l)) : St w0 w (grp ts :: l) := by
  obtain ⟨h0, H, hs, hz⟩ := h
  obtain ⟨F, G, h1, h2, hd, hH⟩ := Side.parts hs
  exact ⟨h0, H, ⟨F, G, h1, h2, hd, hH⟩, hz⟩

/-- A thing of which something is not told. -/
def some1 {α : Type} (t : α → Thing) : Thing where
  lies w F := ∃ a, (t a).lies w F
  keep := fun ⟨a, h⟩ hs hk => ⟨a, (t a).keep h hs hk⟩
  below := fun ⟨a, h⟩ x hx => (t a).below h x hx

theorem St.untell {w0 w : World} {α : Type} {t : α → Thing} {l : List Thing} (a : α) (h : St w0 w (t a :: l)) : St w0 w (some1 t :: l) := by
  obtain ⟨h0, F, ⟨F1, F2, h1, h2, hd, hF⟩, hz⟩ := h
  exact ⟨h0, F, ⟨F1, F2, ⟨a, h1⟩, h2, hd, hF⟩, hz⟩
theorem St.tell {w0 w : World} {α : Type} {t : α → Thing} {l : List Thing} (h : St w0 w (some1 t :: l)) : ∃ a, St w0 w (t a :: l) := by
  obtain ⟨h0, F, ⟨F1, F2, ⟨a, h1⟩, h2, hd, hF⟩, hz⟩ := h
  exact ⟨a, h0, F, ⟨F1, F2, h1, h2, hd, hF⟩, hz⟩

/-- A box and a slice lie in different blocks. -/
theorem St.apart2 {w0 w : World} {tb pb : Nat} {c d : Array Value} {T U : TypeId} {E k n cap : Nat} {a : Option Addr} {cs : List Value} {l : List Thing} (h : St w0 w (bx tb c T :: bx pb d U :: sl E k a n cap cs :: l)) : own a ≠ some tb := by
  obtain ⟨h0, F, ⟨F1, F2, ⟨_, h1⟩, ⟨G1, G2, _, ⟨H1, H2, ⟨_, h3⟩, _, _, hF3⟩, _, hF2⟩, hd, hF⟩, hz⟩ := h
  intro he
  exact hd tb ((h1 tb).2 rfl) ((hF2 tb).2 (.inr ((hF3 tb).2 (.inl ((h3 tb).2 he)))))
end Go.Proofs.Ytmbkbkfcbloafaa
