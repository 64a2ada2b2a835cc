/-
  Contracts and plain laws of KSl.
  Conditions: each law states its own.
-/
import Derived.Test.YtonnbkebjeoflaaGreatDoorJ15
set_option linter.unusedSectionVars false
set_option linter.unusedSimpArgs false
set_option linter.unusedVariables false
set_option maxRecDepth 100000
namespace Go.Proofs.YtonnbkebjeoflaaGreatDoor
open Go.RowKit Go.Maps
structure SlR (β : Type) where
 xs : List β
 a : Option Addr
 cap : Nat
def SlR.val {β : Type} (r : SlR β) : Value := .slice r.a r.xs.length r.cap
def SlR.own {β : Type} (E K : Nat) (f : β → List Value) (r : SlR β) : Thing := sl E K r.a r.xs.length r.cap (r.xs.flatMap f)
section
variable {P : Program} {k : TypeId} {α β : Type} [DecidableEq α]
noncomputable def msl (B : KB P k α) (E K : Nat) (f : β → List Value) (b : Nat) (M : List (α × List β)) : Thing :=
 some1 fun R : List (α × SlR β) => grp [pr (M = R.map fun p => (p.1, p.2.xs)), mpl B b (R.map fun p => (p.1, p.2.val)), grp (R.map fun p => p.2.own E K f)]
variable {B : KB P k α} {E K b : Nat} {f : β → List Value} {M : List (α × List β)} {w0 w : World} {l : List Thing}
theorem St.openMsl (h : St w0 w (msl B E K f b M :: l)) : ∃ R : List (α × SlR β), M = (R.map fun p => (p.1, p.2.xs)) ∧ (R.map (·.1)).Nodup ∧
 St w0 w (mpl B b (R.map fun p => (p.1, p.2.val)) :: grp (R.map fun p => p.2.own E K f) :: l) := by
 obtain ⟨R, h⟩ := h.tell
 have h := h.ungrp
 have hn := (h.mapL 1 rfl).nodup
 rw [List.map_map] at hn
 exact ⟨R, h.pure, hn, h.tail⟩
theorem St.shutMsl (R : List (α × SlR β)) (hM : M = (R.map fun p => (p.1, p.2.xs)))
 (h : St w0 w (mpl B b (R.map fun p => (p.1, p.2.val)) :: grp (R.map fun p => p.2.own E K f) :: l)) : St w0 w (msl B E K f b M :: l) :=
 St.untell R (St.regrp [_, _, _] (h.told hM))
theorem slr_get {R : List (α × SlR β)} (hM : M = (R.map fun p => (p.1, p.2.xs))) (x : α) : getK M x = (getK R x).map SlR.xs := by rw [hM, getK_map]
theorem slr_look {R : List (α × SlR β)} {x : α} {r : SlR β} (h : (getK R x).getD ⟨[], none, 0⟩ = r) : (getK (R.map fun p => (p.1, p.2.val)) x).getD (.slice none 0 0) = r.val := by
 rw [getK_map]
 cases hg : getK R x with
 | none => rw [hg] at h; subst h; rfl
 | some u => rw [hg] at h; subst h; rfl
theorem St.slOut {R : List (α × SlR β)} (hn : (R.map (·.1)).Nodup) {x : α} {r : SlR β} (hr : (getK R x).getD ⟨[], none, 0⟩ = r) (h : St w0 w (grp (R.map fun p => p.2.own E K f) :: l)) :
 St w0 w (r.own E K f :: grp ((delK R x).map fun p => p.2.own E K f) :: l) := by
 cases hg : getK R x with
 | none =>
   rw [hg] at hr
   subst hr
   rw [delK_none hg]
   exact h.nilSlice E K
 | some u =>
   rw [hg] at hr
   subst hr
   have h1 := (h.grpPerm ((perm_delK hn hg).map (fun p : α × SlR β => p.2.own E K f)))
   rw [List.map_cons] at h1
   have h2 := St.ungrp h1
   exact (St.regrp ((delK R x).map fun p => p.2.own E K f) (h2.perm (List.perm_append_comm_assoc [_] _ l))).perm (List.Perm.swap _ _ _)
theorem St.slIn {R : List (α × SlR β)} {x : α} {r : SlR β} (hM : M = (R.map fun p => (p.1, p.2.xs)))
 (h : St w0 w (mpl B b (putK (R.map fun p => (p.1, p.2.val)) x r.val) :: r.own E K f :: grp ((delK R x).map fun p => p.2.own E K f) :: l)) : St w0 w (msl B E K f b (putK M x r.xs) :: l) := by
 refine St.shutMsl (putK R x r) ?_ ?_
 ·rw [hM]; exact putK_map SlR.xs R x r
 ·have e : (putK (R.map fun p => (p.1, p.2.val)) x r.val) = (putK R x r).map fun p => (p.1, p.2.val) := putK_map SlR.val R x r
  rw [e] at h
  have h1 := h.pick 1 rfl
  have h2 : St w0 w (r.own E K f :: grp ((delK R x).map fun p => p.2.own E K f) :: mpl B b ((putK R x r).map fun p => (p.1, p.2.val)) :: l) := h.perm (List.perm_append_comm_assoc [_] [_, _] l)
  have h3 : St w0 w (grp ((delK R x).map fun p => p.2.own E K f) :: r.own E K f :: mpl B b ((putK R x r).map fun p => (p.1, p.2.val)) :: l) := h2.perm (List.Perm.swap _ _ _)
  have h4 := h3.ungrp
  have h5 : St w0 w (r.own E K f :: (((delK R x).map fun p => p.2.own E K f) ++ (mpl B b ((putK R x r).map fun p => (p.1, p.2.val)) :: l))) := h4.perm (List.perm_append_comm_assoc _ [_] _)
  have h6 := St.regrp (r.own E K f :: (delK R x).map fun p => p.2.own E K f) h5
  have hq : (r.own E K f :: ((delK R x).map fun p => p.2.own E K f)).Perm ((putK R x r).map fun p => p.2.own E K f) := ((perm_putK (M := R) x r).symm.map (fun p : α × SlR β => p.2.own E K f))
  exact (h6.grpPerm hq).perm (List.Perm.swap _ _ _)
end
end Go.Proofs.YtonnbkebjeoflaaGreatDoor
