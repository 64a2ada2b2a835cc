/-
  Maps keyed by int, ranged over: what is still to come as a function of the key; the two operations of such a loop.
  No condition: every law states its own.
-/
import Derived.Test.YtmikenagaihoiaaMap
import Derived.Maps.RangeWalk
namespace Go.Proofs.Ytmikenagaihoiaa
open Go.RowKit Go.Maps
set_option linter.unusedSectionVars false
set_option linter.unusedSimpArgs false
set_option linter.unusedVariables false

/-- Block r ranges over the map in block b, of which 'left' tells the keys still to come. -/
def RangeAt (P : Program) (k : TypeId) (w : World) (b r n : Nat) (f : Int → Option Value) (left : Int → Bool) (cnt : Nat) : Prop :=
  ∃ (D : DataW Value) (L : Lit → Bool), w.ranges P k raw b r n D L cnt ∧ Tells D f ∧ ∀ x, left x = L (key x)

theorem RangeAt.mapAt {P : Program} {k : TypeId} {w : World} {b r n : Nat} {f : Int → Option Value} {left : Int → Bool} {cnt : Nat} (h : RangeAt P k w b r n f left cnt) : MapAt P k w b n f := by
  obtain ⟨D, L, h, hT, _⟩ := h; exact ⟨D, h.owns, hT⟩
theorem RangeAt.lt {P : Program} {k : TypeId} {w : World} {b r n : Nat} {f : Int → Option Value} {left : Int → Bool} {cnt : Nat} (h : RangeAt P k w b r n f left cnt) : b < w.heap.size ∧ r < w.heap.size := by
  refine ⟨h.mapAt.lt, ?_⟩
  obtain ⟨D, L, h, _, _⟩ := h; exact h.lt
theorem RangeAt.kept {P : Program} {k : TypeId} {w w' : World} {b r n : Nat} {f : Int → Option Value} {left : Int → Bool} {cnt : Nat} (h : RangeAt P k w b r n f left cnt) (hb : w'.heap[b]? = w.heap[b]?) (hr : w'.heap[r]? = w.heap[r]?) : RangeAt P k w' b r n f left cnt := by
  obtain ⟨D, L, ⟨es, clock, since, seen, c0, h1, h2, h3, h4, h5, h6⟩, hT, hl⟩ := h
  exact ⟨D, L, ⟨es, clock, since, seen, c0, hb.trans h1, h2, h3, h4, hr.trans h5, h6⟩, hT, hl⟩
theorem RangeAt.left_eq {P : Program} {k : TypeId} {w : World} {b r n : Nat} {f : Int → Option Value} {left : Int → Bool} {cnt : Nat} (h : RangeAt P k w b r n f left cnt) : w.rangeLeft b r = cnt := by
  obtain ⟨D, L, h, _, _⟩ := h; exact h.left_eq

theorem key_keyOf {P : Program} {k : TypeId} (hk : P.underlying k = some (.int .i64)) {v : Value} {kl : Lit} (h : keyOf P k v = some kl) : ∃ x, v = .int .i64 x ∧ kl = key x ∧ -9223372036854775808 ≤ x ∧ x ≤ 9223372036854775807 := by
  obtain ⟨x, h1, h2, h3⟩ := Maps.keyOf_int_inv hk h
  simp [Lit.wf, IntKind.min, IntKind.max, IntKind.signed, IntKind.bits] at h3
  exact ⟨x, h1, h2, by omega, by omega⟩

theorem sameKey_key (x y : Int) : (key x).sameKey (key y) = (x == y) := by
  by_cases h : x = y
  · subst h
    have : (key x).sameKey (key x) = true := by unfold key; simp [Lit.sameKey]
    rw [this]; simp
  · rw [sameKey_ne (key_ne h)]; simp [h]

/-- A map that is ranged over. -/
def rn (P : Program) (k : TypeId) (b r n : Nat) (f : Int → Option Value) (left : Int → Bool) (cnt : Nat) : Thing where
  lies w F := RangeAt P k w b r n f left cnt ∧ ∀ x, F x ↔ x = b ∨ x = r
  keep := fun ⟨h, hF⟩ _ hk => ⟨h.kept (hk b h.lt.1 ((hF _).2 (.inl rfl))) (hk r h.lt.2 ((hF _).2 (.inr rfl))), hF⟩
  below := fun ⟨h, hF⟩ x hx => by
    rcases (hF x).1 hx with e | e
    · rw [e]; exact h.lt.1
    · rw [e]; exact h.lt.2

theorem St.rangeAt {w0 w : World} {l : List Thing} (h : St w0 w l) (i : Nat) {P : Program} {k : TypeId} {b r n : Nat} {f : Int → Option Value} {left : Int → Bool} {cnt : Nat} (hi : l[i]? = some (rn P k b r n f left cnt)) : RangeAt P k w b r n f left cnt := by
  obtain ⟨F1, hl, _⟩ := h.at i hi
  exact hl.1
/-- The range goes on. -/
theorem St.goOn {w0 w w' : World} {l : List Thing} (h : St w0 w l) (i : Nat) {P : Program} {k : TypeId} {b r n : Nat} {f : Int → Option Value} {left left' : Int → Bool} {cnt cnt' : Nat} (hi : l[i]? = some (rn P k b r n f left cnt)) (hw : RangeAt P k w' b r n f left' cnt') (hm : Mod (fun x => x = r) w w') : St w0 w' (l.set i (rn P k b r n f left' cnt')) := by
  obtain ⟨F1, ⟨hh, hF⟩, hz, hk⟩ := h.at i hi
  exact hk w' (rn P k b r n f left' cnt') F1 (hm.mono (fun x _ hx => (hF x).2 (.inr hx))) ⟨hw, hF⟩ (fun x hx => .inl hx)
/-- The range is over. -/
theorem St.ranged {w0 w : World} {l : List Thing} (h : St w0 w l) (i : Nat) {P : Program} {k : TypeId} {b r n : Nat} {f : Int → Option Value} {left : Int → Bool} {cnt : Nat} (hi : l[i]? = some (rn P k b r n f left cnt)) : St w0 w (l.set i (mp P k b n f)) := by
  obtain ⟨F1, ⟨hh, hF⟩, hz, hk⟩ := h.at i hi
  exact hk w (mp P k b n f) (fun x => x = b) (Mod.refl _ _) ⟨hh.mapAt, fun _ => Iff.rfl⟩ (fun x hx => .inl ((hF x).2 (.inl hx)))
/-- A range begins. -/
theorem St.range {w0 w w' : World} {l : List Thing} (h : St w0 w l) (i : Nat) {P : Program} {k : TypeId} {b n : Nat} {f : Int → Option Value} {left : Int → Bool} {cnt : Nat} (hi : l[i]? = some (mp P k b n f)) (hw : RangeAt P k w' b w.heap.size n f left cnt) (hm : Mod (fun _ => False) w w') : St w0 w' (l.set i (rn P k b w.heap.size n f left cnt)) := by
  obtain ⟨F1, ⟨hh, hF⟩, hz, hk⟩ := h.at i hi
  refine hk w' (rn P k b w.heap.size n f left cnt) (fun x => x = b ∨ x = w.heap.size) (hm.mono (fun x _ hx => hx.elim)) ⟨hw, fun _ => Iff.rfl⟩ (fun x hx => ?_)
  rcases hx with hx | hx
  · exact .inl ((hF x).2 hx)
  · exact .inr (by rw [hx]; exact Nat.le_refl _)

section
variable {P : Program} {ops : Array Oper} {rest : List Oper} {dst : Option Tmp} {ty0 : TypeId} {pos : String} {after : Array Edge} {a : Act} {w : World} {Q : Exit → Act → World → Prop}
variable {k e t : TypeId} (hk : P.underlying k = some (.int .i64))
include hk

/-- 'range m'. -/
theorem wpList_range (ht : P.underlying t = some (.map k e)) (b n : Nat) (f : Int → Option Value) (h : MapAt P k w b n f) {m : Operand} (hm : a.eval m = .map (some b))
    (hn : ∀ w' cnt, RangeAt P k w' b w.heap.size n f (fun x => (f x).isSome) cnt → Mod (fun _ => False) w w' → w'.heap.size = w.heap.size + 1 → wpList P ops Q rest (a.put dst (.pointer (some ⟨w.heap.size, 0, none⟩))) w') :
    wpList P ops Q (⟨dst, .range t m, ty0, pos, after, none⟩ :: rest) a w := by
  obtain ⟨D, hD, hT⟩ := h
  refine wpList_range_own w rfl m t rfl k e (int_keyed hk) ht raw b n D hm hD fun w' h1 h2 h3 => ?_
  refine hn w' _ ⟨D, _, h1, hT, fun x => ?_⟩ ⟨h2.os, h2.tape, h2.output, h2.size, fun x hx _ => h2.block x hx (by simp)⟩ h3
  cases hf : f x with
  | none => rw [(hT x).1 hf]; show (f x).isSome = _; rw [hf]; rfl
  | some v => rw [((hT x).2 v hf).1]; show (f x).isSome = _; rw [hf]; rfl

/-- The step, elements of one shape. -/
theorem wpList_next {β : Type} (mk : β → Value) (b r n : Nat) (f : Int → Option Value) (left : Int → Bool) (cnt : Nat) (h : RangeAt P k w b r n f left cnt) (hs : ∀ x v, f x = some v → ∃ c, v = mk c) {it : Operand} (hit : a.eval it = .pointer (some ⟨r, 0, none⟩))
    (hDone : (∀ x, left x = false) → wpList P ops Q rest (a.put dst (.tuple #[.bool false])) w)
    (hMore : ∀ (x : Int) (c : β) (w' : World) (cnt' : Nat), f x = some (mk c) → left x = true → RangeAt P k w' b r n f (fun z => left z && z != x) cnt' → cnt' < cnt → Mod (fun x => x = r) w w' → w'.heap.size = w.heap.size →
      (Instr.entry (.pointer (some ⟨r, 0, none⟩))).run P w' = .ok (.tuple #[.int .i64 x, mk c]) w' → wpList P ops Q rest (a.put dst (.tuple #[.bool true, .int .i64 x, mk c])) w') :
    wpList P ops Q (⟨dst, .next it false, ty0, pos, after, none⟩ :: rest) a w := by
  obtain ⟨D, L, hr, hT, hl⟩ := h
  refine wpList_plain rfl fun K' hK' => ?_
  unfold Oper.wp
  rcases hr.next (int_keyed hk) ty0 with ⟨h0, hl0, hrun⟩ | ⟨ky, v, kl, y, w', cnt', hkey, hlk, hv, hat, hrun, hrg, hlt, hgr, hsz, hen⟩
  · simp [execOp, hit, hrun, Result.andThen]
    exact hK' _ _ (hDone fun x => by rw [hl]; exact hl0 _)
  · obtain ⟨x, rfl, rfl, hx0, hx1⟩ := key_keyOf hk hkey
    have hy : y = (.held v, []) := by simp only [raw, Option.some.injEq] at hv; exact hv.symm
    subst hy
    have hf : f x = some v := by
      cases hfx : f x with
      | none =>
        have h1 := (hT x).1 hfx
        have h2 := has_true_of_atKey hat
        rw [h1] at h2; cases h2
      | some u =>
        have h1 := ((hT x).2 u hfx).2 (.held undef)
        rw [hat] at h1
        injection h1 with h1
        rw [h1]
    obtain ⟨c, rfl⟩ := hs x v hf
    simp [execOp, hit, hrun, Result.andThen]
    refine hK' _ _ (hMore x c w' cnt' hf (by rw [hl]; exact hlk) ⟨D, _, hrg, hT, fun z => ?_⟩ hlt (grown_mod hgr) hsz hen)
    show (left z && z != x) = (L (key z) && !(key z).sameKey (key x))
    rw [hl, sameKey_key]
    rfl
end
end Go.Proofs.Ytmikenagaihoiaa
