/-
  Contracts and plain laws of KMap, PathP, AclP, TreeP.
  Conditions: each law states its own.
-/
import Derived.Maps.OwnSet
import Derived.Maps.OwnOps
import Derived.Maps.Own
import Derived.Maps.RangeWalk
import Derived.Sort.KeysCollected
import Derived.WalkKit
import Derived.Test.YtonnbkebjeoflaaGreatDoorJ6
set_option linter.unusedSectionVars false
set_option linter.unusedSimpArgs false
set_option linter.unusedVariables false
namespace Go.Proofs.YtonnbkebjeoflaaGreatDoor
open Go.RowKit Go.Maps
section
variable {α β : Type} [DecidableEq α]
def getK (M : List (α × β)) (x : α) : Option β := (M.find? fun p => decide (p.1 = x)).map (·.2)
def delK (M : List (α × β)) (x : α) : List (α × β) := M.filter fun p => decide (p.1 ≠ x)
def putK (M : List (α × β)) (x : α) (v : β) : List (α × β) := delK M x ++ [(x, v)]
theorem getK_nil (x : α) : getK ([] : List (α × β)) x = none := rfl
theorem getK_cons (p : α × β) (M : List (α × β)) (x : α) : getK (p :: M) x = if p.1 = x then some p.2 else getK M x := by
 unfold getK
 rw [List.find?_cons]
 by_cases h : p.1 = x
 ·simp [h]
 ·simp [h]
theorem getK_append (M N : List (α × β)) (x : α) : getK (M ++ N) x = (getK M x).or (getK N x) := by
 induction M with
 | nil => rfl
 | cons p M ih =>
   rw [List.cons_append, getK_cons, getK_cons, ih]
   split <;> rfl
theorem getK_delK (M : List (α × β)) (x y : α) : getK (delK M x) y = if y = x then none else getK M y := by
 induction M with
 | nil => simp [delK, getK_nil]
 | cons p M ih =>
   unfold delK at ih ⊢
   rw [List.filter_cons]
   by_cases h : p.1 = x
   ·simp only [h, ne_eq, not_true, decide_false, Bool.false_eq_true, if_false]
    rw [ih, getK_cons]
    by_cases hy : y = x
    ·simp [hy]
    ·rw [if_neg hy, if_neg hy, if_neg (fun e => hy (by rw [← e, h]))]
   ·simp only [ne_eq, h, not_false_iff, decide_true, if_true]
    rw [getK_cons, getK_cons, ih]
    by_cases hp : p.1 = y
    ·rw [if_pos hp, if_pos hp, if_neg (fun e => h (hp.trans e))]
    ·rw [if_neg hp, if_neg hp]
theorem getK_putK (M : List (α × β)) (x : α) (v : β) (y : α) : getK (putK M x v) y = if y = x then some v else getK M y := by
 unfold putK
 rw [getK_append, getK_delK, getK_cons, getK_nil]
 by_cases hy : y = x
 ·simp [hy]
 ·simp only [if_neg hy, if_neg (fun e => hy (Eq.symm e))]
  cases getK M y <;> rfl
theorem getK_some_mem {M : List (α × β)} {x : α} {v : β} (h : getK M x = some v) : (x, v) ∈ M := by
 unfold getK at h
 obtain ⟨p, hp, rfl⟩ := Option.map_eq_some_iff.1 h
 have h1 := List.find?_some hp
 simp only [decide_eq_true_eq] at h1
 have := List.mem_of_find?_eq_some hp
 rw [← h1]
 exact this
theorem getK_none {M : List (α × β)} {x : α} : getK M x = none ↔ x ∉ M.map (·.1) := by
 induction M with
 | nil => simp [getK_nil]
 | cons p M ih =>
   rw [getK_cons, List.map_cons, List.mem_cons]
   by_cases h : p.1 = x
   ·simp [h]
   ·rw [if_neg h, ih]
    simp [Ne.symm h, fun e : x = p.1 => h e.symm]
theorem getK_of_mem {M : List (α × β)} (hn : (M.map (·.1)).Nodup) {p : α × β} (h : p ∈ M) : getK M p.1 = some p.2 := by
 induction M with
 | nil => cases h
 | cons q M ih =>
   rw [List.map_cons, List.nodup_cons] at hn
   rw [getK_cons]
   rcases List.mem_cons.1 h with rfl | h
   ·rw [if_pos rfl]
   ·rw [if_neg, ih hn.2 h]
    intro e
    exact hn.1 (by rw [e]; exact List.mem_map_of_mem h)
theorem delK_sub (M : List (α × β)) (x : α) : (delK M x).Sublist M := List.filter_sublist
theorem delK_nodup {M : List (α × β)} (hn : (M.map (·.1)).Nodup) (x : α) : ((delK M x).map (·.1)).Nodup := hn.sublist ((delK_sub M x).map _)
theorem putK_nodup {M : List (α × β)} (hn : (M.map (·.1)).Nodup) (x : α) (v : β) : ((putK M x v).map (·.1)).Nodup := by
 unfold putK
 rw [List.map_append, List.map_cons, List.map_nil, List.nodup_append]
 refine ⟨delK_nodup hn x, by simp, fun a ha b hb => ?_⟩
 rw [List.mem_singleton] at hb
 subst hb
 obtain ⟨p, hp, rfl⟩ := List.mem_map.1 ha
 have := (List.mem_filter.1 hp).2
 simpa using this
theorem delK_none {M : List (α × β)} {x : α} (h : getK M x = none) : delK M x = M := by
 unfold delK
 refine List.filter_eq_self.2 fun p hp => ?_
 simp only [decide_eq_true_eq]
 intro e
 exact getK_none.1 h (by rw [← e]; exact List.mem_map_of_mem hp)
theorem delK_length {M : List (α × β)} (hn : (M.map (·.1)).Nodup) (x : α) : (delK M x).length + (if (getK M x).isSome then 1 else 0) = M.length := by
 induction M with
 | nil => rfl
 | cons p M ih =>
   rw [List.map_cons, List.nodup_cons] at hn
   have h1 := ih hn.2
   rw [getK_cons]
   unfold delK at h1 ⊢
   rw [List.filter_cons]
   by_cases h : p.1 = x
   ·have h0 : getK M x = none := getK_none.2 (by rw [← h]; exact hn.1)
    rw [h0] at h1
    simp only [h, ne_eq, not_true, decide_false, Bool.false_eq_true, if_false, if_true, Option.isSome_some, List.length_cons]
    simp only [Option.isSome_none, Bool.false_eq_true, if_false, Nat.add_zero] at h1
    simp only [ne_eq] at h1
    omega
   ·simp only [ne_eq, h, not_false_iff, decide_true, if_true, if_false, List.length_cons]
    simp only [ne_eq] at h1
    rw [Nat.add_right_comm, h1]
theorem putK_length {M : List (α × β)} (hn : (M.map (·.1)).Nodup) (x : α) (v : β) : (putK M x v).length = if (getK M x).isSome then M.length else M.length + 1 := by
 have := delK_length hn x
 unfold putK
 rw [List.length_append, List.length_singleton]
 split
 ·rename_i h; rw [if_pos h] at this; omega
 ·rename_i h; rw [if_neg h] at this; omega
theorem getK_map {γ : Type} (g : β → γ) (M : List (α × β)) (x : α) : getK (M.map fun p => (p.1, g p.2)) x = (getK M x).map g := by
 induction M with
 | nil => rfl
 | cons p M ih =>
   rw [List.map_cons, getK_cons, getK_cons, ih]
   split <;> rfl
theorem delK_map {γ : Type} (g : β → γ) (M : List (α × β)) (x : α) : delK (M.map fun p => (p.1, g p.2)) x = (delK M x).map fun p => (p.1, g p.2) := by
 unfold delK
 rw [List.filter_map]
 rfl
theorem putK_map {γ : Type} (g : β → γ) (M : List (α × β)) (x : α) (v : β) : putK (M.map fun p => (p.1, g p.2)) x (g v) = (putK M x v).map fun p => (p.1, g p.2) := by
 unfold putK
 rw [delK_map, List.map_append]
 rfl
end
structure KB (P : Program) (k : TypeId) (α : Type) where
 inj : α → Value
 lit : α → Lit
 ok : α → Prop
 keyed : Keyed P k
 key : ∀ {x}, ok x → keyOf P k (inj x) = some (lit x)
 inv : ∀ {v kl}, keyOf P k v = some kl → ∃ x, ok x ∧ v = inj x ∧ kl = lit x
 ne : ∀ {x y}, x ≠ y → lit x ≠ lit y
 is : ∀ x, WideAt.IsKeyLit (lit x)
def kbInt {P : Program} {k : TypeId} (hk : P.underlying k = some (.int .i64)) : KB P k Int where
 inj := Value.int .i64
 lit := Lit.int .i64
 ok x := -9223372036854775808 ≤ x ∧ x ≤ 9223372036854775807
 keyed := int_keyed hk
 key := fun {x} h => keyOf_int_mk hk (by simp [Lit.wf, IntKind.min, IntKind.max, IntKind.signed, IntKind.bits]; omega)
 inv := fun {v kl} h => by
  obtain ⟨x, h1, h2, h3⟩ := Maps.keyOf_int_inv hk h
  simp [Lit.wf, IntKind.min, IntKind.max, IntKind.signed, IntKind.bits] at h3
  exact ⟨x, by omega, h1, h2⟩
 ne := fun h e => by injection e with _ e; exact h e
 is := fun x => by simp [WideAt.IsKeyLit]
def kbStr {P : Program} {k : TypeId} (hk : P.underlying k = some .string) : KB P k ByteArray where
 inj := Value.string
 lit x := .string x.data.toList
 ok x := x.size ≤ maxLen
 keyed := string_keyed hk
 key := fun {x} h => by simp [keyOf, hk, mapKey, h]
 inv := fun {v kl} h => by
  cases v <;> simp [keyOf, hk, mapKey] at h
  rename_i s
  exact ⟨s, h.1, rfl, h.2.symm⟩
 ne := fun {x y} h e => by
  injection e with e
  exact h (ByteArray.ext (Array.toList_inj.1 e))
 is := fun x => by simp [WideAt.IsKeyLit]
section
variable {P : Program} {k : TypeId} {α : Type} [DecidableEq α] (B : KB P k α)
structure KTells (D : DataW Value) (M : List (α × Value)) : Prop where
 nodup : (M.map (·.1)).Nodup
 ok : ∀ p ∈ M, B.ok p.1
 size : Maps.size D = M.length
 no : ∀ x, getK M x = none → Maps.has D (B.lit x) = false
 yes : ∀ x v, getK M x = some v → Maps.has D (B.lit x) = true ∧ ∀ z, D.atKey (B.lit x) z = .held v
def MapL (w : World) (b : Nat) (M : List (α × Value)) : Prop := ∃ D : DataW Value, w.ownsMap P k raw b M.length D ∧ KTells B D M
theorem exact_size {w : World} {b n m : Nat} {D : DataW Value} (h : w.ownsMap P k raw b n D) (hm : Maps.size D = m) : w.ownsMap P k raw b m D := by
 obtain ⟨es, clock, hb, F, hs, rfl⟩ := h
 refine ⟨es, clock, hb, F, ?_, rfl⟩
 rw [← hm, size_eq, length_read]
 exact Nat.le_refl _
theorem MapL.made (w : World) : MapL B (w.alloc (.map #[] 0)) w.heap.size [] :=
 ⟨_, World.ownsMap_made w P k raw, ⟨List.nodup_nil, fun _ h => absurd h List.not_mem_nil, rfl, fun _ _ => rfl, fun x v h => by simp [getK_nil] at h⟩⟩
variable {B}
variable {w w' : World} {b : Nat} {M : List (α × Value)}
theorem MapL.lt (h : MapL B w b M) : b < w.heap.size := by obtain ⟨D, h, _⟩ := h; exact h.lt
theorem MapL.kept (h : MapL B w b M) (hk : w'.heap[b]? = w.heap[b]?) : MapL B w' b M := by
 obtain ⟨D, ⟨es, clock, hb, F, hs, hD⟩, ht⟩ := h
 exact ⟨D, ⟨es, clock, hk.trans hb, F, hs, hD⟩, ht⟩
theorem MapL.nodup (h : MapL B w b M) : (M.map (·.1)).Nodup := by obtain ⟨D, _, h⟩ := h; exact h.nodup
theorem MapL.oks (h : MapL B w b M) : ∀ p ∈ M, B.ok p.1 := by obtain ⟨D, _, h⟩ := h; exact h.ok
theorem grown_modK {b : Nat} (h : w.grownBy w' (some b)) : Mod (fun x => x = b) w w' :=
 ⟨h.os, h.tape, h.output, h.size, fun x hx hn => h.block x hx (fun e => hn (by injection e))⟩
variable {e t : TypeId} (ht : P.underlying t = some (.map k e))
include ht
theorem MapL.look (h : MapL B w b M) (c : Bool) {z : Value} (hz : (zeroValue e).run P w = .ok z w) {x : α} (hx : B.ok x) :
 (Instr.lookup t (.map (some b)) (B.inj x) c).run P w = .ok (if c then .tuple #[(getK M x).getD z, .bool (getK M x).isSome] else (getK M x).getD z) w := by
 obtain ⟨D, ⟨es, clock, hb, F, hs, rfl⟩, hT⟩ := h
 have hkey := B.key hx
 rcases Maps.fit_look c B.keyed ht hz hb F hkey with ⟨hrun, _, hat⟩ | ⟨e0, y, _, _, hrun, hRv, hat, _⟩
 ·cases hf : getK M x with
  | none => rw [hrun]; cases c <;> rfl
  | some v =>
    have := (hT.yes x v hf).1
    rw [Maps.has_false_of_atKey hat] at this
    cases this
 ·cases hf : getK M x with
  | none =>
    have := hT.no x hf
    rw [Maps.has_true_of_atKey hat] at this
    cases this
  | some v =>
    have h3 := (hT.yes x v hf).2 (.held undef)
    rw [hat] at h3
    have h4 : raw e0.val = some y := hRv
    simp only [raw, Option.some.injEq] at h4
    rw [← h4] at h3
    injection h3 with h3
    rw [hrun, h3]; cases c <;> rfl
theorem MapL.store (h : MapL B w b M) (hn : M.length < maxLen) {x : α} (hx : B.ok x) (v : Value) :
 ∃ w', (Instr.mapUpdate t (.map (some b)) (B.inj x) v).run P w = .ok () w' ∧ MapL B w' b (putK M x v) ∧ Mod (fun x => x = b) w w' := by
 obtain ⟨D, h, hT⟩ := h
 have hkey := B.key hx
 obtain ⟨w', hrun, h', hg⟩ := h.store B.keyed ht hn hkey (d := .held v) (ps := []) (R := raw) (val := v) rfl
 have hsz : Maps.size (D.put (B.lit x) (.held v)) = (putK M x v).length := by
  rw [size_put (h.tidy B.keyed), putK_length hT.nodup, hT.size]
  cases hf : getK M x with
  | none => rw [hT.no x hf]; rfl
  | some u => rw [(hT.yes x u hf).1]; rfl
 refine ⟨w', hrun, ⟨_, exact_size h' hsz, ⟨putK_nodup hT.nodup x v, fun p hp => ?_, hsz, fun y hf => ?_, fun y u hf => ?_⟩⟩, grown_modK hg.grown⟩
 ·unfold putK at hp
  rcases List.mem_append.1 hp with h1 | h1
  ·exact hT.ok p ((delK_sub M x).subset h1)
  ·rw [List.mem_singleton.1 h1]; exact hx
 ·rw [getK_putK] at hf
  by_cases hy : y = x
  ·rw [if_pos hy] at hf; cases hf
  ·rw [if_neg hy] at hf
   rw [has_put_other (B.ne hy)]
   exact hT.no y hf
 ·rw [getK_putK] at hf
  by_cases hy : y = x
  ·subst hy
   rw [if_pos rfl, Option.some.injEq] at hf
   subst hf
   exact ⟨has_put_same h.isMap (B.is _) _, fun z => atKey_put_same h.isMap (B.is _) _ z⟩
  ·rw [if_neg hy] at hf
   exact ⟨by rw [has_put_other (B.ne hy)]; exact (hT.yes y u hf).1, fun z => by rw [atKey_put_other (B.ne hy)]; exact (hT.yes y u hf).2 z⟩
theorem MapL.del (h : MapL B w b M) {x : α} (hx : B.ok x) (ty : TypeId) :
 ∃ w', (Builtin.delete_ #[t, k] ty #[.map (some b), B.inj x]).run P w = .ok (.tuple #[]) w' ∧ MapL B w' b (delK M x) ∧ Mod (fun x => x = b) w w' := by
 obtain ⟨D, h, hT⟩ := h
 have hkey := B.key hx
 obtain ⟨w', hrun, h', hg⟩ := h.drop B.keyed ht hkey ty
 have hsz : Maps.size (D.del (B.lit x)) = (delK M x).length := by
  have h1 := size_del (k := B.lit x) (h.tidy B.keyed)
  have h2 := delK_length hT.nodup x
  rw [hT.size] at h1
  cases hf : getK M x with
  | none => rw [hT.no x hf] at h1; rw [hf] at h2; simp at h1 h2; omega
  | some u => rw [(hT.yes x u hf).1] at h1; rw [hf] at h2; simp at h1 h2; omega
 refine ⟨w', hrun, ⟨_, exact_size h' hsz, ⟨delK_nodup hT.nodup x, fun p hp => hT.ok p ((delK_sub M x).subset hp), hsz, fun y hf => ?_, fun y u hf => ?_⟩⟩, grown_modK hg.grown⟩
 ·rw [getK_delK] at hf
  by_cases hy : y = x
  ·subst hy; exact has_del_same
  ·rw [if_neg hy] at hf
   rw [has_del_other (B.ne hy)]
   exact hT.no y hf
 ·rw [getK_delK] at hf
  by_cases hy : y = x
  ·rw [if_pos hy] at hf; cases hf
  ·rw [if_neg hy] at hf
   exact ⟨by rw [has_del_other (B.ne hy)]; exact (hT.yes y u hf).1, fun z => by rw [atKey_del_other (B.ne hy)]; exact (hT.yes y u hf).2 z⟩
theorem MapL.len (h : MapL B w b M) (ty : TypeId) : (Builtin.len_ #[t] ty #[.map (some b)]).run P w = .ok (.int .i64 M.length) w := by
 obtain ⟨D, h, hT⟩ := h
 rw [h.len ht ty, hT.size]
end
section
variable {P : Program} {k : TypeId} {α : Type} [DecidableEq α]
def RangeL (B : KB P k α) (w : World) (b r : Nat) (M : List (α × Value)) (left : α → Bool) (cnt : Nat) : Prop :=
 ∃ (D : DataW Value) (L : Lit → Bool), w.ranges P k raw b r M.length D L cnt ∧ KTells B D M ∧ ∀ x, left x = L (B.lit x)
variable {B : KB P k α} {w w' : World} {b r : Nat} {M : List (α × Value)} {left : α → Bool} {cnt : Nat}
theorem RangeL.mapL (h : RangeL B w b r M left cnt) : MapL B w b M := by
 obtain ⟨D, L, h, hT, _⟩ := h; exact ⟨D, h.owns, hT⟩
theorem RangeL.lt (h : RangeL B w b r M left cnt) : b < w.heap.size ∧ r < w.heap.size := by
 refine ⟨h.mapL.lt, ?_⟩
 obtain ⟨D, L, h, _, _⟩ := h; exact h.lt
theorem RangeL.kept (h : RangeL B w b r M left cnt) (hb : w'.heap[b]? = w.heap[b]?) (hr : w'.heap[r]? = w.heap[r]?) : RangeL B w' b r M left cnt := by
 obtain ⟨D, L, ⟨es, clock, since, seen, c0, h1, h2, h3, h4, h5, h6⟩, hT, hl⟩ := h
 exact ⟨D, L, ⟨es, clock, since, seen, c0, hb.trans h1, h2, h3, h4, hr.trans h5, h6⟩, hT, hl⟩
def mpl (B : KB P k α) (b : Nat) (M : List (α × Value)) : Thing where
 lies w F := MapL B w b M ∧ ∀ x, F x ↔ x = b
 keep := fun ⟨h, hF⟩ _ hk => ⟨h.kept (hk b h.lt ((hF _).2 rfl)), hF⟩
 below := fun ⟨h, hF⟩ x hx => by rw [(hF x).1 hx]; exact h.lt
def rnl (B : KB P k α) (b r : Nat) (M : List (α × Value)) (left : α → Bool) (cnt : Nat) : Thing where
 lies w F := RangeL B w b r M left cnt ∧ ∀ x, F x ↔ x = b ∨ x = r
 keep := fun ⟨h, hF⟩ _ hk => ⟨h.kept (hk b h.lt.1 ((hF _).2 (.inl rfl))) (hk r h.lt.2 ((hF _).2 (.inr rfl))), hF⟩
 below := fun ⟨h, hF⟩ x hx => by
  rcases (hF x).1 hx with e | e
  ·rw [e]; exact h.lt.1
  ·rw [e]; exact h.lt.2
variable {w0 : World} {l : List Thing}
theorem St.mapL (h : St w0 w l) (i : Nat) (hi : l[i]? = some (mpl B b M)) : MapL B w b M := by
 obtain ⟨F1, hl, _⟩ := h.at i hi
 exact hl.1
theorem St.remapL (h : St w0 w l) (i : Nat) {N : List (α × Value)} (hi : l[i]? = some (mpl B b M)) (hw : MapL B w' b N) (hm : Mod (fun x => x = b) w w') : St w0 w' (l.set i (mpl B b N)) := by
 obtain ⟨F1, ⟨hh, hF⟩, hz, hk⟩ := h.at i hi
 exact hk w' (mpl B b N) F1 (hm.mono (fun x _ hx => (hF x).2 hx)) ⟨hw, hF⟩ (fun x hx => .inl hx)
theorem St.mapNew (h : St w0 w l) (B : KB P k α) : St w0 (w.alloc (.map #[] 0)) (mpl B w.heap.size [] :: l) :=
 h.cons (F := fun x => x = w.heap.size) ((Mod.refl _ w).alloc _) ⟨MapL.made B w, fun _ => Iff.rfl⟩ (fun x hx => by rw [hx]; exact Nat.le_refl _)
theorem St.rangeL (h : St w0 w l) (i : Nat) (hi : l[i]? = some (rnl B b r M left cnt)) : RangeL B w b r M left cnt := by
 obtain ⟨F1, hl, _⟩ := h.at i hi
 exact hl.1
theorem St.goOnL (h : St w0 w l) (i : Nat) {left' : α → Bool} {cnt' : Nat} (hi : l[i]? = some (rnl B b r M left cnt)) (hw : RangeL B w' b r M left' cnt') (hm : Mod (fun x => x = r) w w') : St w0 w' (l.set i (rnl B b r M left' cnt')) := by
 obtain ⟨F1, ⟨hh, hF⟩, hz, hk⟩ := h.at i hi
 exact hk w' (rnl B b r M left' cnt') F1 (hm.mono (fun x _ hx => (hF x).2 (.inr hx))) ⟨hw, hF⟩ (fun x hx => .inl hx)
theorem St.rangedL (h : St w0 w l) (i : Nat) (hi : l[i]? = some (rnl B b r M left cnt)) : St w0 w (l.set i (mpl B b M)) := by
 obtain ⟨F1, ⟨hh, hF⟩, hz, hk⟩ := h.at i hi
 exact hk w (mpl B b M) (fun x => x = b) (Mod.refl _ _) ⟨hh.mapL, fun _ => Iff.rfl⟩ (fun x hx => .inl ((hF x).2 (.inl hx)))
theorem St.rangeOn (h : St w0 w l) (i : Nat) (hi : l[i]? = some (mpl B b M)) (hw : RangeL B w' b w.heap.size M left cnt) (hm : Mod (fun _ => False) w w') : St w0 w' (l.set i (rnl B b w.heap.size M left cnt)) := by
 obtain ⟨F1, ⟨hh, hF⟩, hz, hk⟩ := h.at i hi
 refine hk w' (rnl B b w.heap.size M left cnt) (fun x => x = b ∨ x = w.heap.size) (hm.mono (fun x _ hx => hx.elim)) ⟨hw, fun _ => Iff.rfl⟩ (fun x hx => ?_)
 rcases hx with hx | hx
 ·exact .inl ((hF x).2 hx)
 ·exact .inr (by rw [hx]; exact Nat.le_refl _)
end
section
variable {P : Program} {ops : Array Oper} {rest : List Oper} {dst : Option Tmp} {ty0 : TypeId} {pos : String} {after : Array Edge} {a : Act} {w : World} {Q : Exit → Act → World → Prop}
variable {k e t : TypeId} {α : Type} [DecidableEq α] {B : KB P k α} (ht : P.underlying t = some (.map k e)) (b : Nat) (M : List (α × Value))
include ht
theorem wpList_lookL_ok (h : MapL B w b M) {m x : Operand} (hm : a.eval m = .map (some b)) {z : Value} (hz : (zeroValue e).run P w = .ok z w) (y : α) (hx : a.eval x = B.inj y) (hy : B.ok y)
 (v : Value) (s : Bool) (hv : (getK M y).getD z = v) (hs : (getK M y).isSome = s)
 (hn : wpList P ops Q rest (a.put dst (.tuple #[v, .bool s])) w) : wpList P ops Q (⟨dst, .lookup t m x true, ty0, pos, after, none⟩ :: rest) a w :=
 wpList_plain rfl fun K hK => by
  have hr := h.look ht true hz hy
  subst hv hs
  unfold Oper.wp execOp
  simp only [hm, hx, Sem.run_bind, Sem.run_pure, hr, Result.andThen_ok]
  exact hK _ _ hn
theorem wpList_lookL (h : MapL B w b M) {m x : Operand} (hm : a.eval m = .map (some b)) {z : Value} (hz : (zeroValue e).run P w = .ok z w) (y : α) (hx : a.eval x = B.inj y) (hy : B.ok y)
 (v : Value) (hv : (getK M y).getD z = v)
 (hn : wpList P ops Q rest (a.put dst v) w) : wpList P ops Q (⟨dst, .lookup t m x false, ty0, pos, after, none⟩ :: rest) a w :=
 wpList_plain rfl fun K hK => by
  have hr := h.look ht false hz hy
  subst hv
  unfold Oper.wp execOp
  simp only [hm, hx, Sem.run_bind, Sem.run_pure, hr, Result.andThen_ok]
  exact hK _ _ hn
theorem wpList_putL (h : MapL B w b M) {m x u : Operand} (hm : a.eval m = .map (some b)) (hb : M.length < maxLen) (y : α) (hx : a.eval x = B.inj y) (hy : B.ok y) (v : Value) (hv : a.eval u = v)
 (hn : ∀ w', MapL B w' b (putK M y v) → Mod (fun x => x = b) w w' → wpList P ops Q rest a w') : wpList P ops Q (⟨none, .mapUpdate t m x u, ty0, pos, after, none⟩ :: rest) a w :=
 wpList_plain rfl fun K hK => by
  obtain ⟨w', hr, h3, h4⟩ := h.store ht hb hy v
  subst hv
  unfold Oper.wp execOp
  simp only [hm, hx, Sem.run_bind, Sem.run_pure, hr, Result.andThen_ok]
  exact hK _ _ (hn w' h3 h4)
theorem wpList_delL (h : MapL B w b M) {m x : Operand} (hm : a.eval m = .map (some b)) (y : α) (hx : a.eval x = B.inj y) (hy : B.ok y)
 (hn : ∀ w', MapL B w' b (delK M y) → Mod (fun x => x = b) w w' → wpList P ops Q rest a w') : wpList P ops Q (⟨none, .call { callee := .builtin .delete, args := #[m, x], argTypes := #[t, k] }, ty0, pos, after, none⟩ :: rest) a w :=
 wpList_plain rfl fun K hK => by
  obtain ⟨w', hr, h3, h4⟩ := h.del ht hy ty0
  unfold Oper.wp execOp
  simp only [resolve, invoke, builtin, Sem.run_bind, Sem.run_pure, Result.andThen_ok, List.map_toArray, List.map_cons, List.map_nil, hm, hx, hr]
  exact hK _ _ (hn w' h3 h4)
theorem wpList_rangeL (h : MapL B w b M) {m : Operand} (hm : a.eval m = .map (some b))
 (hn : ∀ w' cnt, RangeL B w' b w.heap.size M (fun x => (getK M x).isSome) cnt → Mod (fun _ => False) w w' → w'.heap.size = w.heap.size + 1 → wpList P ops Q rest (a.put dst (.pointer (some ⟨w.heap.size, 0, none⟩))) w') :
 wpList P ops Q (⟨dst, .range t m, ty0, pos, after, none⟩ :: rest) a w := by
 obtain ⟨D, hD, hT⟩ := h
 refine wpList_range_own w rfl m t rfl k e B.keyed ht raw b M.length D hm hD fun w' h1 h2 h3 => ?_
 refine hn w' _ ⟨D, _, h1, hT, fun x => ?_⟩ ⟨h2.os, h2.tape, h2.output, h2.size, fun x hx _ => h2.block x hx (by simp)⟩ h3
 cases hf : getK M x with
 | none => rw [hT.no x hf]; show (getK M x).isSome = _; rw [hf]; rfl
 | some v => rw [(hT.yes x v hf).1]; show (getK M x).isSome = _; rw [hf]; rfl
omit ht
theorem wpList_nextL {r : Nat} {left : α → Bool} {cnt : Nat} (h : RangeL B w b r M left cnt) {it : Operand} (hit : a.eval it = .pointer (some ⟨r, 0, none⟩))
 (hDone : (∀ x, left x = false) → wpList P ops Q rest (a.put dst (.tuple #[.bool false])) w)
 (hMore : ∀ (x : α) (v : Value) (w' : World) (cnt' : Nat), getK M x = some v → left x = true → RangeL B w' b r M (fun z => left z && decide (z ≠ x)) cnt' → cnt' < cnt → Mod (fun x => x = r) w w' → w'.heap.size = w.heap.size →
  (Instr.entry (.pointer (some ⟨r, 0, none⟩))).run P w' = .ok (.tuple #[B.inj x, v]) w' → wpList P ops Q rest (a.put dst (.tuple #[.bool true, B.inj x, v])) w') :
 wpList P ops Q (⟨dst, .next it false, ty0, pos, after, none⟩ :: rest) a w := by
 obtain ⟨D, L, hr, hT, hl⟩ := h
 refine wpList_plain rfl fun K' hK' => ?_
 unfold Oper.wp
 rcases hr.next B.keyed ty0 with ⟨h0, hl0, hrun⟩ | ⟨ky, v, kl, y, w', cnt', hkey, hlk, hv, hat, hrun, hrg, hlt, hgr, hsz, hen⟩
 ·simp [execOp, hit, hrun, Result.andThen]
  exact hK' _ _ (hDone fun x => by rw [hl]; exact hl0 _)
 ·obtain ⟨x, hx0, rfl, rfl⟩ := B.inv hkey
  have hy : y = (.held v, []) := by simp only [raw, Option.some.injEq] at hv; exact hv.symm
  subst hy
  have hf : getK M x = some v := by
   cases hfx : getK M x with
   | none =>
     have h1 := hT.no x hfx
     have h2 := has_true_of_atKey hat
     rw [h1] at h2; cases h2
   | some u =>
     have h1 := (hT.yes x u hfx).2 (.held undef)
     rw [hat] at h1
     injection h1 with h1
     rw [h1]
  simp [execOp, hit, hrun, Result.andThen]
  refine hK' _ _ (hMore x v w' cnt' hf (by rw [hl]; exact hlk) ⟨D, _, hrg, hT, fun z => ?_⟩ hlt (grown_modK hgr) hsz hen)
  show (left z && decide (z ≠ x)) = (L (B.lit z) && !(B.lit z).sameKey (B.lit x))
  rw [hl]
  congr 1
  by_cases hzx : z = x
  ·subst hzx
   rw [WideAt.sameKey_self (B.is z)]
   simp
  ·rw [sameKey_ne (B.ne hzx)]
   simp [hzx]
end
end Go.Proofs.YtonnbkebjeoflaaGreatDoor
namespace Go.Proofs.YtonnbkebjeoflaaGreatDoor
open Go.RowKit
def parts : List UInt8 → List (List UInt8)
 | [] => [[]]
 | c :: l => if c = 47 then [] :: parts l else match parts l with
   | [] => [[c]]
   | h :: t => (c :: h) :: t
theorem parts_ne : ∀ l, parts l ≠ []
 | [] => by simp [parts]
 | c :: l => by
   rw [parts]
   split
   ·simp
   ·split <;> simp
theorem parts_slash (l : List UInt8) : parts (47 :: l) = [] :: parts l := by rw [parts, if_pos rfl]
theorem parts_other {c : UInt8} (h : c ≠ 47) (l : List UInt8) : ∃ x t, parts l = x :: t ∧ parts (c :: l) = (c :: x) :: t := by
 rw [parts, if_neg h]
 cases hp : parts l with
 | nil => exact absurd hp (parts_ne l)
 | cons x t => exact ⟨x, t, rfl, rfl⟩
def joinL (ns : List (List UInt8)) : List UInt8 := ns.flatMap (47 :: ·)
theorem joinL_cons (n : List UInt8) (ns : List (List UInt8)) : joinL (n :: ns) = 47 :: (n ++ joinL ns) := rfl
theorem parts_mid : ∀ (x y : List UInt8), parts (x ++ 47 :: y) = parts x ++ parts y
 | [], y => by rw [List.nil_append, parts_slash]; rfl
 | c :: x, y => by
   by_cases h : c = 47
   ·subst h; rw [List.cons_append, parts_slash, parts_slash, parts_mid x y]; rfl
   ·obtain ⟨a, t, h1, h2⟩ := parts_other h x
    obtain ⟨a', t', h3, h4⟩ := parts_other h (x ++ 47 :: y)
    rw [List.cons_append, h4, h2]
    rw [parts_mid x y, h1, List.cons_append] at h3
    simp only [List.cons.injEq] at h3
    rw [← h3.1, ← h3.2]; rfl
theorem parts_clean : ∀ (y : List UInt8), (47 : UInt8) ∉ y → parts y = [y]
 | [], _ => rfl
 | c :: y, h => by
   simp only [List.mem_cons, not_or] at h
   obtain ⟨a, t, h1, h2⟩ := parts_other (Ne.symm h.1) y
   rw [parts_clean y h.2] at h1
   simp only [List.cons.injEq] at h1
   rw [h2, ← h1.1, ← h1.2]
theorem join_parts : ∀ (l : List UInt8), ∃ a ns, parts l = a :: ns ∧ l = a ++ joinL ns
 | [] => ⟨[], [], rfl, rfl⟩
 | c :: l => by
   obtain ⟨a, ns, h1, h2⟩ := join_parts l
   by_cases hc : c = 47
   ·subst hc
    refine ⟨[], a :: ns, by rw [parts_slash, h1], ?_⟩
    rw [List.nil_append, joinL_cons, ← h2]
   ·obtain ⟨a', t, h3, h4⟩ := parts_other hc l
    rw [h1] at h3
    simp only [List.cons.injEq] at h3
    refine ⟨c :: a, ns, by rw [h4, h3.1, h3.2], ?_⟩
    rw [List.cons_append, ← h2]
def nmB (c : Nat) : Bool := (decide (97 ≤ c) && decide (c ≤ 122)) || (decide (65 ≤ c) && decide (c ≤ 90)) || (decide (48 ≤ c) && decide (c ≤ 57)) || decide (c = 95) || decide (c = 45) || decide (c = 46)
def isNm (l : List UInt8) : Bool := l.all (fun b => nmB b.toNat) && decide (l ≠ []) && decide (l ≠ [46]) && decide (l ≠ [46, 46])
def formL (l : List UInt8) : Bool := match parts l with
 | [] => false
 | a :: ns => decide (a = []) && decide (ns ≠ []) && ns.all isNm
def checkL (l : List UInt8) : Int := if l = [47] then 0 else if formL l = false then 40 else if 60 < l.length ∨ 6 < (parts l).length - 1 then 41 else 0
def lastCut : List UInt8 → Option (List UInt8 × List UInt8)
 | [] => none
 | c :: l => match lastCut l with
   | some (x, y) => some (c :: x, y)
   | none => if c = 47 then some ([], l) else none
theorem lastCut_none : ∀ {l : List UInt8}, lastCut l = none ↔ (47 : UInt8) ∉ l
 | [] => by simp [lastCut]
 | c :: l => by
   rw [lastCut]
   cases h : lastCut l with
   | some z =>
     have : ¬ (47 : UInt8) ∉ l := fun hn => by rw [lastCut_none.2 hn] at h; cases h
     simp only [List.mem_cons, not_or]
     exact ⟨fun e => (by cases e), fun hn => absurd hn.2 this⟩
   | none =>
     have hl := lastCut_none.1 h
     simp only [List.mem_cons, not_or]
     by_cases hc : c = 47
     ·simp [hc]
     ·simp [hc, hl, Ne.symm hc]
theorem lastCut_mk : ∀ (x y : List UInt8), (47 : UInt8) ∉ y → lastCut (x ++ 47 :: y) = some (x, y)
 | [], y, h => by rw [List.nil_append, lastCut, lastCut_none.2 h]; simp
 | c :: x, y, h => by rw [List.cons_append, lastCut, lastCut_mk x y h]
theorem lastCut_some : ∀ {l x y : List UInt8}, lastCut l = some (x, y) → l = x ++ 47 :: y ∧ (47 : UInt8) ∉ y
 | [], x, y, h => by simp [lastCut] at h
 | c :: l, x, y, h => by
   rw [lastCut] at h
   cases hl : lastCut l with
   | some z =>
     obtain ⟨a, b⟩ := z
     rw [hl] at h
     simp only [Option.some.injEq, Prod.mk.injEq] at h
     obtain ⟨rfl, rfl⟩ := h
     obtain ⟨h1, h2⟩ := lastCut_some hl
     exact ⟨by rw [h1]; rfl, h2⟩
   | none =>
     rw [hl] at h
     by_cases hc : c = 47
     ·simp only [hc, if_true, Option.some.injEq, Prod.mk.injEq] at h
      obtain ⟨rfl, rfl⟩ := h
      exact ⟨by rw [hc]; rfl, lastCut_none.1 hl⟩
     ·simp [hc] at h
def parentL (l : List UInt8) : List UInt8 := match lastCut l with
 | none => []
 | some (x, _) => if l = [47] then [] else if x = [] then [47] else x
def baseL (l : List UInt8) : List UInt8 := match lastCut l with
 | none => l
 | some (_, y) => y
def kidL (p n : List UInt8) : List UInt8 := (if p = [47] then [] else p) ++ 47 :: n
def underL (p q : List UInt8) : Bool := (kidL q []).isPrefixOf p && decide (p ≠ kidL q [])
end Go.Proofs.YtonnbkebjeoflaaGreatDoor
namespace Go.Proofs.YtonnbkebjeoflaaGreatDoor
open Go.RowKit
abbrev ARow := Int × ByteArray
def ARow.cells (r : ARow) : List Value := [.int .i64 r.1, .string r.2]
def world : ByteArray := ⟨#[119, 111, 114, 108, 100]⟩
def hits (ids : List ByteArray) (r : ARow) : Bool := decide (r.2 = world) || ids.any fun x => decide (x = r.2)
def gives (ids : List ByteArray) (g : Int) (r : ARow) : Int := if hits ids r = true then bits .or .i64 g r.1 else g
def given (ids : List ByteArray) (l : List ARow) : Int := l.foldl (gives ids) 0
def may (l : List ARow) (p : Int) (ids : List ByteArray) : Bool := decide (0 ≤ p) && decide (p ≤ 31) && decide (bits .andNot .i64 p (given ids l) = 0)
end Go.Proofs.YtonnbkebjeoflaaGreatDoor
namespace Go.Proofs.YtonnbkebjeoflaaGreatDoor
def tx (l : List UInt8) : ByteArray := ⟨l.toArray⟩
def rootP : ByteArray := ⟨#[47]⟩
def parentB (p : ByteArray) : ByteArray := tx (parentL p.data.toList)
def baseB (p : ByteArray) : ByteArray := tx (baseL p.data.toList)
def underB (p q : ByteArray) : Bool := underL p.data.toList q.data.toList
def checkB (p : ByteArray) : Int := checkL p.data.toList
def inc (n : Int) : Int := IntKind.i64.wrap (n + 1)
structure St7 where
 czxid : Int
 mzxid : Int
 pzxid : Int
 version : Int
 cversion : Int
 aversion : Int
 owner : Int
structure Nd where
 data : ByteArray
 acl : List ARow
 st : St7
structure Hd where
 timeout : Int
 secret : ByteArray
structure Tx where
 kind : Int
 path : ByteArray
 data : ByteArray
 acl : List ARow
 owner : Int
 number : Int
 err : Int
structure Evt where
 kind : Int
 path : ByteArray
 zxid : Int
structure Tree where
 nodes : List (ByteArray × Nd)
 sessions : List (Int × Hd)
 zxid : Int
namespace Tree
def node (t : Tree) (p : ByteArray) : Option Nd := getK t.nodes p
def able (p : ByteArray) : Bool := decide (p ≠ rootP) && decide (checkB p = 0)
def root0 : Nd := ⟨⟨#[]⟩, [(31, world)], ⟨0, 0, 0, 0, 0, 0, 0⟩⟩
def new : Tree := ⟨[(rootP, root0)], [], 0⟩
def kid (t : Tree) (p : ByteArray) (number zxid : Int) : Tree :=
 match t.node p with
 | some n => { t with nodes := putK t.nodes p { n with st := { n.st with cversion := number, pzxid := zxid } } }
 | none => t
def create (t : Tree) (x : Tx) (zxid : Int) : Tree × List Evt :=
 if able x.path = false ∨ t.node (parentB x.path) = none then (t, [])
 else ({ t with nodes := putK t.nodes x.path ⟨x.data, x.acl, ⟨zxid, zxid, zxid, 0, 0, 0, x.owner⟩⟩ }.kid (parentB x.path) x.number zxid,
  [⟨if (t.node x.path).isSome then 3 else 1, x.path, zxid⟩, ⟨4, parentB x.path, zxid⟩])
def gone (p q : ByteArray) : Bool := decide (q = p) || underB q p
def erase (t : Tree) (x : Tx) (zxid : Int) : Tree × List Evt :=
 if able x.path = false then (t, [])
 else
  let t1 := { t with nodes := t.nodes.filter fun n => !gone x.path n.1 }.kid (parentB x.path) x.number zxid
  (t1, if (t.node x.path).isSome then ⟨2, x.path, zxid⟩ :: (if (t1.node (parentB x.path)).isSome then [⟨4, parentB x.path, zxid⟩] else []) else [])
def part (t : Tree) (x : Tx) (zxid : Int) : Tree × List Evt :=
 if x.kind = 1 then t.create x zxid
 else if x.kind = 2 then t.erase x zxid
 else match t.node x.path with
  | none => (t, [])
  | some n =>
    if x.kind = 3 then ({ t with nodes := putK t.nodes x.path { n with data := x.data, st := { n.st with version := x.number, mzxid := zxid } } }, [⟨3, x.path, zxid⟩])
    else if x.kind = 4 then ({ t with nodes := putK t.nodes x.path { n with acl := x.acl, st := { n.st with aversion := x.number } } }, [])
    else (t, [])
def parts (t : Tree) (l : List Tx) (zxid : Int) : Tree × List Evt :=
 l.foldl (fun s x => ((s.1.part x zxid).1, s.2 ++ (s.1.part x zxid).2)) (t, [])
def apply (t : Tree) (zxid : Int) (x : Tx) (subs : List Tx) : Tree × List Evt × Int :=
 let t0 := { t with zxid := zxid }
 if x.kind = 5 then (if 0 < x.owner then { t0 with sessions := putK t.sessions x.owner ⟨x.number, x.data⟩ } else t0, [], 0)
 else if x.kind = 6 then
  let r := t0.parts (subs.filter fun y => decide (y.kind = 2)) zxid
  ({ r.1 with sessions := delK r.1.sessions x.owner }, r.2, 0)
 else if x.kind = 7 then ((t0.parts subs zxid).1, (t0.parts subs zxid).2, 0)
 else if x.kind = 8 then (t0, [], x.err)
 else ((t0.part x zxid).1, (t0.part x zxid).2, 0)
def leB (x y : ByteArray) : Bool := decide (x.data.toList ≤ y.data.toList)
def kids (t : Tree) (p : ByteArray) : List ByteArray :=
 ((t.nodes.filter fun n => decide (n.1 ≠ rootP) && decide (parentB n.1 = p)).map fun n => baseB n.1).mergeSort leB
def paths (t : Tree) : List ByteArray := (t.nodes.map (·.1)).mergeSort leB
def owned (t : Tree) (s : Int) : List ByteArray :=
 t.paths.filter fun p => decide (s ≠ 0) && (match t.node p with | some n => decide (n.st.owner = s) | none => false)
end Tree
end Go.Proofs.YtonnbkebjeoflaaGreatDoor
