/-
  Maps keyed by int as functions, over any program: look-up, store, delete, make; a map as a thing.
  No condition: every law states its own.
-/
import Derived.Test.YtmbkbkfcbloafaaSt
import Derived.Maps.OwnSet
import Derived.Maps.OwnOps
import Derived.Maps.Own
namespace Go.Proofs.Ytmbkbkfcbloafaa
open Go.RowKit Go.Maps
set_option linter.unusedSectionVars false
set_option linter.unusedSimpArgs false
set_option linter.unusedVariables false

/-- Each element reads as itself. -/
def raw (v : Value) : Option (DataW Value × List MemPlace) := some (.held v, [])

def key (x : Int) : Lit := .int .i64 x
theorem key_ne {x y : Int} (h : x ≠ y) : key x ≠ key y := fun e => by unfold key at e; injection e with _ e; exact h e
theorem key_is (x : Int) : WideAt.IsKeyLit (key x) := by unfold key; simp [WideAt.IsKeyLit]

def upd (f : Int → Option Value) (x : Int) (v : Option Value) : Int → Option Value := fun y => if y = x then v else f y

/-- What a datum says of the keys. -/
def Tells (D : DataW Value) (f : Int → Option Value) : Prop :=
  ∀ x, (f x = none → Maps.has D (key x) = false) ∧ ∀ v, f x = some v → Maps.has D (key x) = true ∧ ∀ z, D.atKey (key x) z = .held v

/-- Block b is a map of at most n entries that holds what f says. -/
def MapAt (P : Program) (k : TypeId) (w : World) (b n : Nat) (f : Int → Option Value) : Prop := ∃ D : DataW Value, w.ownsMap P k raw b n D ∧ Tells D f

theorem MapAt.made (P : Program) (k : TypeId) (w : World) : MapAt P k (w.alloc (.map #[] 0)) w.heap.size 0 (fun _ => none) :=
  ⟨_, World.ownsMap_made w P k raw, fun x => ⟨fun _ => rfl, fun v h => by simp at h⟩⟩

theorem MapAt.lt {P : Program} {k : TypeId} {w : World} {b n : Nat} {f : Int → Option Value} (h : MapAt P k w b n f) : b < w.heap.size := by
  obtain ⟨D, h, _⟩ := h; exact h.lt
theorem MapAt.kept {P : Program} {k : TypeId} {w w' : World} {b n : Nat} {f : Int → Option Value} (h : MapAt P k w b n f) (hk : w'.heap[b]? = w.heap[b]?) : MapAt P k w' b n f := by
  obtain ⟨D, ⟨es, clock, hb, F, hs, hD⟩, ht⟩ := h
  exact ⟨D, ⟨es, clock, hk.trans hb, F, hs, hD⟩, ht⟩
theorem MapAt.mono {P : Program} {k : TypeId} {w : World} {b n m : Nat} {f : Int → Option Value} (h : MapAt P k w b n f) (hn : n ≤ m) : MapAt P k w b m f := by
  obtain ⟨D, h, ht⟩ := h; exact ⟨D, h.mono hn, ht⟩

theorem grown_mod {w w' : World} {b : Nat} (h : w.grownBy w' (some b)) : Mod (fun x => x = b) w w' :=
  ⟨h.os, h.tape, h.output, h.size, fun x hx hn => h.block x hx (fun e => hn (by injection e))⟩

section
variable {P : Program} {k e t : TypeId} {w : World} {b n : Nat} {f : Int → Option Value} (hk : P.underlying k = some (.int .i64)) (ht : P.underlying t = some (.map k e))
include hk ht

theorem MapAt.look (h : MapAt P k w b n f) (c : Bool) {z : Value} (hz : (zeroValue e).run P w = .ok z w) {x : Int} (hx : -9223372036854775808 ≤ x) (hx' : x ≤ 9223372036854775807) :
    (Instr.lookup t (.map (some b)) (.int .i64 x) c).run P w = .ok (if c then .tuple #[(f x).getD z, .bool (f x).isSome] else (f x).getD z) w := by
  obtain ⟨D, ⟨es, clock, hb, F, hs, rfl⟩, hT⟩ := h
  have hkey : keyOf P k (.int .i64 x) = some (key x) := keyOf_int_mk hk (by simp [Lit.wf, IntKind.min, IntKind.max, IntKind.signed, IntKind.bits]; omega)
  obtain ⟨h1, h2⟩ := hT x
  rcases Maps.fit_look c (int_keyed hk) ht hz hb F hkey with ⟨hrun, _, hat⟩ | ⟨e0, y, _, _, hrun, hRv, hat, _⟩
  · cases hf : f x with
    | none => rw [hrun]; cases c <;> rfl
    | some v =>
      have := (h2 v hf).1
      rw [Maps.has_false_of_atKey hat] at this
      cases this
  · cases hf : f x with
    | none =>
      have := h1 hf
      rw [Maps.has_true_of_atKey hat] at this
      cases this
    | some v =>
      have h3 := (h2 v hf).2 (.held undef)
      rw [hat] at h3
      have h4 : raw e0.val = some y := hRv
      simp only [raw, Option.some.injEq] at h4
      rw [← h4] at h3
      injection h3 with h3
      rw [hrun, h3]; cases c <;> rfl

theorem MapAt.store (h : MapAt P k w b n f) (hn : n < maxLen) {x : Int} (hx : -9223372036854775808 ≤ x) (hx' : x ≤ 9223372036854775807) (v : Value) :
    ∃ w', (Instr.mapUpdate t (.map (some b)) (.int .i64 x) v).run P w = .ok () w' ∧ MapAt P k w' b (n + 1) (upd f x (some v)) ∧ Mod (fun x => x = b) w w' := by
  obtain ⟨D, h, hT⟩ := h
  have hkey : keyOf P k (.int .i64 x) = some (key x) := keyOf_int_mk hk (by simp [Lit.wf, IntKind.min, IntKind.max, IntKind.signed, IntKind.bits]; omega)
  obtain ⟨w', hrun, h', hg⟩ := h.store (int_keyed hk) ht hn hkey (d := .held v) (ps := []) (R := raw) (val := v) rfl
  refine ⟨w', hrun, ⟨_, h', fun y => ?_⟩, grown_mod hg.grown⟩
  by_cases hy : y = x
  · subst hy
    refine ⟨fun hf => by simp [upd] at hf, fun u hu => ?_⟩
    simp only [upd, if_true, Option.some.injEq] at hu
    subst hu
    exact ⟨has_put_same h.isMap (key_is _) _, fun z => atKey_put_same h.isMap (key_is _) _ z⟩
  · have hne : key y ≠ key x := key_ne hy
    simp only [upd, if_neg hy]
    refine ⟨fun hf => by rw [has_put_other hne]; exact (hT y).1 hf, fun u hu => ⟨by rw [has_put_other hne]; exact ((hT y).2 u hu).1, fun z => by rw [atKey_put_other hne]; exact ((hT y).2 u hu).2 z⟩⟩

theorem MapAt.del (h : MapAt P k w b n f) {x : Int} (hx : -9223372036854775808 ≤ x) (hx' : x ≤ 9223372036854775807) (ty : TypeId) :
    ∃ w', (Builtin.delete_ #[t, k] ty #[.map (some b), .int .i64 x]).run P w = .ok (.tuple #[]) w' ∧ MapAt P k w' b n (upd f x none) ∧ Mod (fun x => x = b) w w' := by
  obtain ⟨D, h, hT⟩ := h
  have hkey : keyOf P k (.int .i64 x) = some (key x) := keyOf_int_mk hk (by simp [Lit.wf, IntKind.min, IntKind.max, IntKind.signed, IntKind.bits]; omega)
  obtain ⟨w', hrun, h', hg⟩ := h.drop (int_keyed hk) ht hkey ty
  refine ⟨w', hrun, ⟨_, h', fun y => ?_⟩, grown_mod hg.grown⟩
  by_cases hy : y = x
  · subst hy
    exact ⟨fun _ => has_del_same, fun u hu => by simp [upd] at hu⟩
  · have hne : key y ≠ key x := key_ne hy
    simp only [upd, if_neg hy]
    refine ⟨fun hf => by rw [has_del_other hne]; exact (hT y).1 hf, fun u hu => ⟨by rw [has_del_other hne]; exact ((hT y).2 u hu).1, fun z => by rw [atKey_del_other hne]; exact ((hT y).2 u hu).2 z⟩⟩
end

/-- A map. -/
def mp (P : Program) (k : TypeId) (b n : Nat) (f : Int → Option Value) : Thing where
  lies w F := MapAt P k w b n f ∧ ∀ x, F x ↔ x = b
  keep := fun ⟨h, hF⟩ _ hk => ⟨h.kept (hk b h.lt ((hF _).2 rfl)), hF⟩
  below := fun ⟨h, hF⟩ x hx => by rw [(hF x).1 hx]; exact h.lt

theorem St.mapAt {w0 w : World} {l : List Thing} (h : St w0 w l) (i : Nat) {P : Program} {k : TypeId} {b n : Nat} {f : Int → Option Value} (hi : l[i]? = some (mp P k b n f)) : MapAt P k w b n f := by
  obtain ⟨F1, hl, _⟩ := h.at i hi
  exact hl.1
theorem St.remap {w0 w w' : World} {l : List Thing} (h : St w0 w l) (i : Nat) {P : Program} {k : TypeId} {b n m : Nat} {f g : Int → Option Value} (hi : l[i]? = some (mp P k b n f)) (hw : MapAt P k w' b m g) (hm : Mod (fun x => x = b) w w') : St w0 w' (l.set i (mp P k b m g)) := by
  obtain ⟨F1, ⟨hh, hF⟩, hz, hk⟩ := h.at i hi
  exact hk w' (mp P k b m g) F1 (hm.mono (fun x _ hx => (hF x).2 hx)) ⟨hw, hF⟩ (fun x hx => .inl hx)
theorem St.map1 {w0 w : World} {l : List Thing} (h : St w0 w l) (P : Program) (k : TypeId) : St w0 (w.alloc (.map #[] 0)) (mp P k w.heap.size 0 (fun _ => none) :: l) :=
  h.cons (F := fun x => x = w.heap.size) ((Mod.refl _ w).alloc _) ⟨MapAt.made P k w, fun _ => Iff.rfl⟩ (fun x hx => by rw [hx]; exact Nat.le_refl _)

section
variable {P : Program} {ops : Array Oper} {rest : List Oper} {dst : Option Tmp} {ty0 : TypeId} {pos : String} {after : Array Edge} {a : Act} {w : World} {Q : Exit → Act → World → Prop}
variable {k e t : TypeId} (hk : P.underlying k = some (.int .i64)) (ht : P.underlying t = some (.map k e)) (b n : Nat) (f : Int → Option Value) (h : MapAt P k w b n f)
include hk ht h

/-- 'v, ok := m[k]', at elements of one shape. -/
theorem wpList_look_ok {m x : Operand} (hm : a.eval m = .map (some b)) {z : Value} (hz : (zeroValue e).run P w = .ok z w) (y : Int) (hx : a.eval x = .int .i64 y) (h1 : -9223372036854775808 ≤ y) (h2 : y ≤ 9223372036854775807)
    (v : Value) (s : Bool) (hv : (f y).getD z = v) (hs : (f y).isSome = s)
    (hn : wpList P ops Q rest (a.put dst (.tuple #[v, .bool s])) w) : wpList P ops Q (⟨dst, .lookup t m x true, ty0, pos, after, none⟩ :: rest) a w :=
  wpList_plain rfl fun K hK => by
    have hr := h.look hk ht true hz h1 h2
    subst hv hs
    unfold Oper.wp execOp
    simp only [hm, hx, Sem.run_bind, Sem.run_pure, hr, Result.andThen_ok]
    exact hK _ _ hn

/-- 'm[k]'. -/
theorem wpList_look {m x : Operand} (hm : a.eval m = .map (some b)) {z : Value} (hz : (zeroValue e).run P w = .ok z w) (y : Int) (hx : a.eval x = .int .i64 y) (h1 : -9223372036854775808 ≤ y) (h2 : y ≤ 9223372036854775807)
    (v : Value) (hv : (f y).getD z = v)
    (hn : wpList P ops Q rest (a.put dst v) w) : wpList P ops Q (⟨dst, .lookup t m x false, ty0, pos, after, none⟩ :: rest) a w :=
  wpList_plain rfl fun K hK => by
    have hr := h.look hk ht false hz h1 h2
    subst hv
    unfold Oper.wp execOp
    simp only [hm, hx, Sem.run_bind, Sem.run_pure, hr, Result.andThen_ok]
    exact hK _ _ hn

/-- 'm[k] = v'. -/
theorem wpList_put {m x u : Operand} (hm : a.eval m = .map (some b)) (hb : n < maxLen) (y : Int) (hx : a.eval x = .int .i64 y) (h1 : -9223372036854775808 ≤ y) (h2 : y ≤ 9223372036854775807) (v : Value) (hv : a.eval u = v)
    (hn : ∀ w', MapAt P k w' b (n + 1) (upd f y (some v)) → Mod (fun x => x = b) w w' → wpList P ops Q rest a w') : wpList P ops Q (⟨none, .mapUpdate t m x u, ty0, pos, after, none⟩ :: rest) a w :=
  wpList_plain rfl fun K hK => by
    obtain ⟨w', hr, h3, h4⟩ := h.store hk ht hb h1 h2 v
    subst hv
    unfold Oper.wp execOp
    simp only [hm, hx, Sem.run_bind, Sem.run_pure, hr, Result.andThen_ok]
    exact hK _ _ (hn w' h3 h4)

/-- 'delete(m, k)'. -/
theorem wpList_del {m x : Operand} (hm : a.eval m = .map (some b)) (y : Int) (hx : a.eval x = .int .i64 y) (h1 : -9223372036854775808 ≤ y) (h2 : y ≤ 9223372036854775807)
    (hn : ∀ w', MapAt P k w' b n (upd f y none) → Mod (fun x => x = b) w w' → wpList P ops Q rest a w') : wpList P ops Q (⟨none, .call { callee := .builtin .delete, args := #[m, x], argTypes := #[t, k] }, ty0, pos, after, none⟩ :: rest) a w :=
  wpList_plain rfl fun K hK => by
    obtain ⟨w', hr, h3, h4⟩ := h.del hk ht h1 h2 ty0
    unfold Oper.wp execOp
    simp only [resolve, invoke, builtin, Sem.run_bind, Sem.run_pure, Result.andThen_ok, List.map_toArray, List.map_cons, List.map_nil, hm, hx, hr]
    exact hK _ _ (hn w' h3 h4)
end
end Go.Proofs.Ytmbkbkfcbloafaa
