/-
  Laws of single operations inside a region that draws its order: append; a whole struct loaded.
  No condition: every law states its own.
-/
import Derived.Test.YtmbkbkfcbloafaaLib
import Derived.Deep.RegionLaw
import Derived.Deep.RegionHeld3
namespace Go.Proofs.Ytmbkbkfcbloafaa
open Go.RowKit
set_option linter.unusedSectionVars false
set_option linter.unusedSimpArgs false
set_option linter.unusedVariables false

theorem step_append {P : Program} {ops : Array Oper} {o : Oper} {a : Act} {w : World} {K : Act → World → Prop} {Q : Exit → Act → World → Prop} {G : Prop} (hgd : o.guard = none) {x y : Operand} {t : TypeId}
    (ho : o.op = .call { callee := .builtin .append, args := #[x, y], argTypes := #[t, t] })
    (E : TypeId) (i : TypeInfo) (z : Value) (k bytes : Nat) (ht : P.underlying t = some (.slice E)) (hi : P.info? E = some i) (hz : i.zero = some z) (hsize : i.size = k) (hby : i.bytes = bytes) (hzs : z.cells.size = k)
    (p : Option Addr) (n cap : Nat) (cs : List Value) (hx : a.eval x = .slice p n cap) (hv : Sl w E k p n cap cs)
    (s : Option Addr) (m sc : Nat) (news : List Value) (hy : a.eval y = .slice s m sc) (hs : Rd w k s m sc news) (h1 : ∀ u ∈ news, u.oneCell' = true)
    (h63 : n + m ≤ maxLen) (hb : ((n + m) + (n + m) / 4 + 512) * bytes ≤ 281474976710656)
    (h : ∀ a' cap' w', Sl w' E k a' (n + m) cap' (cs ++ news) → Mod (fun b => own p = some b) w w' → (∀ b, own a' = some b → own p = some b ∨ (w.heap.size ≤ b ∧ b < w'.heap.size)) → (a' = none ↔ p = none ∧ m = 0) → (n + m ≤ cap → a' = p ∧ cap' = cap) →
      K (a.put o.dst (.slice a' (n + m) cap')) w') : if Region.wanted o (yielded ops a.tmps) = true then Oper.wp P o a w K Q else G := by
  have hw : Region.wanted o (yielded ops a.tmps) = true := by simp [Region.wanted, hgd]
  rw [if_pos hw]
  obtain ⟨p', cap', w', hr, h2, h3, h4, h5, h6⟩ := append_law (P := P) w t o.type E i z k bytes ht hi hz hsize hby hzs p n cap cs hv s m sc news hs h1 h63 hb
  unfold Oper.wp
  simp [execOp, ho, resolve, invoke, builtin, hx, hy, hr, Result.andThen]
  exact h p' cap' w' h2 h3 h4 h5 h6
end Go.Proofs.Ytmbkbkfcbloafaa
