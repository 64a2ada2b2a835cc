/-
  A map whose keys lie between 1 and N has at most N entries.
  No condition.
-/
import Derived.Test.YtoeokdachojhjaaMap
namespace Go.Proofs.Ytoeokdachojhjaa
open Go.RowKit Go.Maps
set_option linter.unusedSectionVars false
set_option linter.unusedSimpArgs false
set_option linter.unusedVariables false

theorem apart_le {α : Type} [DecidableEq α] : ∀ (l m : List α), l.Pairwise (· ≠ ·) → (∀ x ∈ l, x ∈ m) → l.length ≤ m.length
  | [], m, _, _ => by simp
  | x :: l, m, hp, hm => by
    rw [List.pairwise_cons] at hp
    have h1 : x ∈ m := hm x (List.mem_cons_self ..)
    have h2 := apart_le l (m.erase x) hp.2 (fun y hy => (List.mem_erase_of_ne (fun e => hp.1 y hy e.symm)).2 (hm y (List.mem_cons_of_mem _ hy)))
    rw [List.length_erase_of_mem h1] at h2
    have : 0 < m.length := List.length_pos_of_mem h1
    simp only [List.length_cons]
    omega

theorem MapAt.small {P : Program} {k e t : TypeId} {w : World} {b n N : Nat} {f : Int → Option Value} (hk : P.underlying k = some (.int .i64)) (ht : P.underlying t = some (.map k e)) {z : Value} (hz : (zeroValue e).run P w = .ok z w)
    (h : MapAt P k w b n f) (hs : ∀ x v, f x = some v → 1 ≤ x ∧ x ≤ (N : Int)) : MapAt P k w b N f := by
  obtain ⟨D, ⟨es, clock, hb, F, hn, rfl⟩, hT⟩ := h
  refine ⟨_, ⟨es, clock, hb, F, ?_, rfl⟩, hT⟩
  have K := int_keyed hk
  have hp := fit_apart K F
  have hp2 : ((es.toList.map (WideElems.rg P k raw)).map (·.1)).Pairwise (· ≠ ·) := List.pairwise_map.2 hp
  classical
  have h1 := apart_le ((es.toList.map (WideElems.rg P k raw)).map (·.1)) ((List.range N).map (fun (j : Nat) => key ((j : Int) + 1))) hp2 (fun kl hkl => by
    obtain ⟨p, hp, rfl⟩ := List.mem_map.1 hkl
    obtain ⟨x, hx, rfl⟩ := List.mem_map.1 hp
    obtain ⟨y, hy⟩ := F.reads x hx
    have m1 := WideElems.rd_key hy
    rw [WideElems.rg_of hy]
    obtain ⟨i, hxi, h2, h3⟩ := Maps.keyOf_int_inv hk m1
    rcases Maps.fit_look (R := raw) false K ht hz hb F m1 with ⟨_, hno, _⟩ | ⟨e0, y0, _, _, _, _, hat, _⟩
    · exact absurd rfl (hno x hx)
    · have hh := Maps.has_true_of_atKey hat
      cases hf : f i with
      | none =>
        have h4 := (hT i).1 hf
        rw [h2] at hh
        rw [show key i = Lit.int .i64 i from rfl] at h4
        rw [h4] at hh
        cases hh
      | some v =>
        obtain ⟨ha, hb⟩ := hs i v hf
        refine List.mem_map.2 ⟨(i - 1).toNat, List.mem_range.2 (by omega), ?_⟩
        rw [h2]
        show key _ = key i
        congr 1
        omega)
  simpa using h1
end Go.Proofs.Ytoeokdachojhjaa
