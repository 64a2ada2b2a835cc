/-
  Servers that all look in one round: the net at the start, and at the end, when nothing is under way.
  No program in sight.
-/
import Derived.Test.YtmikenagaihoiaaVoteL
namespace Go.Proofs.Ytmikenagaihoiaa
open Go.RowKit
set_option linter.unusedSectionVars false
set_option linter.unusedSimpArgs false
set_option linter.unusedVariables false

def ownOf (ep zx : Int → Int) (i : Int) : Vt := ⟨ep i, zx i, i⟩
def LV (N : Nat) (ep zx : Int → Int) (i : Int) : Vr := Vr.look i N 1 (ep i) (zx i)
def firstU (N : Nat) (ep zx : Int → Int) : Nat → List Cs
  | 0 => []
  | k + 1 => firstU N ep zx k ++ (LV N ep zx ((k : Int) + 1)).casts

theorem mem_firstU (N : Nat) (ep zx : Int → Int) (c : Cs) : ∀ k : Nat, c ∈ firstU N ep zx k ↔ ∃ j, 1 ≤ j ∧ j ≤ (k : Int) ∧ 1 ≤ c.tox ∧ c.tox ≤ (N : Int) ∧ c.tox ≠ j ∧ c.n = (LV N ep zx j).note
  | 0 => by
    rw [firstU]
    simp only [List.not_mem_nil, false_iff]
    rintro ⟨j, h1, h2, _⟩
    omega
  | k + 1 => by
    rw [firstU, List.mem_append, mem_firstU N ep zx c k, Vr.casts, mem_upto]
    have hs : (((LV N ep zx ((k : Int) + 1)).servers.toNat : Nat) : Int) = (N : Int) := by show (((N : Int).toNat : Nat) : Int) = _; omega
    have hm : (LV N ep zx ((k : Int) + 1)).me = (k : Int) + 1 := rfl
    rw [hs, hm]
    constructor
    · rintro (⟨j, h1, h2, h3⟩ | ⟨h1, h2, h3, h4⟩)
      · exact ⟨j, h1, by omega, h3⟩
      · exact ⟨(k : Int) + 1, by omega, by omega, h1, h2, h3, h4⟩
    · rintro ⟨j, h1, h2, h3, h4, h5, h6⟩
      by_cases hj : j = (k : Int) + 1
      · subst hj; exact .inr ⟨h3, h4, h5, h6⟩
      · exact .inl ⟨j, h1, by omega, h3, h4, h5, h6⟩

theorem firstU_len (N : Nat) (ep zx : Int → Int) : ∀ k : Nat, k ≤ N → (firstU N ep zx k).length + k = k * N
  | 0, _ => by simp [firstU]
  | k + 1, h => by
    rw [firstU, List.length_append]
    have h1 := firstU_len N ep zx k (by omega)
    have h2 : (LV N ep zx ((k : Int) + 1)).casts.length + 1 = N := by
      rw [Vr.casts]
      have hs : (LV N ep zx ((k : Int) + 1)).servers.toNat = N := by show (N : Int).toNat = N; omega
      rw [hs]
      exact upto_len1 _ (by show (1 : Int) ≤ (k : Int) + 1; omega) N (by show (k : Int) + 1 ≤ _; omega)
    rw [Nat.succ_mul]
    omega

theorem look_lo {N : Nat} (ep zx : Int → Int) (hN : N ≤ 1000) {i : Int} (hi : In N i) : Lo N i (LV N ep zx i).counted := by
  have hok := look_ok i N (ep i) (zx i) hi.1 hi.2 (by omega)
  have hw := counted_wait (LV N ep zx i) (.inl rfl)
  have ht := counted_tally (LV N ep zx i)
  obtain ⟨x, hx⟩ := counted_eq (LV N ep zx i)
  refine ⟨hok, by rw [hx]; rfl, by rw [hx]; rfl, by rw [hx]; rfl, by rw [hx]; rfl, ?_, ?_⟩
  · rw [hw, ht, show (LV N ep zx i).counted.servers = (LV N ep zx i).servers by rw [hx]]
  · rw [hx]
    show put1 (fun _ => none) i _ i = some _
    unfold put1
    rw [if_pos rfl]
    rfl

theorem Nt.first {N : Nat} (ep zx : Int → Int) (hN : N ≤ 1000) : Nt N (ownOf ep zx) (fun i => (LV N ep zx i).counted) (firstU N ep zx N) := by
  have hv : ∀ i, (LV N ep zx i).counted.vote = ownOf ep zx i := fun i => by
    obtain ⟨x, hx⟩ := counted_eq (LV N ep zx i)
    rw [hx]; rfl
  have hh : ∀ i f, i ≠ f → (LV N ep zx i).counted.heard f = none := fun i f hif => by
    obtain ⟨x, hx⟩ := counted_eq (LV N ep zx i)
    rw [hx]
    show put1 (fun _ => none) i _ f = none
    unfold put1
    rw [if_neg (fun e => hif e.symm)]
  refine ⟨fun i hi => look_lo ep zx hN hi, fun i hi => ⟨i, hi, hv i⟩, fun i hi => by rw [hv]; exact Vt.le_refl _, ?_, ?_, ?_⟩
  · intro c hc
    obtain ⟨j, h1, h2, h3, h4, h5, h6⟩ := (mem_firstU N ep zx c N).1 hc
    have e1 : c.n.fr = j := by rw [h6]; rfl
    have e2 : c.n.of = ownOf ep zx j := by rw [h6]; rfl
    refine ⟨⟨h3, h4⟩, by rw [e1]; exact ⟨h1, h2⟩, by rw [e1]; exact fun e => h5 e.symm, by rw [h6]; rfl, by rw [h6]; rfl, ⟨j, ⟨h1, h2⟩, e2⟩, ?_⟩
    rw [e1, e2, hv]
    exact Vt.le_refl _
  · intro i f y hi hf hif hy
    rw [hh i f hif] at hy
    cases hy
  · intro i f hi hf hif
    right
    refine ⟨⟨i, (LV N ep zx f).note⟩, (mem_firstU N ep zx _ N).2 ⟨f, hf.1, hf.2, hi.1, hi.2, hif, rfl⟩, rfl, rfl, ?_⟩
    rw [hv]; rfl

theorem pot_first {N : Nat} (ep zx : Int → Int) (hN : N ≤ 7) : pot N (ownOf ep zx) (fun i => (LV N ep zx i).counted) (firstU N ep zx N) ≤ 400 := by
  show (firstU N ep zx N).length + (N - 1) * sumI (fun i => rank N (ownOf ep zx) (LV N ep zx i).counted.vote) N ≤ 400
  have h1 := firstU_len N ep zx N (Nat.le_refl _)
  have h2 : sumI (fun i => rank N (ownOf ep zx) (LV N ep zx i).counted.vote) N ≤ N * N := sumI_le (fun y => cnt_le _ _)
  have h3 := Nat.mul_le_mul (show N - 1 ≤ 6 by omega) h2
  have h4 := Nat.mul_le_mul hN hN
  omega

theorem Nt.done {N : Nat} {own : Int → Vt} {V : Int → Vr} (h : Nt N own V []) {i : Int} (hi : In N i) :
    (V i).wait = 2 ∧ (V i).tick.wait = 1 ∧ (V i).tick.servers = N ∧ (V i).tick.tick.does = 2 ∧ (V i).tick.tick.vote = bestOf own N ∧ (V i).tick.tick.round = 1 := by
  have hsent : ∀ a b, In N a → In N b → a ≠ b → (V a).heard b = some (V b).vote := fun a b ha hb hab => by
    rcases h.sent a b ha hb hab with p | ⟨c, hc, _⟩
    · exact p
    · cases hc
  have hle : ∀ a b, In N a → In N b → (V b).vote.le (V a).vote := fun a b ha hb => by
    by_cases hab : a = b
    · rw [hab]; exact Vt.le_refl _
    · exact (h.past a b _ ha hb hab (hsent a b ha hb hab)).2
  have heq : ∀ a, In N a → (V a).vote = (V i).vote := fun a ha => Vt.le_antisymm (hle i a hi ha) (hle a i ha hi)
  have hbest : (V i).vote = bestOf own N := by
    refine Vt.le_antisymm ?_ ?_
    · obtain ⟨j, hj, e⟩ := h.from_ i hi
      rw [e]
      exact bestOf_le own N j hj.1 hj.2
    · obtain ⟨j, h1, h2, e⟩ := bestOf_mem own N
      have hj : In N j := ⟨h1, by have := hi.1; have := hi.2; omega⟩
      rw [e, ← heq j hj]
      exact h.up j hj
  have hL := h.lo i hi
  have hta : (V i).tally = N := by
    unfold Vr.tally
    rw [hL.sv, show (N : Int).toNat = N by omega]
    refine cnt_all fun f h1 h2 => ?_
    show decide ((V i).heard f = some (V i).vote) = true
    by_cases hf : f = i
    · rw [hf]
      have := hL.mine
      rw [hL.me] at this
      simpa using this
    · have := hsent i f hi ⟨h1, h2⟩ (fun e => hf e.symm)
      rw [this, heq f ⟨h1, h2⟩]
      simp
  have hw : (V i).wait = 2 := by
    rw [hL.wait, hta, hL.sv, if_pos (by have := hi.1; have := hi.2; omega)]
  have t1 : (V i).tick = { V i with wait := 1 } := by
    unfold Vr.tick
    rw [if_neg (by rw [hL.does]; simp), if_neg (by rw [hw]; omega), if_neg (by rw [hw]; omega), hw]
    rfl
  have t2 : (V i).tick.tick = { V i with wait := 0, does := 2 } := by
    rw [t1]
    unfold Vr.tick
    rw [if_neg (by show ¬ (V i).does ≠ 1; rw [hL.does]; simp), if_neg (by show ¬ (1 : Int) = 0; omega), if_pos (by show (1 : Int) - 1 = 0; omega)]
    rfl
  rw [t2]
  refine ⟨hw, by rw [t1], by rw [t1]; exact hL.sv, rfl, hbest, hL.ro⟩
end Go.Proofs.Ytmikenagaihoiaa
