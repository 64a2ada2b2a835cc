/-
  Plain laws on paths: a name below a path (PathNames); the way up (PathClimbs); who lies below whom (PathOrder); ten digits.
  Conditions: each law states its own.
-/
import Derived.Test.YtfdlllpjempjoaaDoorPathP
namespace Go.Proofs.YtfdlllpjempjoaaDoor
open Go.RowKit
set_option linter.unusedSimpArgs false

/-! ### A name below a path -/

theorem check_cases (l : List UInt8) : checkL l = 0 ∨ checkL l = 40 ∨ checkL l = 41 := by
  rw [checkL]
  repeat' split
  all_goals simp
theorem check_form {l : List UInt8} (h : l ≠ [47]) : checkL l = 40 ↔ formL l = false := by
  rw [checkL, if_neg h]
  constructor
  · intro e
    by_cases hf : formL l = false
    · exact hf
    · rw [if_neg hf] at e
      split at e <;> omega
  · intro hf; rw [if_pos hf]
theorem form_kid (ns : List (List UInt8)) (n : List UInt8) (h : ns.all isNm = true) : formL (joinL ns ++ 47 :: n) = (parts n).all isNm := by
  have hp : parts (joinL ns ++ 47 :: n) = [] :: (ns ++ parts n) := by
    rw [parts_mid, parts_join ns (fun x hx => isNm_no (List.all_eq_true.1 h x hx))]; rfl
  rw [formL, hp]
  have hne : ns ++ parts n ≠ [] := by simp [parts_ne]
  simp [hne, h]
theorem kid_root (ns : List (List UInt8)) (n : List UInt8) (hn : n ≠ []) : joinL ns ++ 47 :: n ≠ [47] := by
  intro e
  have := congrArg List.length e
  cases n with
  | nil => exact hn rfl
  | cons c n => simp at this; omega

/-- PathNames, with no name: the path is the root's. -/
theorem names_empty (ns : List (List UInt8)) (h : Good ns) : (checkL (kidL (pathOf ns) []) = 0) ↔ pathOf ns = [47] := by
  rw [kid_path ns [] h.1]
  constructor
  · intro e
    by_cases hn : ns = []
    · subst hn; rfl
    · exfalso
      have hr : joinL ns ++ [47] ≠ [47] := by
        intro e2
        have h2 : joinL ns = [] := by
          have := congrArg List.length e2
          simp at this
          exact this
        exact hn (joinL_empty.1 h2)
      have hf : formL (joinL ns ++ [47]) = false := by
        rw [form_kid ns [] h.1]; rfl
      have := (check_form hr).2 hf
      omega
  · intro e
    rw [(pathOf_root h.1).1 e]; rfl
/-- PathNames, with a name: a form is kept. -/
theorem names_form (ns : List (List UInt8)) (n : List UInt8) (h : Good ns) (hn : n ≠ []) : (checkL (kidL (pathOf ns) n) = 40) ↔ (checkL (47 :: n) = 40) := by
  have h0 : (47 : UInt8) :: n ≠ [47] := kid_root [] n hn
  have := form_kid [] n rfl
  rw [joinL_nil, List.nil_append] at this
  rw [kid_path ns n h.1, check_form (kid_root ns n hn), check_form h0, form_kid ns n h.1, this]
theorem names_plain (ns : List (List UInt8)) (n : List UInt8) (h : Good ns) (hn : n ≠ []) (hc : checkL (47 :: n) ≠ 40) (hs : (47 : UInt8) ∉ n) :
    parentL (kidL (pathOf ns) n) = pathOf ns ∧ baseL (kidL (pathOf ns) n) = n ∧ underL (kidL (pathOf ns) n) (pathOf ns) = true := by
  have hf : formL (47 :: n) = true := by
    cases hx : formL (47 :: n) with
    | true => rfl
    | false => exact absurd ((check_form (kid_root [] n hn)).2 hx) hc
  have := form_kid [] n rfl
  rw [joinL_nil, List.nil_append, hf, parts_clean n hs] at this
  have hnm : isNm n = true := by simpa using this.symm
  have hall : (ns ++ [n]).all isNm = true := by simp [h.1, hnm]
  rw [kid_snoc ns n h.1]
  exact ⟨parent_snoc ns n hall, base_snoc ns n hnm, (under_iff _ _ hall h.1).2 ⟨[n], by simp, rfl⟩⟩

/-! ### The way up -/

theorem Good.front {ns : List (List UInt8)} (h : Good ns) (k : Nat) : Good (ns.take k) := by
  refine ⟨?_, by rw [List.length_take]; have := h.2.1; omega, ?_⟩
  · rw [List.all_eq_true]
    exact fun x hx => List.all_eq_true.1 h.1 x (List.mem_of_mem_take hx)
  · by_cases hk : ns.take k = []
    · rw [hk]; simp [pathOf]
    · have hn : ns ≠ [] := by rintro rfl; simp at hk
      have h3 := h.2.2
      rw [pathOf_ne hn] at h3
      rw [pathOf_ne hk]
      have e : joinL ns = joinL (ns.take k) ++ joinL (ns.drop k) := by rw [← joinL_append, List.take_append_drop]
      rw [e, List.length_append] at h3
      omega
theorem good_check {ns : List (List UInt8)} (h : Good ns) : checkL (pathOf ns) = 0 := (check_iff _).2 ⟨ns, h, rfl⟩

/-- One step up from a path that is not the root's. -/
theorem climb {ns : List (List UInt8)} (h : Good ns) {k : Nat} (hk : k < ns.length) :
    parentL (pathOf (ns.take (k + 1))) = pathOf (ns.take k) ∧ checkL (pathOf (ns.take k)) = 0 ∧ kidL (pathOf (ns.take k)) (baseL (pathOf (ns.take (k + 1)))) = pathOf (ns.take (k + 1)) ∧
    underL (pathOf (ns.take (k + 1))) (pathOf (ns.take k)) = true ∧ underL (pathOf ns) (pathOf (ns.take k)) = true ∧ underL (pathOf (ns.take k)) (pathOf (ns.take (k + 1))) = false ∧
    (pathOf (ns.take k)).length < (pathOf (ns.take (k + 1))).length ∧ pathOf (ns.take (k + 1)) ≠ [47] := by
  have e : ns.take (k + 1) = ns.take k ++ [ns[k]] := List.take_succ_eq_append_getElem hk
  have g0 := h.front k
  have g1 := h.front (k + 1)
  rw [e] at g1 ⊢
  have hnm : isNm ns[k] = true := List.all_eq_true.1 h.1 _ (List.getElem_mem _)
  refine ⟨parent_snoc _ _ g1.1, good_check g0, ?_, ?_, ?_, ?_, ?_, ?_⟩
  · rw [base_snoc _ _ hnm, kid_snoc _ _ g0.1]
  · exact (under_iff _ _ g1.1 g0.1).2 ⟨_, by simp, rfl⟩
  · exact (under_iff _ _ h.1 g0.1).2 ⟨ns.drop k, by intro h0; have := congrArg List.length h0; simp at this; omega, (List.take_append_drop k ns).symm⟩
  · cases hu : underL (pathOf (ns.take k)) (pathOf (ns.take k ++ [ns[k]])) with
    | false => rfl
    | true =>
      obtain ⟨r, _, hr⟩ := (under_iff _ _ g0.1 g1.1).1 hu
      have := congrArg List.length hr
      simp at this
      omega
  · rw [pathOf_snoc]
    by_cases h0 : ns.take k = []
    · rw [h0, joinL_nil]
      have := isNm_ne hnm
      cases hx : ns[k] with
      | nil => exact absurd hx this
      | cons c t => simp [pathOf]
    · rw [pathOf_ne h0]; simp
  · intro e2
    have := congrArg List.length ((pathOf_root g1.1).1 e2)
    rw [List.length_append] at this
    simp at this
theorem under_self {ns : List (List UInt8)} (h : Good ns) : underL (pathOf ns) (pathOf ns) = false := by
  cases hu : underL (pathOf ns) (pathOf ns) with
  | false => rfl
  | true =>
    obtain ⟨r, hr, he⟩ := (under_iff _ _ h.1 h.1).1 hu
    have := congrArg List.length he
    rw [List.length_append] at this
    exact absurd (List.eq_nil_of_length_eq_zero (by omega)) hr
theorem parent_root : parentL [47] = [] := by decide

/-- How many '/' a path has. -/
theorem slashes {ns : List (List UInt8)} (h : ∀ n ∈ ns, (47 : UInt8) ∉ n) : (joinL ns).countP (fun c => decide (c = 47)) = ns.length := by
  induction ns with
  | nil => rfl
  | cons n ns ih =>
    have hn := h n List.mem_cons_self
    rw [joinL_cons, List.countP_cons_of_pos (by simp), List.countP_append, ih (fun x hx => h x (List.mem_cons_of_mem _ hx))]
    have : n.countP (fun c => decide (c = 47)) = 0 := by
      rw [List.countP_eq_zero]
      intro c hc
      simp only [decide_eq_true_eq]
      rintro rfl
      exact hn hc
    rw [this, List.length_cons]; omega

/-- Below a path lie just those that come to it by Parent. -/
theorem under_way {ms ks : List (List UInt8)} (hm : Good ms) (hk : Good ks) : underL (pathOf ms) (pathOf ks) = true ↔ ∃ j, j < ms.length ∧ pathOf (ms.take j) = pathOf ks := by
  rw [under_iff ms ks hm.1 hk.1]
  constructor
  · rintro ⟨r, hr, he⟩
    refine ⟨ks.length, ?_, ?_⟩
    · rw [he, List.length_append]
      have : r.length ≠ 0 := fun h => hr (List.eq_nil_of_length_eq_zero h)
      omega
    · rw [he, List.take_left]
  · rintro ⟨j, hj, he⟩
    have inj : ms.take j = ks := by
      have g := hm.front j
      by_cases h1 : ms.take j = []
      · rw [h1] at he ⊢
        exact ((pathOf_root hk.1).1 he.symm).symm
      · have h2 : ks ≠ [] := by
          rintro rfl
          exact h1 ((pathOf_root g.1).1 he)
        rw [pathOf_ne h1, pathOf_ne h2] at he
        have := congrArg parts he
        rw [parts_join _ g.no, parts_join _ hk.no] at this
        exact (List.cons.inj this).2
    refine ⟨ms.drop j, fun h0 => ?_, by rw [← inj, List.take_append_drop]⟩
    have := congrArg List.length h0
    simp at this
    omega

/-! ### Ten digits -/

def dec (n : Nat) : UInt8 := UInt8.ofNat (48 + n)
def lowT : Nat → Nat → List UInt8
  | _, 0 => []
  | n, j + 1 => lowT (n / 10) j ++ [dec (n % 10)]
theorem lowT_length : ∀ (n j : Nat), (lowT n j).length = j
  | _, 0 => rfl
  | n, j + 1 => by rw [lowT, List.length_append, lowT_length]; rfl
theorem lowT_front : ∀ (n j : Nat), lowT n (j + 1) = dec (n / 10 ^ j % 10) :: lowT n j
  | n, 0 => by simp [lowT]
  | n, j + 1 => by
    rw [lowT, lowT_front (n / 10) j, lowT, Nat.div_div_eq_div_mul, Nat.pow_succ, Nat.mul_comm (10 ^ j) 10]
    rfl
def numL (p : List UInt8) (n : Int) : List UInt8 := p ++ lowT (max n 0).toNat 10
end Go.Proofs.YtfdlllpjempjoaaDoor
