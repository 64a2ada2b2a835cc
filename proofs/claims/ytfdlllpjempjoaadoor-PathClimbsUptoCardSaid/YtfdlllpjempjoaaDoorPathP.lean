/-
  Plain laws on paths as lists of bytes: cut at each '/', names, Parent, Base, Kid, Under.
  Conditions: each law states its own.
-/
import Derived.WalkKit
namespace Go.Proofs.YtfdlllpjempjoaaDoor
open Go.RowKit
set_option linter.unusedSimpArgs false

/-! ### Cut at each '/' -/

def parts : List UInt8 → List (List UInt8)
  | [] => [[]]
  | c :: l => if c = 47 then [] :: parts l else match parts l with
    | [] => [[c]]
    | h :: t => (c :: h) :: t
theorem parts_ne : ∀ l, parts l ≠ []
  | [] => by simp [parts]
  | c :: l => by
    rw [parts]
    split
    · simp
    · split <;> simp
theorem parts_slash (l : List UInt8) : parts (47 :: l) = [] :: parts l := by rw [parts, if_pos rfl]
theorem parts_other {c : UInt8} (h : c ≠ 47) (l : List UInt8) : ∃ x t, parts l = x :: t ∧ parts (c :: l) = (c :: x) :: t := by
  rw [parts, if_neg h]
  cases hp : parts l with
  | nil => exact absurd hp (parts_ne l)
  | cons x t => exact ⟨x, t, rfl, rfl⟩

/-- Names, each with '/' ahead. -/
def joinL (ns : List (List UInt8)) : List UInt8 := ns.flatMap (47 :: ·)
theorem joinL_nil : joinL [] = [] := rfl
theorem joinL_cons (n : List UInt8) (ns : List (List UInt8)) : joinL (n :: ns) = 47 :: (n ++ joinL ns) := rfl
theorem joinL_append (a b : List (List UInt8)) : joinL (a ++ b) = joinL a ++ joinL b := List.flatMap_append

theorem parts_mid : ∀ (x y : List UInt8), parts (x ++ 47 :: y) = parts x ++ parts y
  | [], y => by rw [List.nil_append, parts_slash]; rfl
  | c :: x, y => by
    by_cases h : c = 47
    · subst h; rw [List.cons_append, parts_slash, parts_slash, parts_mid x y]; rfl
    · obtain ⟨a, t, h1, h2⟩ := parts_other h x
      obtain ⟨a', t', h3, h4⟩ := parts_other h (x ++ 47 :: y)
      rw [List.cons_append, h4, h2]
      rw [parts_mid x y, h1, List.cons_append] at h3
      simp only [List.cons.injEq] at h3
      rw [← h3.1, ← h3.2]; rfl
theorem parts_clean : ∀ (y : List UInt8), (47 : UInt8) ∉ y → parts y = [y]
  | [], _ => rfl
  | c :: y, h => by
    simp only [List.mem_cons, not_or] at h
    obtain ⟨a, t, h1, h2⟩ := parts_other (Ne.symm h.1) y
    rw [parts_clean y h.2] at h1
    simp only [List.cons.injEq] at h1
    rw [h2, ← h1.1, ← h1.2]
theorem parts_no : ∀ (l : List UInt8) (x : List UInt8), x ∈ parts l → (47 : UInt8) ∉ x
  | [], x, h => by simp [parts] at h; subst h; simp
  | c :: l, x, h => by
    by_cases hc : c = 47
    · subst hc
      rw [parts_slash] at h
      rcases List.mem_cons.1 h with rfl | h
      · simp
      · exact parts_no l x h
    · obtain ⟨a, t, h1, h2⟩ := parts_other hc l
      rw [h2] at h
      rcases List.mem_cons.1 h with rfl | h
      · have := parts_no l a (by rw [h1]; exact List.mem_cons_self)
        simp only [List.mem_cons, not_or]
        exact ⟨Ne.symm hc, this⟩
      · exact parts_no l x (by rw [h1]; exact List.mem_cons_of_mem _ h)
/-- A text is its first piece, and names with '/' ahead. -/
theorem join_parts : ∀ (l : List UInt8), ∃ a ns, parts l = a :: ns ∧ l = a ++ joinL ns
  | [] => ⟨[], [], rfl, rfl⟩
  | c :: l => by
    obtain ⟨a, ns, h1, h2⟩ := join_parts l
    by_cases hc : c = 47
    · subst hc
      refine ⟨[], a :: ns, by rw [parts_slash, h1], ?_⟩
      rw [List.nil_append, joinL_cons, ← h2]
    · obtain ⟨a', t, h3, h4⟩ := parts_other hc l
      rw [h1] at h3
      simp only [List.cons.injEq] at h3
      refine ⟨c :: a, ns, by rw [h4, h3.1, h3.2], ?_⟩
      rw [List.cons_append, ← h2]
theorem parts_join : ∀ (ns : List (List UInt8)), (∀ n ∈ ns, (47 : UInt8) ∉ n) → parts (joinL ns) = [] :: ns
  | [], _ => rfl
  | n :: ns, h => by
    have hn := h n List.mem_cons_self
    have ih := parts_join ns (fun x hx => h x (List.mem_cons_of_mem _ hx))
    rw [joinL_cons, parts_slash]
    cases ns with
    | nil => rw [joinL_nil, List.append_nil, parts_clean n hn]
    | cons m ms =>
      rw [joinL_cons, parts_mid, parts_clean n hn]
      rw [joinL_cons, parts_slash] at ih
      rw [List.cons.inj ih |>.2]; rfl

/-! ### Names and paths -/

def nmB (c : Nat) : Bool := (decide (97 ≤ c) && decide (c ≤ 122)) || (decide (65 ≤ c) && decide (c ≤ 90)) || (decide (48 ≤ c) && decide (c ≤ 57)) || decide (c = 95) || decide (c = 45) || decide (c = 46)
def isNm (l : List UInt8) : Bool := l.all (fun b => nmB b.toNat) && decide (l ≠ []) && decide (l ≠ [46]) && decide (l ≠ [46, 46])
theorem isNm_no {l : List UInt8} (h : isNm l = true) : (47 : UInt8) ∉ l := by
  intro hm
  simp only [isNm, Bool.and_eq_true] at h
  have := List.all_eq_true.1 h.1.1.1 47 hm
  exact absurd this (by decide)
theorem isNm_ne {l : List UInt8} (h : isNm l = true) : l ≠ [] := by
  simp only [isNm, Bool.and_eq_true, decide_eq_true_eq] at h
  exact h.1.1.2

/-- A text is names, each with '/' ahead. -/
def formL (l : List UInt8) : Bool := match parts l with
  | [] => false
  | a :: ns => decide (a = []) && decide (ns ≠ []) && ns.all isNm
def checkL (l : List UInt8) : Int := if l = [47] then 0 else if formL l = false then 40 else if 60 < l.length ∨ 6 < (parts l).length - 1 then 41 else 0

def pathOf (ns : List (List UInt8)) : List UInt8 := if ns = [] then [47] else joinL ns
theorem pathOf_ne {ns : List (List UInt8)} (h : ns ≠ []) : pathOf ns = joinL ns := if_neg h
theorem form_iff (l : List UInt8) : formL l = true ↔ ∃ ns, ns ≠ [] ∧ ns.all isNm = true ∧ l = joinL ns ∧ parts l = [] :: ns := by
  obtain ⟨a, ns, h1, h2⟩ := join_parts l
  rw [formL, h1]
  simp only [Bool.and_eq_true, decide_eq_true_eq]
  constructor
  · rintro ⟨⟨rfl, hn⟩, ha⟩
    exact ⟨ns, hn, ha, by rw [h2]; rfl, rfl⟩
  · rintro ⟨ns', hn, ha, h3, h4⟩
    simp only [List.cons.injEq] at h4
    obtain ⟨rfl, rfl⟩ := h4
    exact ⟨⟨rfl, hn⟩, ha⟩
/-- What may be a path. -/
def Good (ns : List (List UInt8)) : Prop := ns.all isNm = true ∧ ns.length ≤ 6 ∧ (pathOf ns).length ≤ 60
theorem Good.no {ns : List (List UInt8)} (h : Good ns) : ∀ n ∈ ns, (47 : UInt8) ∉ n := fun n hn => isNm_no (List.all_eq_true.1 h.1 n hn)
theorem joinL_one {ns : List (List UInt8)} (h : ns.all isNm = true) (hn : ns ≠ []) : joinL ns ≠ [47] := by
  intro e
  have := congrArg parts e
  rw [parts_join ns (fun n hn => isNm_no (List.all_eq_true.1 h n hn)), show parts [47] = [[], []] from rfl] at this
  have hns : ns = [[]] := (List.cons.inj this).2
  rw [hns] at h
  simp [isNm] at h
theorem check_iff (l : List UInt8) : checkL l = 0 ↔ ∃ ns, Good ns ∧ l = pathOf ns := by
  rw [checkL]
  by_cases h : l = [47]
  · rw [if_pos h]
    exact ⟨fun _ => ⟨[], ⟨rfl, by simp, by simp [pathOf]⟩, h⟩, fun _ => rfl⟩
  · rw [if_neg h]
    by_cases hf : formL l = false
    · rw [if_pos hf]
      constructor
      · intro e; omega
      · rintro ⟨ns, hg, hl⟩
        by_cases hn : ns = []
        · subst hn; exact absurd hl h
        · rw [pathOf_ne hn] at hl
          have : formL l = true := (form_iff l).2 ⟨ns, hn, hg.1, hl, by rw [hl]; exact parts_join ns hg.no⟩
          rw [this] at hf; cases hf
    · rw [if_neg hf]
      simp only [Bool.not_eq_false] at hf
      obtain ⟨ns, hn, ha, hl, hp⟩ := (form_iff l).1 hf
      rw [hp, List.length_cons, Nat.add_sub_cancel]
      split
      · rename_i hx
        constructor
        · intro e; omega
        · rintro ⟨ns', hg, hl'⟩
          exfalso
          have hn' : ns' ≠ [] := fun e => h (by rw [hl', e]; rfl)
          rw [pathOf_ne hn'] at hl'
          have hpp := parts_join ns' hg.no
          rw [← hl', hp] at hpp
          obtain rfl := (List.cons.inj hpp).2
          have h3 := hg.2.2
          rw [pathOf_ne hn', ← hl'] at h3
          have := hg.2.1
          omega
      · rename_i hx
        exact ⟨fun _ => ⟨ns, ⟨ha, by omega, by rw [pathOf_ne hn, ← hl]; omega⟩, by rw [pathOf_ne hn, hl]⟩, fun _ => rfl⟩

/-! ### The last '/' -/

def lastCut : List UInt8 → Option (List UInt8 × List UInt8)
  | [] => none
  | c :: l => match lastCut l with
    | some (x, y) => some (c :: x, y)
    | none => if c = 47 then some ([], l) else none
theorem lastCut_none : ∀ {l : List UInt8}, lastCut l = none ↔ (47 : UInt8) ∉ l
  | [] => by simp [lastCut]
  | c :: l => by
    rw [lastCut]
    cases h : lastCut l with
    | some z =>
      have : ¬ (47 : UInt8) ∉ l := fun hn => by rw [lastCut_none.2 hn] at h; cases h
      simp only [List.mem_cons, not_or]
      exact ⟨fun e => (by cases e), fun hn => absurd hn.2 this⟩
    | none =>
      have hl := lastCut_none.1 h
      simp only [List.mem_cons, not_or]
      by_cases hc : c = 47
      · simp [hc]
      · simp [hc, hl, Ne.symm hc]
theorem lastCut_mk : ∀ (x y : List UInt8), (47 : UInt8) ∉ y → lastCut (x ++ 47 :: y) = some (x, y)
  | [], y, h => by rw [List.nil_append, lastCut, lastCut_none.2 h]; simp
  | c :: x, y, h => by rw [List.cons_append, lastCut, lastCut_mk x y h]
theorem lastCut_some : ∀ {l x y : List UInt8}, lastCut l = some (x, y) → l = x ++ 47 :: y ∧ (47 : UInt8) ∉ y
  | [], x, y, h => by simp [lastCut] at h
  | c :: l, x, y, h => by
    rw [lastCut] at h
    cases hl : lastCut l with
    | some z =>
      obtain ⟨a, b⟩ := z
      rw [hl] at h
      simp only [Option.some.injEq, Prod.mk.injEq] at h
      obtain ⟨rfl, rfl⟩ := h
      obtain ⟨h1, h2⟩ := lastCut_some hl
      exact ⟨by rw [h1]; rfl, h2⟩
    | none =>
      rw [hl] at h
      by_cases hc : c = 47
      · simp only [hc, if_true, Option.some.injEq, Prod.mk.injEq] at h
        obtain ⟨rfl, rfl⟩ := h
        exact ⟨by rw [hc]; rfl, lastCut_none.1 hl⟩
      · simp [hc] at h

def parentL (l : List UInt8) : List UInt8 := match lastCut l with
  | none => []
  | some (x, _) => if l = [47] then [] else if x = [] then [47] else x
def baseL (l : List UInt8) : List UInt8 := match lastCut l with
  | none => l
  | some (_, y) => y
def kidL (p n : List UInt8) : List UInt8 := (if p = [47] then [] else p) ++ 47 :: n
def underL (p q : List UInt8) : Bool := (kidL q []).isPrefixOf p && decide (p ≠ kidL q [])

/-! ### A path and what it comes of -/

theorem joinL_snoc (ns : List (List UInt8)) (n : List UInt8) : joinL (ns ++ [n]) = joinL ns ++ 47 :: n := by
  rw [joinL_append]; simp [joinL]
theorem joinL_empty {ns : List (List UInt8)} : joinL ns = [] ↔ ns = [] := by
  cases ns with
  | nil => simp [joinL]
  | cons n ns => simp [joinL_cons]
theorem pathOf_snoc (ns : List (List UInt8)) (n : List UInt8) : pathOf (ns ++ [n]) = joinL ns ++ 47 :: n := by
  rw [pathOf_ne (by simp), joinL_snoc]
theorem pathOf_root {ns : List (List UInt8)} (h : ns.all isNm = true) : pathOf ns = [47] ↔ ns = [] := by
  constructor
  · intro e
    by_cases hn : ns = []
    · exact hn
    · rw [pathOf_ne hn] at e; exact absurd e (joinL_one h hn)
  · rintro rfl; rfl
theorem parent_snoc (ns : List (List UInt8)) (n : List UInt8) (h : (ns ++ [n]).all isNm = true) : parentL (pathOf (ns ++ [n])) = pathOf ns := by
  have hn : isNm n = true := List.all_eq_true.1 h n (by simp)
  have hr : pathOf (ns ++ [n]) ≠ [47] := fun e => by have := (pathOf_root h).1 e; simp at this
  rw [pathOf_snoc] at hr ⊢
  rw [parentL, lastCut_mk _ _ (isNm_no hn)]
  simp only [if_neg hr, joinL_empty]
  rw [pathOf]
theorem base_snoc (ns : List (List UInt8)) (n : List UInt8) (h : isNm n = true) : baseL (pathOf (ns ++ [n])) = n := by
  rw [pathOf_snoc, baseL, lastCut_mk _ _ (isNm_no h)]
theorem kid_path (ns : List (List UInt8)) (n : List UInt8) (h : ns.all isNm = true) : kidL (pathOf ns) n = joinL ns ++ 47 :: n := by
  rw [kidL]
  by_cases hn : ns = []
  · subst hn; rfl
  · rw [if_neg (fun e => hn ((pathOf_root h).1 e)), pathOf_ne hn]
theorem kid_snoc (ns : List (List UInt8)) (n : List UInt8) (h : ns.all isNm = true) : kidL (pathOf ns) n = pathOf (ns ++ [n]) := by
  rw [kid_path ns n h, pathOf_snoc]

/-- A path lies below another one just if its names go on where the other's end. -/
theorem under_iff (ms ks : List (List UInt8)) (hm : ms.all isNm = true) (hk : ks.all isNm = true) : underL (pathOf ms) (pathOf ks) = true ↔ ∃ r, r ≠ [] ∧ ms = ks ++ r := by
  have nm : ∀ n ∈ ms, (47 : UInt8) ∉ n := fun n hn => isNm_no (List.all_eq_true.1 hm n hn)
  have nk : ∀ n ∈ ks, (47 : UInt8) ∉ n := fun n hn => isNm_no (List.all_eq_true.1 hk n hn)
  rw [underL, kid_path ks [] hk]
  simp only [Bool.and_eq_true, decide_eq_true_eq, List.isPrefixOf_iff_prefix]
  constructor
  · rintro ⟨⟨t, ht⟩, hne⟩
    have ht' : pathOf ms = joinL ks ++ 47 :: t := by rw [← ht]; simp
    have htn : t ≠ [] := fun e => hne (by rw [ht', e])
    have hmn : ms ≠ [] := by
      rintro rfl
      have := congrArg List.length ht'
      cases t with
      | nil => exact htn rfl
      | cons c t => simp [pathOf] at this; omega
    rw [pathOf_ne hmn] at ht'
    have hp := congrArg parts ht'
    rw [parts_join ms nm, parts_mid, parts_join ks nk, List.cons_append] at hp
    exact ⟨parts t, parts_ne t, (List.cons.inj hp).2⟩
  · rintro ⟨r, hr, rfl⟩
    obtain ⟨n, r', rfl⟩ : ∃ n r', r = n :: r' := by
      cases r with
      | nil => exact absurd rfl hr
      | cons n r' => exact ⟨n, r', rfl⟩
    have hn : isNm n = true := List.all_eq_true.1 hm n (by simp)
    have e : pathOf (ks ++ n :: r') = joinL ks ++ 47 :: (n ++ joinL r') := by
      rw [pathOf_ne (by simp), joinL_append, joinL_cons]
    rw [e]
    refine ⟨⟨n ++ joinL r', by simp⟩, fun hx => ?_⟩
    have h1 := List.append_cancel_left hx
    simp only [List.cons.injEq, true_and, List.append_eq_nil_iff] at h1
    exact isNm_ne hn h1.1
end Go.Proofs.YtfdlllpjempjoaaDoor
