/-
  Servers that all look in one round: what they hold, and what is under way, step by step; in the end all hold the best vote.
  No program in sight.
-/
import Derived.Test.YtmikenagaihoiaaVoteJ
import Derived.Test.YtmikenagaihoiaaVoteOrder
namespace Go.Proofs.Ytmikenagaihoiaa
open Go.RowKit
set_option linter.unusedSectionVars false
set_option linter.unusedSimpArgs false
set_option linter.unusedVariables false

/-! ### votes in their order -/

def Vt.le (x y : Vt) : Prop := x.better y = false
theorem Vt.le_iff (x y : Vt) : x.le y ↔ ¬ (y.e < x.e ∨ (x.e = y.e ∧ (y.z < x.z ∨ (x.z = y.z ∧ y.l < x.l)))) := by
  unfold Vt.le
  rw [← Vt.better_iff, Bool.not_eq_true]
theorem Vt.le_refl (x : Vt) : x.le x := Vt.better_self x
theorem Vt.le_trans {x y z : Vt} (h1 : x.le y) (h2 : y.le z) : x.le z := by
  rw [Vt.le_iff] at *
  omega
theorem Vt.le_antisymm {x y : Vt} (h1 : x.le y) (h2 : y.le x) : x = y := by
  rw [Vt.le_iff] at *
  cases x; cases y
  simp only [Vt.mk.injEq] at *
  omega
theorem Vt.le_of_better {x y : Vt} (h : x.better y = true) : y.le x := by
  rw [Vt.better_iff] at h
  rw [Vt.le_iff]
  omega
theorem Vt.not_le_of_better {x y : Vt} (h : x.better y = true) : ¬ x.le y := by
  unfold Vt.le
  rw [h]
  simp

/-! ### counts and sums -/

theorem cnt_imp {p q : Int → Bool} : ∀ {n : Nat}, (∀ y, p y = true → q y = true) → cnt p n ≤ cnt q n
  | 0, _ => Nat.le_refl _
  | k + 1, h => by
    rw [cnt, cnt]
    have h1 := cnt_imp (n := k) h
    by_cases hp : p ((k : Int) + 1) = true
    · rw [if_pos hp, if_pos (h _ hp)]; omega
    · rw [if_neg hp]; omega
theorem cnt_lt {p q : Int → Bool} {x : Int} : ∀ {n : Nat}, (∀ y, p y = true → q y = true) → p x = false → q x = true → 1 ≤ x → x ≤ (n : Int) → cnt p n + 1 ≤ cnt q n
  | 0, _, _, _, h1, h2 => by omega
  | k + 1, h, hp, hq, h1, h2 => by
    rw [cnt, cnt]
    by_cases hx : x = (k : Int) + 1
    · rw [← hx, hp, hq]
      have := cnt_imp (n := k) h
      simp; omega
    · have := cnt_lt (n := k) h hp hq h1 (by omega)
      by_cases hp : p ((k : Int) + 1) = true
      · rw [if_pos hp, if_pos (h _ hp)]; omega
      · rw [if_neg hp]; omega
theorem cnt_all {p : Int → Bool} : ∀ {n : Nat}, (∀ y, 1 ≤ y → y ≤ (n : Int) → p y = true) → cnt p n = n
  | 0, _ => rfl
  | k + 1, h => by rw [cnt, cnt_all (fun y h1 h2 => h y h1 (by omega)), h _ (by omega) (by omega)]; simp

def sumI (f : Int → Nat) : Nat → Nat
  | 0 => 0
  | k + 1 => sumI f k + f ((k : Int) + 1)
theorem sumI_same {f g : Int → Nat} : ∀ {n : Nat}, (∀ y, 1 ≤ y → y ≤ (n : Int) → f y = g y) → sumI f n = sumI g n
  | 0, _ => rfl
  | k + 1, h => by rw [sumI, sumI, sumI_same (fun y h1 h2 => h y h1 (by omega)), h _ (by omega) (by omega)]
theorem sumI_set {f g : Int → Nat} {x : Int} : ∀ {n : Nat}, (∀ y, y ≠ x → f y = g y) → 1 ≤ x → x ≤ (n : Int) → sumI f n + g x = sumI g n + f x
  | 0, _, h1, h2 => by omega
  | k + 1, h, h1, h2 => by
    rw [sumI, sumI]
    by_cases hx : x = (k : Int) + 1
    · rw [← hx, sumI_same (f := f) (g := g) (fun y _ h4 => h y (by omega))]; omega
    · have := sumI_set (n := k) h h1 (by omega)
      rw [h ((k : Int) + 1) (fun e => hx e.symm)]; omega
theorem sumI_le {f : Int → Nat} {m : Nat} : ∀ {n : Nat}, (∀ y, f y ≤ m) → sumI f n ≤ n * m
  | 0, _ => by simp [sumI]
  | k + 1, h => by
    rw [sumI]
    have := sumI_le (n := k) h
    have := h ((k : Int) + 1)
    rw [Nat.succ_mul]; omega

/-! ### casts -/

theorem mem_upto (V : Vr) (c : Cs) : ∀ k : Nat, c ∈ V.upto k ↔ (1 ≤ c.tox ∧ c.tox ≤ (k : Int) ∧ c.tox ≠ V.me ∧ c.n = V.note)
  | 0 => by
    rw [Vr.upto]
    simp
    omega
  | k + 1 => by
    rw [Vr.upto, List.mem_append, mem_upto V c k]
    by_cases hm : (k : Int) + 1 = V.me
    · rw [if_pos hm]
      simp only [List.not_mem_nil, or_false]
      constructor
      · rintro ⟨h1, h2, h3, h4⟩; exact ⟨h1, by omega, h3, h4⟩
      · rintro ⟨h1, h2, h3, h4⟩; exact ⟨h1, by omega, h3, h4⟩
    · rw [if_neg hm]
      simp only [List.mem_cons, List.not_mem_nil, or_false]
      constructor
      · rintro (⟨h1, h2, h3, h4⟩ | rfl)
        · exact ⟨h1, by omega, h3, h4⟩
        · exact ⟨by show 1 ≤ (k : Int) + 1; omega, by show (k : Int) + 1 ≤ _; omega, hm, rfl⟩
      · rintro ⟨h1, h2, h3, h4⟩
        by_cases hk : c.tox = (k : Int) + 1
        · right; obtain ⟨t, n⟩ := c; simp only at hk h4; rw [hk, h4]
        · left; exact ⟨h1, by omega, h3, h4⟩
theorem upto_len1 (V : Vr) (h1 : 1 ≤ V.me) : ∀ k : Nat, V.me ≤ (k : Int) → (V.upto k).length + 1 = k
  | 0, h => by omega
  | k + 1, h => by
    rw [Vr.upto, List.length_append]
    by_cases hm : (k : Int) + 1 = V.me
    · rw [if_pos hm]
      have : ∀ j : Nat, (j : Int) < V.me → (V.upto j).length = j := by
        intro j
        induction j with
        | zero => intro _; rfl
        | succ j ih =>
          intro hj
          rw [Vr.upto, List.length_append, ih (by omega), if_neg (by omega)]; rfl
      rw [this k (by omega)]; rfl
    · rw [if_neg hm]
      have := upto_len1 V h1 k (by omega)
      simp; omega

/-! ### the best of all -/

def bestOf (own : Int → Vt) : Nat → Vt
  | 0 => own 1
  | k + 1 => if (own ((k : Int) + 1)).better (bestOf own k) then own ((k : Int) + 1) else bestOf own k
theorem bestOf_le (own : Int → Vt) : ∀ k : Nat, ∀ j, 1 ≤ j → j ≤ (k : Int) → (own j).le (bestOf own k)
  | 0, j, h1, h2 => by omega
  | k + 1, j, h1, h2 => by
    rw [bestOf]
    by_cases hb : (own ((k : Int) + 1)).better (bestOf own k) = true
    · rw [if_pos hb]
      by_cases hj : j = (k : Int) + 1
      · rw [hj]; exact Vt.le_refl _
      · exact Vt.le_trans (bestOf_le own k j h1 (by omega)) (Vt.le_of_better hb)
    · rw [if_neg hb]
      by_cases hj : j = (k : Int) + 1
      · rw [hj]; simpa [Vt.le] using hb
      · exact bestOf_le own k j h1 (by omega)
theorem bestOf_mem (own : Int → Vt) : ∀ k : Nat, ∃ j, 1 ≤ j ∧ j ≤ max (k : Int) 1 ∧ bestOf own k = own j
  | 0 => ⟨1, by omega, by omega, rfl⟩
  | k + 1 => by
    rw [bestOf]
    split
    · exact ⟨(k : Int) + 1, by omega, by omega, rfl⟩
    · obtain ⟨j, h1, h2, h3⟩ := bestOf_mem own k
      exact ⟨j, h1, by omega, h3⟩
end Go.Proofs.Ytmikenagaihoiaa
