/-
  The plain laws of numbers in sevens: what is laid is taken up again, what is taken up is laid again as it was, a beginning is too short.
  No condition.
-/
import Derived.Test.YtmbkbkfcbloafaaCodecD
namespace Go.Proofs.Ytmbkbkfcbloafaa
open Go.RowKit
set_option linter.unusedSimpArgs false
set_option linter.unusedVariables false
set_option maxRecDepth 100000

theorem sevens_ne (u : Nat) : sevens u ≠ [] := by rw [sevens]; split <;> simp
theorem byte_ofNat {n : Nat} (h : n < 256) : (UInt8.ofNat n).toNat = n := by simp [UInt8.toNat_ofNat]; omega

/-- What is laid is taken up. -/
theorem sv_back : ∀ (v k u : Nat) (l : List UInt8), (0 < k → v ≠ 0) → v * 128 ^ k < 18446744073709551616 → sv (sevens v ++ l) k u = (u + v * 128 ^ k, k + (sevens v).length, 0) := by
  intro v
  induction v using Nat.strongRecOn with
  | ind v ih =>
    intro k u l h0 hv
    have hk9 : v ≠ 0 → k ≤ 9 := fun hne => by
      rcases Nat.lt_or_ge 9 k with h | h
      · exfalso
        have h1 : (128 : Nat) ^ 10 ≤ 128 ^ k := Nat.pow_le_pow_right (by omega) h
        have h2 : 1 * 128 ^ k ≤ v * 128 ^ k := Nat.mul_le_mul_right _ (by omega)
        have h3 : (18446744073709551616 : Nat) ≤ 128 ^ 10 := by decide
        rw [Nat.one_mul] at h2
        exact absurd (Nat.lt_of_le_of_lt (Nat.le_trans h3 (Nat.le_trans h1 h2)) hv) (Nat.lt_irrefl _)
      · exact h
    have h9 : k = 9 → v ≤ 1 := fun e => by
      subst e
      rcases Nat.lt_or_ge 1 v with h | h
      · exfalso
        have h2 : 2 * 128 ^ 9 ≤ v * 128 ^ 9 := Nat.mul_le_mul_right _ h
        have h3 : (18446744073709551616 : Nat) ≤ 2 * 128 ^ 9 := by decide
        exact absurd (Nat.lt_of_le_of_lt (Nat.le_trans h3 h2) hv) (Nat.lt_irrefl _)
      · exact h
    by_cases hs : v < 128
    · rw [sevens_small hs, List.singleton_append]
      have hb : (UInt8.ofNat v).toNat = v := byte_ofNat (by omega)
      rw [sv_end (by rw [hb]; rintro (⟨h, h'⟩ | ⟨h, h'⟩); · exact absurd (h9 h) (by omega)
                     · exact h0 h' h) (by rw [hb]; exact hs), hb, Nat.mod_eq_of_lt hs]
      rfl
    · rw [sevens_big (by omega), List.cons_append]
      have hb : (UInt8.ofNat (v % 128 + 128)).toNat = v % 128 + 128 := byte_ofNat (by omega)
      have hk8 : k ≠ 9 := fun e => by have := h9 e; omega
      rw [sv_more (by rw [hb]; rintro (⟨h, h'⟩ | ⟨h, h'⟩)
                      · exact hk8 h
                      · omega) (by rw [hb]; omega), hb]
      have hmul : v / 128 * 128 ^ (k + 1) ≤ v * 128 ^ k := by
        rw [Nat.pow_succ, ← Nat.mul_assoc, Nat.mul_right_comm]
        exact Nat.mul_le_mul_right _ (Nat.div_mul_le_self v 128)
      rw [ih (v / 128) (by omega) (k + 1) _ l (fun _ => by omega) (Nat.lt_of_le_of_lt hmul hv)]
      have e1 : (v % 128 + 128) % 128 = v % 128 := by omega
      have e2 : v * 128 ^ k = v % 128 * 128 ^ k + v / 128 * 128 ^ (k + 1) := by
        rw [Nat.pow_succ, ← Nat.mul_assoc, Nat.mul_right_comm, ← Nat.add_mul]
        congr 1; omega
      rw [e1, e2, List.length_cons]
      simp only [Prod.mk.injEq, and_true]
      constructor <;> omega

/-- What is taken up is laid as it was. -/
theorem sv_canon : ∀ (l : List UInt8) (k u U n : Nat), sv l k u = (U, n, 0) → ∃ v, U = u + v * 128 ^ k ∧ n = k + (sevens v).length ∧ l.take (sevens v).length = sevens v ∧ (0 < k → v ≠ 0)
  | [], k, u, U, n, h => by simp [sv] at h
  | c :: l, k, u, U, n, h => by
    by_cases hb : (k = 9 ∧ 1 < c.toNat) ∨ (c.toNat = 0 ∧ 0 < k)
    · rw [sv_bad hb] at h; simp at h
    · by_cases h2 : c.toNat < 128
      · rw [sv_end hb h2] at h
        simp only [Prod.mk.injEq, and_true] at h
        obtain ⟨rfl, rfl⟩ := h
        refine ⟨c.toNat, by rw [Nat.mod_eq_of_lt h2], by rw [sevens_small h2]; rfl, ?_, fun hk h0 => hb (.inr ⟨h0, hk⟩)⟩
        rw [sevens_small h2]
        simp
      · rw [sv_more hb h2] at h
        obtain ⟨v, h3, h4, h5, h6⟩ := sv_canon l (k + 1) _ U n h
        have hc := c.toNat_lt
        have hv0 := h6 (by omega)
        have e1 : (c.toNat % 128 + v * 128) % 128 = c.toNat % 128 := by omega
        have e2 : (c.toNat % 128 + v * 128) / 128 = v := by omega
        have e3 : UInt8.ofNat (c.toNat % 128 + 128) = c := by
          apply UInt8.toNat_inj.1
          rw [byte_ofNat (by omega)]; omega
        have hsev : sevens (c.toNat % 128 + v * 128) = c :: sevens v := by
          rw [sevens_big (by omega), e1, e2, e3]
        refine ⟨c.toNat % 128 + v * 128, ?_, ?_, ?_, fun _ => by omega⟩
        · rw [h3, Nat.add_mul, Nat.pow_succ, Nat.mul_assoc, Nat.mul_comm 128 (128 ^ k)]; omega
        · rw [hsev, List.length_cons, h4]; omega
        · rw [hsev, List.length_cons, List.take_succ_cons, h5]

/-- A beginning that is shorter is too short. -/
theorem sv_short : ∀ (v k u m : Nat), (0 < k → v ≠ 0) → v * 128 ^ k < 18446744073709551616 → m < (sevens v).length → sv ((sevens v).take m) k u = (0, 0, 10) := by
  intro v
  induction v using Nat.strongRecOn with
  | ind v ih =>
    intro k u m h0 hv hm
    cases m with
    | zero => simp [sv]
    | succ m =>
      by_cases hs : v < 128
      · rw [sevens_small hs] at hm; simp at hm
      · have h9 : k = 9 → v ≤ 1 := fun e => by
          subst e
          rcases Nat.lt_or_ge 1 v with h | h
          · exfalso
            have h2 : 2 * 128 ^ 9 ≤ v * 128 ^ 9 := Nat.mul_le_mul_right _ h
            have h3 : (18446744073709551616 : Nat) ≤ 2 * 128 ^ 9 := by decide
            exact absurd (Nat.lt_of_le_of_lt (Nat.le_trans h3 h2) hv) (Nat.lt_irrefl _)
          · exact h
        rw [sevens_big (by omega)] at hm ⊢
        rw [List.take_succ_cons]
        have hb : (UInt8.ofNat (v % 128 + 128)).toNat = v % 128 + 128 := byte_ofNat (by omega)
        have hk8 : k ≠ 9 := fun e => by have := h9 e; omega
        rw [sv_more (by rw [hb]; rintro (⟨h, h'⟩ | ⟨h, h'⟩)
                        · exact hk8 h
                        · omega) (by rw [hb]; omega), hb]
        have hmul : v / 128 * 128 ^ (k + 1) ≤ v * 128 ^ k := by
          rw [Nat.pow_succ, ← Nat.mul_assoc, Nat.mul_right_comm]
          exact Nat.mul_le_mul_right _ (Nat.div_mul_le_self v 128)
        exact ih (v / 128) (by omega) (k + 1) _ m (fun _ => by omega) (Nat.lt_of_le_of_lt hmul hv) (by simpa using hm)

theorem zag_zig (n : Int) : zag (zig n) = n := by
  unfold zag zig
  by_cases h : 0 ≤ n
  · rw [if_pos h, if_pos (by omega)]; omega
  · rw [if_neg h, if_neg (by omega)]; omega
theorem zig_zag (u : Nat) : zig (zag u) = u := by
  unfold zag zig
  by_cases h : u % 2 = 0
  · rw [if_pos h, if_pos (by omega)]; omega
  · rw [if_neg h, if_neg (by omega)]; omega
theorem zag_range {u : Nat} (h : u < 18446744073709551616) : -9223372036854775808 ≤ zag u ∧ zag u ≤ 9223372036854775807 := by
  unfold zag; split <;> omega

/-! ### What is taken up without anything wrong is laid again as it was. -/

theorem rsev_canon {bs : List UInt8} {s : RS} (h : (rsev bs s).2.2.wr = 0) : s.wr = 0 ∧ bs.take (s.at_ + (rsev bs s).2.1) = bs.take s.at_ ++ sevens (rsev bs s).1 := by
  unfold rsev at h ⊢
  split at h
  · rename_i h0; exact absurd h h0
  · rename_i h0
    have h0' : s.wr = 0 := by simpa using h0
    rw [if_neg h0]
    refine ⟨h0', ?_⟩
    simp only at h ⊢
    obtain ⟨v, h1, h2, h3, _⟩ := sv_canon (bs.drop s.at_) 0 0 _ _ (by rw [← h])
    simp only [Nat.zero_add, Nat.pow_zero, Nat.mul_one] at h1 h2
    rw [h1, h2, List.take_add, h3]

/-- The writer's bytes ys go with the reader's state. -/
def Goes (bs : List UInt8) (s : RS) (ys : List UInt8) : Prop := s.wr = 0 → ys = bs.take s.at_

theorem rsev_zero {bs : List UInt8} {s : RS} (h : s.ok bs.length) (hw : (rsev bs s).2.2.wr ≠ 0) : (rsev bs s).1 = 0 := ((rsev_ok h).2.2.2.2 hw).1

theorem goes_num {bs : List UInt8} {s : RS} {ys : List UInt8} (h : Goes bs s ys) : Goes bs (rnum bs s).2 (ys ++ sevens (zig (rnum bs s).1)) := by
  intro hw
  obtain ⟨h0, h1⟩ := rsev_canon (bs := bs) (s := s) hw
  rw [show (rnum bs s).1 = zag (rsev bs s).1 from rfl, zig_zag, h h0]
  exact h1.symm

theorem fail_wr {s : RS} {x : Int} (hx : x ≠ 0) : (s.fail x).wr ≠ 0 := by
  unfold RS.fail; split
  · exact hx
  · assumption

theorem goes_count {bs : List UInt8} {s : RS} {ys : List UInt8} (most : Int) (h : Goes bs s ys) : Goes bs (rcount bs most s).2 (ys ++ sevens (rcount bs most s).1) := by
  intro hw
  unfold rcount at hw ⊢
  split at hw
  · exact absurd hw (fail_wr (by omega))
  · rename_i h2
    rw [if_neg h2]
    obtain ⟨h0, h1⟩ := rsev_canon (bs := bs) (s := s) hw
    rw [h h0]
    exact h1.symm

theorem goes_flag {bs : List UInt8} {s : RS} {ys : List UInt8} (h : Goes bs s ys) : Goes bs (rflag bs s).2 (ys ++ [if (rflag bs s).1 then 1 else 0]) := by
  intro hw
  unfold rflag at hw ⊢
  split at hw
  · exact absurd hw ‹_›
  · rename_i h0
    rw [if_neg h0]
    split at hw
    · exact absurd hw (fail_wr (by omega))
    · rename_i c hc
      split at hw
      · exact absurd hw (fail_wr (by omega))
      · rename_i h1
        simp only [hc, if_neg h1]
        obtain ⟨hl, he⟩ := List.getElem?_eq_some_iff.1 hc
        rw [h (by simpa using h0), List.take_succ_eq_append_getElem hl, he]
        congr 2
        by_cases hc1 : c.toNat = 1
        · rw [if_pos (by simp [hc1])]
          apply UInt8.toNat_inj.1; rw [hc1]; rfl
        · rw [if_neg (by simp [hc1])]
          apply UInt8.toNat_inj.1
          have : c.toNat = 0 := by omega
          rw [this]; rfl

theorem goes_text {bs : List UInt8} {s : RS} {ys : List UInt8} (most : Int) (hok : s.ok bs.length) (h : Goes bs s ys) : Goes bs (rtext bs most s).2 (ys ++ sevens (rtext bs most s).1.length ++ (rtext bs most s).1) := by
  intro hw
  unfold rtext at hw ⊢
  split at hw
  · exact absurd hw (fail_wr (by omega))
  · rename_i h1
    rw [if_neg h1]
    have hc := goes_count most h hw
    have hat := (rcount_ok (most := most) hok).1.1
    have hl : ((bs.drop (rcount bs most s).2.at_).take (rcount bs most s).1).length = (rcount bs most s).1 := by
      rw [List.length_take, List.length_drop]; omega
    simp only at hw ⊢
    rw [hl, hc, List.take_add]

/-! Lengths: with something wrong each call lays one byte. -/
theorem sevens_zero : sevens 0 = [0] := by rw [sevens_small (by omega)]; rfl

theorem wide_num {bs : List UInt8} {s : RS} {ys : List UInt8} {k : Nat} (hok : s.ok bs.length) (h : Goes bs s ys) (hl : ys.length ≤ bs.length + k) : (ys ++ sevens (zig (rnum bs s).1)).length ≤ bs.length + (k + 1) := by
  by_cases hw : (rnum bs s).2.wr = 0
  · rw [goes_num h hw, List.length_take]; omega
  · rw [show (rnum bs s).1 = zag (rsev bs s).1 from rfl, zig_zag, rsev_zero hok hw, sevens_zero, List.length_append]; simp; omega

theorem wide_flag {bs : List UInt8} {s : RS} {ys : List UInt8} {k : Nat} (hl : ys.length ≤ bs.length + k) : (ys ++ [if (rflag bs s).1 then (1 : UInt8) else 0]).length ≤ bs.length + (k + 1) := by
  rw [List.length_append]; simp; omega

theorem rcount_zero {bs : List UInt8} {s : RS} {most : Int} (hok : s.ok bs.length) (hw : (rcount bs most s).2.wr ≠ 0) : (rcount bs most s).1 = 0 := by
  unfold rcount at hw ⊢
  split
  · rfl
  · rename_i h; rw [if_neg h] at hw; exact rsev_zero hok hw

theorem wide_count {bs : List UInt8} {s : RS} {ys : List UInt8} {k : Nat} (most : Int) (hok : s.ok bs.length) (h : Goes bs s ys) (hl : ys.length ≤ bs.length + k) : (ys ++ sevens (rcount bs most s).1).length ≤ bs.length + (k + 1) := by
  by_cases hw : (rcount bs most s).2.wr = 0
  · rw [goes_count most h hw, List.length_take]; omega
  · rw [rcount_zero hok hw, sevens_zero, List.length_append]; simp; omega

theorem rtext_none {bs : List UInt8} {s : RS} {most : Int} (hok : s.ok bs.length) (hw : (rtext bs most s).2.wr ≠ 0) : (rtext bs most s).1 = [] := by
  unfold rtext at hw ⊢
  split
  · rfl
  · rename_i h; rw [if_neg h] at hw; rw [rcount_zero hok hw]; rfl

theorem wide_text {bs : List UInt8} {s : RS} {ys : List UInt8} {k : Nat} (most : Int) (hok : s.ok bs.length) (h : Goes bs s ys) (hl : ys.length ≤ bs.length + k) :
    (ys ++ sevens (rtext bs most s).1.length ++ (rtext bs most s).1).length ≤ bs.length + (k + 1) ∧ ys.length + (rtext bs most s).1.length ≤ bs.length + k := by
  by_cases hw : (rtext bs most s).2.wr = 0
  · have e := goes_text most hok h hw
    have e2 := congrArg List.length e
    rw [List.length_take, List.length_append, List.length_append] at e2
    constructor
    · rw [e, List.length_take]; omega
    · omega
  · rw [rtext_none hok hw, List.length_nil, sevens_zero, List.append_nil, List.length_append]; simp; omega

/-- At the end: nothing wrong, all taken up. -/
theorem goes_end {bs : List UInt8} {s : RS} {ys : List UInt8} (hok : s.ok bs.length) (h : Goes bs s ys) (hw : (rend bs s).wr = 0) : ys = bs := by
  unfold rend at hw
  split at hw
  · exact absurd hw (fail_wr (by omega))
  · rename_i h1
    rw [h hw, List.take_of_length_le (by omega)]
end Go.Proofs.Ytmbkbkfcbloafaa
