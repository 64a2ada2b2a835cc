/-
  What a reader of bytes takes up, in plain mathematics: numbers in sevens of bits, flags, counts, texts; an error is 10 (short), 11 (form), 12 (long), 0 none.
  No condition.
-/
import Derived.Test.YtmbkbkfcbloafaaBits
namespace Go.Proofs.Ytmbkbkfcbloafaa

/-- The rest of a number behind its k-th byte: the number, how many bytes it has, what is wrong. -/
def sv : List UInt8 → Nat → Nat → Nat × Nat × Int
  | [], _, _ => (0, 0, 10)
  | c :: l, k, u =>
    if (k = 9 ∧ 1 < c.toNat) ∨ (c.toNat = 0 ∧ 0 < k) then (0, 0, 11)
    else if c.toNat < 128 then (u + c.toNat % 128 * 128 ^ k, k + 1, 0)
    else sv l (k + 1) (u + c.toNat % 128 * 128 ^ k)

theorem sv_nil (k u : Nat) : sv [] k u = (0, 0, 10) := rfl
theorem sv_bad {c : UInt8} {l : List UInt8} {k u : Nat} (h : (k = 9 ∧ 1 < c.toNat) ∨ (c.toNat = 0 ∧ 0 < k)) : sv (c :: l) k u = (0, 0, 11) := by
  rw [sv, if_pos h]
theorem sv_end {c : UInt8} {l : List UInt8} {k u : Nat} (h : ¬ ((k = 9 ∧ 1 < c.toNat) ∨ (c.toNat = 0 ∧ 0 < k))) (h2 : c.toNat < 128) : sv (c :: l) k u = (u + c.toNat % 128 * 128 ^ k, k + 1, 0) := by
  rw [sv, if_neg h, if_pos h2]
theorem sv_more {c : UInt8} {l : List UInt8} {k u : Nat} (h : ¬ ((k = 9 ∧ 1 < c.toNat) ∨ (c.toNat = 0 ∧ 0 < k))) (h2 : ¬ c.toNat < 128) : sv (c :: l) k u = sv l (k + 1) (u + c.toNat % 128 * 128 ^ k) := by
  rw [sv, if_neg h, if_neg h2]

/-- Bounds: behind k bytes u is below 128^k; what comes out fits 64 bits, and has at most so many bytes as there are. -/
theorem sv_bounds : ∀ (l : List UInt8) (k u : Nat), k ≤ 9 → u < 128 ^ k →
    (sv l k u).1 < 18446744073709551616 ∧ (sv l k u).2.1 ≤ k + l.length ∧ ((sv l k u).2.2 = 0 ∨ (sv l k u).2.2 = 10 ∨ (sv l k u).2.2 = 11) ∧ ((sv l k u).2.2 ≠ 0 → (sv l k u).1 = 0 ∧ (sv l k u).2.1 = 0)
  | [], k, u, _, _ => by simp [sv]
  | c :: l, k, u, hk, hu => by
    by_cases h : (k = 9 ∧ 1 < c.toNat) ∨ (c.toNat = 0 ∧ 0 < k)
    · rw [sv_bad h]; exact ⟨by decide, Nat.zero_le _, .inr (.inr rfl), fun _ => ⟨rfl, rfl⟩⟩
    · by_cases h2 : c.toNat < 128
      · rw [sv_end h h2]
        refine ⟨?_, by show k + 1 ≤ k + (l.length + 1); omega, .inl rfl, fun h => absurd rfl h⟩
        show u + c.toNat % 128 * 128 ^ k < 18446744073709551616
        rw [Nat.mod_eq_of_lt h2]
        rcases Nat.lt_or_ge k 9 with hk9 | hk9
        · have h3 : 128 ^ (k + 1) ≤ 128 ^ 9 := Nat.pow_le_pow_right (by omega) (by omega)
          have h4 : u + c.toNat * 128 ^ k < 128 ^ (k + 1) := by
            rw [Nat.pow_succ]
            have : c.toNat * 128 ^ k ≤ 127 * 128 ^ k := Nat.mul_le_mul_right _ (by omega)
            omega
          have h5 : (128 : Nat) ^ 9 = 9223372036854775808 := by decide
          omega
        · obtain rfl : k = 9 := by omega
          have hc : c.toNat ≤ 1 := by
            rcases Nat.lt_or_ge 1 c.toNat with h3 | h3
            · exact absurd (.inl ⟨rfl, h3⟩) h
            · exact h3
          have h5 : (128 : Nat) ^ 9 = 9223372036854775808 := by decide
          rw [h5] at hu ⊢
          have : c.toNat * 9223372036854775808 ≤ 1 * 9223372036854775808 := Nat.mul_le_mul_right _ hc
          omega
      · rw [sv_more h h2]
        have hk9 : k < 9 := by
          rcases Nat.lt_or_ge k 9 with h3 | h3
          · exact h3
          · exact absurd (.inl ⟨by omega, by omega⟩) h
        have h4 : u + c.toNat % 128 * 128 ^ k < 128 ^ (k + 1) := by
          rw [Nat.pow_succ]
          have : c.toNat % 128 * 128 ^ k ≤ 127 * 128 ^ k := Nat.mul_le_mul_right _ (by omega)
          omega
        obtain ⟨a, b, c', d⟩ := sv_bounds l (k + 1) _ (by omega) h4
        exact ⟨a, by rw [List.length_cons]; omega, c', d⟩

def zag (u : Nat) : Int := if u % 2 = 0 then (u / 2 : Nat) else -((u / 2 : Nat) : Int) - 1

/-- A reader's state: the place, and what was wrong first. -/
structure RS where
  at_ : Nat
  wr : Int
deriving DecidableEq

def RS.fail (s : RS) (e : Int) : RS := if s.wr = 0 then ⟨s.at_, e⟩ else s

/-- A number's sevens: the number, how many bytes, the state but for the place. -/
def rsev (bs : List UInt8) (s : RS) : Nat × Nat × RS :=
  if s.wr ≠ 0 then (0, 0, s) else ((sv (bs.drop s.at_) 0 0).1, (sv (bs.drop s.at_) 0 0).2.1, ⟨s.at_, (sv (bs.drop s.at_) 0 0).2.2⟩)

def rnum (bs : List UInt8) (s : RS) : Int × RS := (zag (rsev bs s).1, ⟨s.at_ + (rsev bs s).2.1, (rsev bs s).2.2.wr⟩)

def rcount (bs : List UInt8) (most : Int) (s : RS) : Nat × RS :=
  if most.toNat < (rsev bs s).1 then (0, (rsev bs s).2.2.fail 12) else ((rsev bs s).1, ⟨s.at_ + (rsev bs s).2.1, (rsev bs s).2.2.wr⟩)

def rflag (bs : List UInt8) (s : RS) : Bool × RS :=
  if s.wr ≠ 0 then (false, s)
  else match bs[s.at_]? with
    | none => (false, s.fail 10)
    | some c => if 1 < c.toNat then (false, s.fail 11) else (c.toNat == 1, ⟨s.at_ + 1, s.wr⟩)

def rtext (bs : List UInt8) (most : Int) (s : RS) : List UInt8 × RS :=
  if bs.length - (rcount bs most s).2.at_ < (rcount bs most s).1 then ([], RS.fail ⟨s.at_, (rcount bs most s).2.wr⟩ 10)
  else ((bs.drop (rcount bs most s).2.at_).take (rcount bs most s).1, ⟨(rcount bs most s).2.at_ + (rcount bs most s).1, (rcount bs most s).2.wr⟩)

def rend (bs : List UInt8) (s : RS) : RS := if s.at_ < bs.length then s.fail 11 else s

/-- A state that may be: the place is not behind the end. -/
def RS.ok (s : RS) (n : Nat) : Prop := s.at_ ≤ n ∧ (s.wr = 0 ∨ s.wr = 10 ∨ s.wr = 11 ∨ s.wr = 12)

theorem RS.ok.fail {s : RS} {n : Nat} (h : s.ok n) (e : Int) (he : e = 10 ∨ e = 11 ∨ e = 12) : (s.fail e).ok n := by
  unfold RS.fail; split
  · exact ⟨h.1, .inr he⟩
  · exact h

theorem rsev_ok {bs : List UInt8} {s : RS} (h : s.ok bs.length) : (rsev bs s).1 < 18446744073709551616 ∧ s.at_ + (rsev bs s).2.1 ≤ bs.length ∧ (rsev bs s).2.2.ok bs.length ∧ (rsev bs s).2.2.at_ = s.at_ ∧
    ((rsev bs s).2.2.wr ≠ 0 → (rsev bs s).1 = 0 ∧ (rsev bs s).2.1 = 0) := by
  unfold rsev
  split
  · exact ⟨by omega, h.1, h, rfl, fun _ => ⟨rfl, rfl⟩⟩
  · obtain ⟨a, b, c, d⟩ := sv_bounds (bs.drop s.at_) 0 0 (by omega) (by omega)
    have h1 := h.1
    rw [List.length_drop] at b
    exact ⟨a, by show s.at_ + (sv (bs.drop s.at_) 0 0).2.1 ≤ _; omega, ⟨h1, by rcases c with c | c | c <;> simp [c]⟩, rfl, d⟩

theorem rnum_ok {bs : List UInt8} {s : RS} (h : s.ok bs.length) : (rnum bs s).2.ok bs.length :=
  ⟨(rsev_ok h).2.1, (rsev_ok h).2.2.1.2⟩
theorem rcount_ok {bs : List UInt8} {most : Int} {s : RS} (h : s.ok bs.length) : (rcount bs most s).2.ok bs.length ∧ (rcount bs most s).1 ≤ most.toNat := by
  unfold rcount; split
  · exact ⟨(rsev_ok h).2.2.1.fail 12 (.inr (.inr rfl)), by omega⟩
  · exact ⟨⟨(rsev_ok h).2.1, (rsev_ok h).2.2.1.2⟩, by omega⟩
theorem rflag_ok {bs : List UInt8} {s : RS} (h : s.ok bs.length) : (rflag bs s).2.ok bs.length := by
  unfold rflag; split
  · exact h
  · split
    · exact h.fail 10 (.inl rfl)
    · rename_i c hc
      have := (List.getElem?_eq_some_iff.1 hc).1
      split
      · exact h.fail 11 (.inr (.inl rfl))
      · exact ⟨this, h.2⟩
theorem rtext_ok {bs : List UInt8} {most : Int} {s : RS} (h : s.ok bs.length) : (rtext bs most s).2.ok bs.length := by
  have hc := (rcount_ok (most := most) h).1
  unfold rtext; split
  · exact RS.ok.fail (s := ⟨s.at_, (rcount bs most s).2.wr⟩) ⟨h.1, hc.2⟩ 10 (.inl rfl)
  · have := hc.1
    exact ⟨by show (rcount bs most s).2.at_ + (rcount bs most s).1 ≤ _; omega, hc.2⟩
theorem rend_ok {bs : List UInt8} {s : RS} (h : s.ok bs.length) : (rend bs s).ok bs.length := by
  unfold rend; split
  · exact h.fail 11 (.inr (.inl rfl))
  · exact h
end Go.Proofs.Ytmbkbkfcbloafaa
