/-
  The plain reader at bytes that were laid, whole and cut off.
  No condition.
-/
import Derived.Test.YtmbkbkfcbloafabJcodec
namespace Go.Proofs.Ytmbkbkfcbloafab
open Go.RowKit
set_option linter.unusedSimpArgs false
set_option linter.unusedVariables false

theorem rsev_at {bs post : List UInt8} {s : RS} {v : Nat} (h0 : s.wr = 0) (h : bs.drop s.at_ = sevens v ++ post) (hv : v < 18446744073709551616) : rsev bs s = (v, (sevens v).length, s) := by
  unfold rsev
  rw [if_neg (by simpa using h0), h, sv_back v 0 0 post (by omega) (by simpa using hv)]
  obtain ⟨p, e⟩ := s
  simp only at h0
  subst h0
  simp

theorem rnum_at {bs post : List UInt8} {s : RS} {n : Int} (h0 : s.wr = 0) (h : bs.drop s.at_ = sevens (zig n) ++ post) (hn : -9223372036854775808 ≤ n ∧ n ≤ 9223372036854775807) :
    rnum bs s = (n, ⟨s.at_ + (sevens (zig n)).length, 0⟩) := by
  unfold rnum
  rw [rsev_at h0 h (zig_lt n hn.1 hn.2), zag_zig, h0]

theorem rcount_at {bs post : List UInt8} {s : RS} {v : Nat} {most : Int} (h0 : s.wr = 0) (h : bs.drop s.at_ = sevens v ++ post) (hv : v < 18446744073709551616) (hm : v ≤ most.toNat) :
    rcount bs most s = (v, ⟨s.at_ + (sevens v).length, 0⟩) := by
  unfold rcount
  rw [rsev_at h0 h hv, if_neg (by simp only; omega), h0]

theorem flag_byte (b : Bool) : (if b then (1 : UInt8) else 0).toNat = if b then 1 else 0 := by cases b <;> rfl

theorem rflag_at {bs post : List UInt8} {s : RS} {b : Bool} (h0 : s.wr = 0) (h : bs.drop s.at_ = [if b then 1 else 0] ++ post) : rflag bs s = (b, ⟨s.at_ + 1, 0⟩) := by
  have hg : bs[s.at_]? = some (if b then 1 else 0) := by
    have := List.getElem?_drop (xs := bs) (i := s.at_) (j := 0)
    rw [h] at this
    simpa using this.symm
  unfold rflag
  rw [if_neg (by simpa using h0), hg, h0]
  cases b <;> rfl

theorem rtext_at {bs post t : List UInt8} {s : RS} {most : Int} (h0 : s.wr = 0) (h : bs.drop s.at_ = sevens t.length ++ t ++ post) (hv : t.length < 18446744073709551616) (hm : t.length ≤ most.toNat) :
    rtext bs most s = (t, ⟨s.at_ + (sevens t.length).length + t.length, 0⟩) := by
  unfold rtext
  rw [rcount_at h0 (post := t ++ post) (by rw [h, List.append_assoc]) hv hm]
  have hd : bs.drop (s.at_ + (sevens t.length).length) = t ++ post := by
    rw [← List.drop_drop, h, List.append_assoc, List.drop_left]
  have hl := congrArg List.length hd
  rw [List.length_drop, List.length_append] at hl
  rw [if_neg (by simp only; omega)]
  simp only
  rw [hd, List.take_left]

/-! ### With something wrong nothing changes. -/
theorem rsev_bad {bs : List UInt8} {s : RS} (h : s.wr ≠ 0) : rsev bs s = (0, 0, s) := by unfold rsev; rw [if_pos h]
theorem rnum_bad {bs : List UInt8} {s : RS} (h : s.wr ≠ 0) : (rnum bs s).2.wr = s.wr := by unfold rnum; rw [rsev_bad h]
theorem rcount_bad {bs : List UInt8} {most : Int} {s : RS} (h : s.wr ≠ 0) : (rcount bs most s).2.wr = s.wr := by
  unfold rcount; rw [rsev_bad h, if_neg (by simp only; omega)]
theorem rflag_bad {bs : List UInt8} {s : RS} (h : s.wr ≠ 0) : (rflag bs s).2.wr = s.wr := by unfold rflag; rw [if_pos h]
theorem rtext_bad {bs : List UInt8} {most : Int} {s : RS} (h : s.wr ≠ 0) : (rtext bs most s).2.wr = s.wr := by
  have h1 := rcount_bad (bs := bs) (most := most) h
  unfold rtext
  split
  · unfold RS.fail
    rw [if_neg (by simp only; rw [h1]; exact h)]
    exact h1
  · exact h1

/-! ### Cut off: too short. -/
theorem rsev_short {bs : List UInt8} {s : RS} {v m : Nat} (h0 : s.wr = 0) (h : bs.drop s.at_ = (sevens v).take m) (hv : v < 18446744073709551616) (hm : m < (sevens v).length) : rsev bs s = (0, 0, ⟨s.at_, 10⟩) := by
  unfold rsev
  rw [if_neg (by simpa using h0), h, sv_short v 0 0 m (by omega) (by simpa using hv) hm]

theorem rnum_short {bs : List UInt8} {s : RS} {v m : Nat} (h0 : s.wr = 0) (h : bs.drop s.at_ = (sevens v).take m) (hv : v < 18446744073709551616) (hm : m < (sevens v).length) : (rnum bs s).2.wr = 10 := by
  unfold rnum; rw [rsev_short h0 h hv hm]
theorem rcount_short {bs : List UInt8} {most : Int} {s : RS} {v m : Nat} (h0 : s.wr = 0) (h : bs.drop s.at_ = (sevens v).take m) (hv : v < 18446744073709551616) (hm : m < (sevens v).length) : rcount bs most s = (0, ⟨s.at_, 10⟩) := by
  unfold rcount; rw [rsev_short h0 h hv hm, if_neg (by simp only; omega)]; rfl
theorem rflag_short {bs : List UInt8} {s : RS} (h0 : s.wr = 0) (h : bs.drop s.at_ = []) : (rflag bs s).2.wr = 10 := by
  have hg : bs[s.at_]? = none := by
    have := List.getElem?_drop (xs := bs) (i := s.at_) (j := 0)
    rw [h] at this
    simpa using this.symm
  unfold rflag
  rw [if_neg (by simpa using h0), hg]
  unfold RS.fail
  rw [if_pos h0]
theorem rtext_short {bs t : List UInt8} {s : RS} {most : Int} {m : Nat} (h0 : s.wr = 0) (h : bs.drop s.at_ = (sevens t.length ++ t).take m) (hv : t.length < 18446744073709551616) (hm : t.length ≤ most.toNat) (hl : m < (sevens t.length ++ t).length) (hat : s.at_ ≤ bs.length) :
    (rtext bs most s).2.wr = 10 := by
  rcases Nat.lt_or_ge m (sevens t.length).length with hs | hs
  · rw [List.take_append_of_le_length (by omega)] at h
    unfold rtext
    rw [rcount_short h0 h hv hs]
    rw [if_neg (by simp only; omega)]
  · have h' : bs.drop s.at_ = sevens t.length ++ t.take (m - (sevens t.length).length) := by
      rw [h, List.take_append, List.take_of_length_le (by omega)]
    unfold rtext
    rw [rcount_at h0 h' hv hm]
    have e := congrArg List.length h'
    rw [List.length_append] at hl
    rw [List.length_drop, List.length_append, List.length_take] at e
    rw [if_pos (by simp only; omega)]
    unfold RS.fail
    rw [if_pos rfl]

/-! ### A beginning of what was laid: each call takes up its thing, or tells that it is too short. -/
theorem cut_split {full lx rest : List UInt8} {p : Nat} (r : Nat) (h : full.drop p = lx ++ rest) : (∃ post, (full.take r).drop p = lx ++ post) ∨ ∃ m, m < lx.length ∧ (full.take r).drop p = lx.take m := by
  rw [List.drop_take, h]
  rcases Nat.lt_or_ge (r - p) lx.length with hs | hs
  · exact .inr ⟨r - p, hs, by rw [List.take_append_of_le_length (by omega)]⟩
  · exact .inl ⟨rest.take (r - p - lx.length), by rw [List.take_append, List.take_of_length_le hs]⟩

/-- Either too short, or at the place p. -/
def Cut (s : RS) (p : Nat) : Prop := s.wr = 10 ∨ (s.wr = 0 ∧ s.at_ = p)
def Split (bs lx : List UInt8) (p : Nat) : Prop := (∃ post, bs.drop p = lx ++ post) ∨ ∃ m, m < lx.length ∧ bs.drop p = lx.take m

theorem cut_num {bs : List UInt8} {s : RS} {p : Nat} {n : Int} (h : Cut s p) (hs : Split bs (sevens (zig n)) p) (hn : -9223372036854775808 ≤ n ∧ n ≤ 9223372036854775807) : Cut (rnum bs s).2 (p + (sevens (zig n)).length) := by
  rcases h with h | ⟨h0, rfl⟩
  · exact .inl ((rnum_bad (by omega)).trans h)
  · rcases hs with ⟨post, hs⟩ | ⟨m, hm, hs⟩
    · rw [rnum_at h0 hs hn]; exact .inr ⟨rfl, rfl⟩
    · exact .inl (rnum_short h0 hs (zig_lt n hn.1 hn.2) hm)

theorem cut_count {bs : List UInt8} {s : RS} {p v : Nat} {most : Int} (h : Cut s p) (hs : Split bs (sevens v) p) (hv : v < 18446744073709551616) (hm : v ≤ most.toNat) : Cut (rcount bs most s).2 (p + (sevens v).length) := by
  rcases h with h | ⟨h0, rfl⟩
  · exact .inl ((rcount_bad (by omega)).trans h)
  · rcases hs with ⟨post, hs⟩ | ⟨m, hl, hs⟩
    · rw [rcount_at h0 hs hv hm]; exact .inr ⟨rfl, rfl⟩
    · rw [rcount_short h0 hs hv hl]; exact .inl rfl

theorem cut_flag {bs : List UInt8} {s : RS} {p : Nat} {b : Bool} (h : Cut s p) (hs : Split bs [if b then 1 else 0] p) : Cut (rflag bs s).2 (p + 1) := by
  rcases h with h | ⟨h0, rfl⟩
  · exact .inl ((rflag_bad (by omega)).trans h)
  · rcases hs with ⟨post, hs⟩ | ⟨m, hl, hs⟩
    · rw [rflag_at h0 hs]; exact .inr ⟨rfl, rfl⟩
    · obtain rfl : m = 0 := by simpa using hl
      exact .inl (rflag_short h0 hs)

theorem cut_text {bs t : List UInt8} {s : RS} {p : Nat} {most : Int} (h : Cut s p) (hs : Split bs (sevens t.length ++ t) p) (hv : t.length < 18446744073709551616) (hm : t.length ≤ most.toNat) (hat : s.at_ ≤ bs.length) :
    Cut (rtext bs most s).2 (p + (sevens t.length ++ t).length) := by
  rcases h with h | ⟨h0, rfl⟩
  · exact .inl ((rtext_bad (by omega)).trans h)
  · rcases hs with ⟨post, hs⟩ | ⟨m, hl, hs⟩
    · rw [rtext_at h0 hs hv hm, List.length_append]; exact .inr ⟨rfl, by simp only; omega⟩
    · exact .inl (rtext_short h0 hs hv hm hl hat)

theorem cut_end {bs : List UInt8} {s : RS} {p : Nat} (h : Cut s p) (hp : bs.length < p) (hat : s.at_ ≤ bs.length) : (rend bs s).wr = 10 := by
  rcases h with h | ⟨h0, rfl⟩
  · unfold rend
    split
    · unfold RS.fail; rw [if_neg (by omega)]; exact h
    · exact h
  · omega
end Go.Proofs.Ytmbkbkfcbloafab
