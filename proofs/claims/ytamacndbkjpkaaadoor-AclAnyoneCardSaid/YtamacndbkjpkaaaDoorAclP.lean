/-
  Plain laws on ACLs: what rows give to people, bit by bit; May, and the document's way to ask it.
  Conditions: each law states its own.
-/
import Derived.WalkKit
namespace Go.Proofs.YtamacndbkjpkaaaDoor
open Go.RowKit
set_option linter.unusedSimpArgs false

/-! ### Bits -/

def V (x : Int) : BitVec 64 := BitVec.ofInt 64 x

theorem wrap_V (r : BitVec 64) : V (IntKind.i64.wrap (r.toNat : Int)) = r := by
  apply BitVec.eq_of_toNat_eq
  have := r.isLt
  rw [V, BitVec.toNat_ofInt, IntKind.wrap_i64]
  omega
theorem V_or (x y : Int) : V (bits .or .i64 x y) = V x ||| V y := wrap_V _
theorem V_and (x y : Int) : V (bits .and .i64 x y) = V x &&& V y := wrap_V _
theorem V_andNot (x y : Int) : V (bits .andNot .i64 x y) = V x &&& ~~~V y := wrap_V _

theorem bits_wf (op : BinOp) (x y : Int) : -9223372036854775808 ≤ bits op .i64 x y ∧ bits op .i64 x y ≤ 9223372036854775807 := by
  have h : ∀ r : BitVec 64, -9223372036854775808 ≤ IntKind.i64.wrap (r.toNat : Int) ∧ IntKind.i64.wrap (r.toNat : Int) ≤ 9223372036854775807 := fun r => by
    rw [IntKind.wrap_i64]; omega
  unfold bits
  split <;> first | exact h _ | (constructor <;> decide)

theorem V_inj {x y : Int} (h0 : -9223372036854775808 ≤ x) (h1 : x ≤ 9223372036854775807) (h2 : -9223372036854775808 ≤ y) (h3 : y ≤ 9223372036854775807) (h : V x = V y) : x = y := by
  have := congrArg BitVec.toNat h
  rw [V, V, BitVec.toNat_ofInt, BitVec.toNat_ofInt] at this
  omega
theorem V_nat (n : Nat) : V (n : Int) = BitVec.ofNat 64 n := by
  rw [V, BitVec.ofInt_natCast]
theorem V_bit (x : Int) (h0 : 0 ≤ x) (h1 : x ≤ 31) (i : Nat) : (V x).getLsbD i = x.toNat.testBit i := by
  obtain ⟨n, rfl⟩ := Int.eq_ofNat_of_zero_le h0
  rw [V_nat, BitVec.getLsbD_ofNat]
  show _ = n.testBit i
  by_cases hi : i < 64
  · simp [hi]
  · have : n.testBit i = false := Nat.testBit_lt_two_pow (Nat.lt_of_lt_of_le (show n < 2 ^ 5 by omega) (Nat.pow_le_pow_right (by omega) (by omega)))
    simp [hi, this]
theorem V_zero_bit (i : Nat) : (V 0).getLsbD i = false := by
  rw [V_bit 0 (by omega) (by omega)]; simp

/-- A number's bits lie in another's. -/
def inside (p g : Int) : Prop := ∀ i, (V p).getLsbD i = true → (V g).getLsbD i = true

theorem andNot_zero (p g : Int) : bits .andNot .i64 p g = 0 ↔ inside p g := by
  constructor
  · intro h i hi
    have := congrArg (fun z => (V z).getLsbD i) h
    simp only [V_andNot, V_zero_bit, BitVec.getLsbD_and, BitVec.getLsbD_not, hi, Bool.true_and] at this
    have h64 : i < 64 := by
      rcases Nat.lt_or_ge i 64 with h | h
      · exact h
      · rw [BitVec.getLsbD_of_ge _ _ h] at hi; cases hi
    simpa [h64] using this
  · intro h
    have hw := bits_wf .andNot p g
    refine V_inj hw.1 hw.2 (by omega) (by omega) ?_
    rw [V_andNot]
    apply BitVec.eq_of_getLsbD_eq
    intro i hi
    rw [V_zero_bit, BitVec.getLsbD_and, BitVec.getLsbD_not]
    by_cases hp : (V p).getLsbD i = true
    · simp [hp, h i hp]
    · simp only [Bool.not_eq_true] at hp; simp [hp]

/-- 'x & 2^k' is nought just where that bit is. -/
theorem and_pow (x : Int) (k : Nat) (hk : k < 63) : bits .and .i64 x ((2 : Int) ^ k) = 0 ↔ (V x).getLsbD k = false := by
  have e : ((2 : Int) ^ k) = ((2 ^ k : Nat) : Int) := by simp
  rw [e]
  have hb : ∀ i, (V ((2 ^ k : Nat) : Int)).getLsbD i = decide (i = k) := fun i => by
    rw [V_nat, BitVec.getLsbD_ofNat, Nat.testBit_two_pow]
    by_cases h : k = i
    · subst h; simp; omega
    · simp [h]; omega
  constructor
  · intro h
    have := congrArg (fun z => (V z).getLsbD k) h
    simp only [V_and, BitVec.getLsbD_and, hb, V_zero_bit, decide_true, Bool.and_true] at this
    exact this
  · intro h
    have hw := bits_wf .and x ((2 ^ k : Nat) : Int)
    refine V_inj hw.1 hw.2 (by omega) (by omega) ?_
    rw [V_and]
    apply BitVec.eq_of_getLsbD_eq
    intro i hi
    rw [V_zero_bit, BitVec.getLsbD_and, hb]
    by_cases hik : i = k
    · subst hik; simp [h]
    · simp [hik]

/-! ### Rows -/

/-- A row: what it gives, and to whom. -/
abbrev ARow := Int × ByteArray
def ARow.cells (r : ARow) : List Value := [.int .i64 r.1, .string r.2]
theorem ARow.cells_length (r : ARow) : r.cells.length = 2 := rfl
def world : ByteArray := ⟨#[119, 111, 114, 108, 100]⟩

/-- A row speaks of everybody, or of one of these people. -/
def hits (ids : List ByteArray) (r : ARow) : Bool := decide (r.2 = world) || ids.any fun x => decide (x = r.2)
def gives (ids : List ByteArray) (g : Int) (r : ARow) : Int := if hits ids r = true then bits .or .i64 g r.1 else g
def given (ids : List ByteArray) (l : List ARow) : Int := l.foldl (gives ids) 0
def may (l : List ARow) (p : Int) (ids : List ByteArray) : Bool := decide (0 ≤ p) && decide (p ≤ 31) && decide (bits .andNot .i64 p (given ids l) = 0)

theorem gives_bit (ids : List ByteArray) (i : Nat) : ∀ (l : List ARow) (g : Int), (V (l.foldl (gives ids) g)).getLsbD i = ((V g).getLsbD i || l.any fun r => hits ids r && (V r.1).getLsbD i)
  | [], g => by simp
  | r :: l, g => by
    rw [List.foldl_cons, gives_bit ids i l, List.any_cons, gives]
    by_cases h : hits ids r = true
    · rw [if_pos h, V_or, BitVec.getLsbD_or, h, Bool.true_and, Bool.or_assoc]
    · simp only [Bool.not_eq_true] at h
      rw [if_neg (by simp [h]), h, Bool.false_and, Bool.false_or]
theorem given_bit (ids : List ByteArray) (l : List ARow) (i : Nat) : (V (given ids l)).getLsbD i = true ↔ ∃ r ∈ l, hits ids r = true ∧ (V r.1).getLsbD i = true := by
  rw [given, gives_bit, V_zero_bit, Bool.false_or, List.any_eq_true]
  constructor
  · rintro ⟨r, hr, h⟩; exact ⟨r, hr, by simpa using h⟩
  · rintro ⟨r, hr, h⟩; exact ⟨r, hr, by simpa using h⟩

theorem may_iff (l : List ARow) (p : Int) (ids : List ByteArray) : may l p ids = true ↔ (0 ≤ p ∧ p ≤ 31) ∧ inside p (given ids l) := by
  simp only [may, Bool.and_eq_true, decide_eq_true_eq, andNot_zero]

theorem hits_iff (ids : List ByteArray) (r : ARow) : hits ids r = true ↔ r.2 = world ∨ r.2 ∈ ids := by
  simp [hits]

/-- More rows, more people. -/
theorem inside_more {p : Int} {ids ids' : List ByteArray} {l l' : List ARow} (hl : ∀ r ∈ l, r ∈ l') (hi : ∀ x ∈ ids, x ∈ ids') (h : inside p (given ids l)) : inside p (given ids' l') := by
  intro i hp
  obtain ⟨r, hr, h1, h2⟩ := (given_bit ids l i).1 (h i hp)
  refine (given_bit ids' l' i).2 ⟨r, hl r hr, ?_, h2⟩
  rw [hits_iff] at h1 ⊢
  exact h1.imp id (hi _)
theorem may_more {p : Int} {ids ids' : List ByteArray} {l l' : List ARow} (hl : ∀ r ∈ l, r ∈ l') (hi : ∀ x ∈ ids, x ∈ ids') (h : may l p ids = true) : may l' p ids' = true :=
  (may_iff _ _ _).2 ⟨((may_iff _ _ _).1 h).1, inside_more hl hi ((may_iff _ _ _).1 h).2⟩
theorem may_same {p : Int} {ids ids' : List ByteArray} {l l' : List ARow} (hl : ∀ r, r ∈ l ↔ r ∈ l') (hi : ∀ x, x ∈ ids ↔ x ∈ ids') : may l' p ids' = may l p ids := by
  rw [Bool.eq_iff_iff]
  exact ⟨may_more (fun r => (hl r).2) (fun x => (hi x).2), may_more (fun r => (hl r).1) (fun x => (hi x).1)⟩

theorem and_range {p q : Int} (hp : 0 ≤ p ∧ p ≤ 31) (hq : 0 ≤ q) (hq' : q ≤ 9223372036854775807) : 0 ≤ bits .and .i64 p q ∧ bits .and .i64 p q ≤ 31 := by
  obtain ⟨m, rfl⟩ := Int.eq_ofNat_of_zero_le hp.1
  obtain ⟨n, rfl⟩ := Int.eq_ofNat_of_zero_le hq
  have e : bits .and .i64 (m : Int) (n : Int) = ((m &&& n : Nat) : Int) := by
    show IntKind.i64.wrap (((BitVec.ofInt 64 (m : Int)) &&& (BitVec.ofInt 64 (n : Int))).toNat : Int) = _
    rw [BitVec.ofInt_natCast, BitVec.ofInt_natCast, BitVec.toNat_and, BitVec.toNat_ofNat, BitVec.toNat_ofNat, Nat.mod_eq_of_lt (by omega), Nat.mod_eq_of_lt (by omega), IntKind.wrap_i64]
    have := Nat.and_le_left (n := m) (m := n)
    omega
  rw [e]
  have := Nat.and_le_left (n := m) (m := n)
  omega
theorem or_nat (m n : Nat) (hm : m < 9223372036854775808) (hn : n < 9223372036854775808) : bits .or .i64 (m : Int) (n : Int) = ((m ||| n : Nat) : Int) := by
  show IntKind.i64.wrap (((BitVec.ofInt 64 (m : Int)) ||| (BitVec.ofInt 64 (n : Int))).toNat : Int) = _
  rw [BitVec.ofInt_natCast, BitVec.ofInt_natCast, BitVec.toNat_or, BitVec.toNat_ofNat, BitVec.toNat_ofNat, Nat.mod_eq_of_lt (by omega), Nat.mod_eq_of_lt (by omega), IntKind.wrap_i64]
  have : m ||| n < 2 ^ 63 := Nat.or_lt_two_pow (by omega) (by omega)
  omega
theorem or_range {p q : Int} (hp : 0 ≤ p ∧ p ≤ 9223372036854775807) (hq : 0 ≤ q ∧ q ≤ 9223372036854775807) : (0 ≤ bits .or .i64 p q ∧ bits .or .i64 p q ≤ 31) ↔ p ≤ 31 ∧ q ≤ 31 := by
  obtain ⟨m, rfl⟩ := Int.eq_ofNat_of_zero_le hp.1
  obtain ⟨n, rfl⟩ := Int.eq_ofNat_of_zero_le hq.1
  rw [or_nat m n (by omega) (by omega)]
  constructor
  · intro h
    have h1 := Nat.left_le_or (n := m) (m := n)
    have h2 := Nat.right_le_or (n := m) (m := n)
    omega
  · intro h
    have : m ||| n < 2 ^ 5 := Nat.or_lt_two_pow (by omega) (by omega)
    omega

/-- What is allowed of a wish is allowed of less. -/
theorem may_part {l : List ARow} {p q : Int} {ids : List ByteArray} (hq : 0 ≤ q) (hq' : q ≤ 9223372036854775807) (h : may l p ids = true) : may l (bits .and .i64 p q) ids = true := by
  rw [may_iff] at h ⊢
  refine ⟨and_range h.1 hq hq', fun i hi => h.2 i ?_⟩
  rw [V_and, BitVec.getLsbD_and, Bool.and_eq_true] at hi
  exact hi.1
theorem may_sum {l : List ARow} {p q : Int} {ids : List ByteArray} (h : may l p ids = true) (k : may l q ids = true) : may l (bits .or .i64 p q) ids = true := by
  rw [may_iff] at h k ⊢
  refine ⟨(or_range ⟨h.1.1, by omega⟩ ⟨k.1.1, by omega⟩).2 ⟨h.1.2, k.1.2⟩, fun i hi => ?_⟩
  rw [V_or, BitVec.getLsbD_or, Bool.or_eq_true] at hi
  exact hi.elim (h.2 i) (k.2 i)
theorem may_of_sum {l : List ARow} {p q : Int} {ids : List ByteArray} (hp : 0 ≤ p ∧ p ≤ 9223372036854775807) (hq : 0 ≤ q ∧ q ≤ 9223372036854775807) (h : may l (bits .or .i64 p q) ids = true) : may l p ids = true ∧ may l q ids = true := by
  rw [may_iff] at h
  have hr := (or_range hp hq).1 h.1
  rw [may_iff, may_iff]
  refine ⟨⟨⟨hp.1, hr.1⟩, fun i hi => h.2 i ?_⟩, ⟨⟨hq.1, hr.2⟩, fun i hi => h.2 i ?_⟩⟩
  · rw [V_or, BitVec.getLsbD_or, hi, Bool.true_or]
  · rw [V_or, BitVec.getLsbD_or, hi, Bool.or_true]

/-! ### The document's way -/

/-- A permission is given to everybody, or to one of these people. -/
def has (ids : List ByteArray) (l : List ARow) (k : Nat) : Bool := l.any fun r => (V r.1).getLsbD k && hits ids r
theorem has_bit (ids : List ByteArray) (l : List ARow) (k : Nat) : has ids l k = (V (given ids l)).getLsbD k := by
  rw [Bool.eq_iff_iff, given_bit, has, List.any_eq_true]
  constructor
  · rintro ⟨r, hr, h⟩; exact ⟨r, hr, by simpa [and_comm] using h⟩
  · rintro ⟨r, hr, h⟩; exact ⟨r, hr, by simpa [and_comm] using h⟩
/-- No permission below the k-th lacks. -/
def upto (p : Int) (ids : List ByteArray) (l : List ARow) (k : Nat) : Prop := ∀ i, i < k → (V p).getLsbD i = true → has ids l i = true
theorem may_doc (l : List ARow) (p : Int) (ids : List ByteArray) (h0 : 0 ≤ p) (h1 : p ≤ 31) : may l p ids = true ↔ upto p ids l 5 := by
  rw [may_iff]
  constructor
  · rintro ⟨_, h⟩ i _ hp
    rw [has_bit]; exact h i hp
  · intro h
    refine ⟨⟨h0, h1⟩, fun i hi => ?_⟩
    rw [← has_bit]
    refine h i ?_ hi
    rcases Nat.lt_or_ge i 5 with h5 | h5
    · exact h5
    · rw [V_bit p h0 h1] at hi
      rw [Nat.testBit_lt_two_pow (Nat.lt_of_lt_of_le (show p.toNat < 2 ^ 5 by omega) (Nat.pow_le_pow_right (by omega) h5))] at hi
      cases hi
end Go.Proofs.YtamacndbkjpkaaaDoor
