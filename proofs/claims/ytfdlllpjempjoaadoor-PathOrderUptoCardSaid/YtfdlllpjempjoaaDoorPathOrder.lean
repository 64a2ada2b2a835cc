/-
  PathOrder, walked, and for arguments as they come in.
  Conditions: the texts are not longer than 1000000000; what is asked of the world.
-/
import Derived.Test.YtfdlllpjempjoaaDoorPathOpen
namespace Go.Proofs.YtfdlllpjempjoaaDoor
open Go.ChangeShapes Go.WideShapes Go.ChangeAt Go.RowKit
set_option linter.unusedSectionVars false
set_option linter.unusedSimpArgs false
set_option linter.unusedVariables false
set_option maxRecDepth 100000

/-! ### The order of ten digits -/

theorem less_front : ∀ (p a b : List UInt8), Op.bytesLess (p ++ a) (p ++ b) = Op.bytesLess a b
  | [], _, _ => rfl
  | c :: p, a, b => by
    rw [List.cons_append, List.cons_append, Op.bytesLess, less_front p a b]
    have : ¬ c < c := by intro h; exact absurd (UInt8.lt_iff_toNat_lt.1 h) (Nat.lt_irrefl _)
    simp
theorem dec_nat {a : Nat} (h : a < 10) : (dec a).toNat = 48 + a := by
  have : dec a = UInt8.ofNat (48 + a) := rfl
  rw [this, UInt8.toNat_ofNat']
  omega
theorem less_ten : ∀ (m n j : Nat), Op.bytesLess (lowT m j) (lowT n j) = decide (m % 10 ^ j < n % 10 ^ j)
  | m, n, 0 => by simp [lowT, Op.bytesLess, Nat.mod_one]
  | m, n, j + 1 => by
    rw [lowT_front, lowT_front, Op.bytesLess, less_ten m n j]
    have ha : m / 10 ^ j % 10 < 10 := Nat.mod_lt _ (by decide)
    have hb : n / 10 ^ j % 10 < 10 := Nat.mod_lt _ (by decide)
    have em : m % 10 ^ (j + 1) = m % 10 ^ j + 10 ^ j * (m / 10 ^ j % 10) := by rw [Nat.pow_succ, Nat.mod_mul]
    have en : n % 10 ^ (j + 1) = n % 10 ^ j + 10 ^ j * (n / 10 ^ j % 10) := by rw [Nat.pow_succ, Nat.mod_mul]
    rw [em, en]
    have hp : 0 < 10 ^ j := Nat.pow_pos (by decide)
    have lm := Nat.mod_lt m hp
    have ln := Nat.mod_lt n hp
    generalize m / 10 ^ j % 10 = a at ha ⊢
    generalize n / 10 ^ j % 10 = b at hb ⊢
    generalize m % 10 ^ j = x at lm ⊢
    generalize n % 10 ^ j = y at ln ⊢
    generalize 10 ^ j = t at *
    have hd : dec a < dec b ↔ a < b := by rw [UInt8.lt_iff_toNat_lt, dec_nat ha, dec_nat hb]; omega
    have he : dec a = dec b ↔ a = b := by
      rw [← UInt8.toNat_inj, dec_nat ha, dec_nat hb]; omega
    rw [Bool.eq_iff_iff]
    simp only [Bool.or_eq_true, decide_eq_true_eq, Bool.and_eq_true, beq_iff_eq, hd, he]
    constructor
    · rintro (h | ⟨rfl, h⟩)
      · have : t * (a + 1) ≤ t * b := Nat.mul_le_mul_left t h
        rw [Nat.mul_add] at this
        omega
      · omega
    · intro h
      rcases Nat.lt_trichotomy a b with h1 | h1 | h1
      · exact Or.inl h1
      · subst h1; exact Or.inr ⟨rfl, by omega⟩
      · exfalso
        have : t * (b + 1) ≤ t * a := Nat.mul_le_mul_left t h1
        rw [Nat.mul_add] at this
        omega
theorem num_less (p : ByteArray) {x y : Int} (hx : 0 ≤ x) (hx' : x < 10000000000) (hy : 0 ≤ y) (hy' : y < 10000000000) :
    Op.bytesLess (bs (numL p.data.toList x)).toList (bs (numL p.data.toList y)).toList = decide (x < y) := by
  rw [ByteArray.toList_eq, ByteArray.toList_eq, bs_list, bs_list, numL, numL, less_front, less_ten, decide_eq_decide]
  rw [Nat.mod_eq_of_lt (by omega), Nat.mod_eq_of_lt (by omega)]
  omega
theorem num_size (p : ByteArray) (x : Int) : (bs (numL p.data.toList x)).size = p.size + 10 := by
  rw [bs_size, numL, List.length_append, lowT_length, ← size_list]

/-! ### The way up, past another path -/

def ovL (ns : List (List UInt8)) (q : List UInt8) (k : Nat) : Bool := (List.range ns.length).any fun j => decide (k ≤ j) && decide (pathOf (ns.take j) = q)
theorem ovL_step (ns : List (List UInt8)) (q : List UInt8) {k : Nat} (hk : k < ns.length) : ovL ns q k = (ovL ns q (k + 1) || decide (pathOf (ns.take k) = q)) := by
  rw [Bool.eq_iff_iff, Bool.or_eq_true, decide_eq_true_eq, ovL, ovL, List.any_eq_true, List.any_eq_true]
  constructor
  · rintro ⟨j, hj, h⟩
    simp only [Bool.and_eq_true, decide_eq_true_eq] at h
    by_cases e : j = k
    · subst e; exact Or.inr h.2
    · exact Or.inl ⟨j, hj, by simp only [Bool.and_eq_true, decide_eq_true_eq]; exact ⟨by omega, h.2⟩⟩
  · rintro (⟨j, hj, h⟩ | h)
    · simp only [Bool.and_eq_true, decide_eq_true_eq] at h
      exact ⟨j, hj, by simp only [Bool.and_eq_true, decide_eq_true_eq]; exact ⟨by omega, h.2⟩⟩
    · exact ⟨k, List.mem_range.2 hk, by simp [h]⟩
theorem ovL_start (ns : List (List UInt8)) (q : List UInt8) : ovL ns q ns.length = false := by
  rw [Bool.eq_false_iff, ovL, Ne, List.any_eq_true]
  rintro ⟨j, hj, h⟩
  simp only [Bool.and_eq_true, decide_eq_true_eq] at h
  have := List.mem_range.1 hj
  omega
theorem ovL_end {ms ks : List (List UInt8)} (hm : Good ms) (hk : Good ks) : underL (pathOf ms) (pathOf ks) = ovL ms (pathOf ks) 0 := by
  rw [Bool.eq_iff_iff, under_way hm hk, ovL, List.any_eq_true]
  constructor
  · rintro ⟨j, hj, h⟩
    exact ⟨j, List.mem_range.2 hj, by simp [h]⟩
  · rintro ⟨j, hj, h⟩
    simp only [Bool.and_eq_true, decide_eq_true_eq] at h
    exact ⟨j, List.mem_range.1 hj, h.2⟩

theorem up_bytes {ns : List (List UInt8)} (h : Good ns) {k : Nat} (hk : k < ns.length) :
    ∃ A U : ByteArray, bs (pathOf (ns.take (k + 1))) = A ∧ bs (pathOf (ns.take k)) = U ∧ bs (parentL A.data.toList) = U ∧ (A.toList == [47]) = false ∧ A.size ≤ 60 ∧ U.data.toList = pathOf (ns.take k) := by
  obtain ⟨c1, c2, c3, c4, c5, c6, c7, c8⟩ := climb h hk
  have g1 := (h.front (k + 1)).2.2
  refine ⟨_, _, rfl, rfl, by rw [bs_list, c1], toList_beq (by rw [bs_list]; exact c8), by rw [bs_size]; exact g1, by rw [bs_list]⟩

set_option maxHeartbeats 4000000 in
theorem order_any (p q : ByteArray) (m n : Int) (hp : p.size ≤ 1000000000) (hq : q.size ≤ 1000000000) (hm0 : -9223372036854775808 ≤ m) (hm1 : m ≤ 9223372036854775807) (hn0 : -9223372036854775808 ≤ n) (hn1 : n ≤ 9223372036854775807) (w : World) (hR : Ready w) :
    Calls Tryd.prog 6 #[.string p, .string q, .int .i64 m, .int .i64 n] w (CopyPost (.bool true) w) := by
  have cA := awake_any w hR
  have c1 := fun W (h : Old w W) => check_any p (by omega) W (hR.old h)
  have c2 := fun W (h : Old w W) => check_any q (by omega) W (hR.old h)
  by_cases h0 : checkL p.data.toList = 0
  · by_cases h1 : checkL q.data.toList = 0
    · obtain ⟨ns, hg, hpl⟩ := (check_iff _).1 h0
      obtain ⟨ks, hgk, hql⟩ := (check_iff _).1 h1
      rw [h0] at c1
      rw [h1] at c2
      have C1 := Lib.hid c1
      have C2 := Lib.hid c2
      have h6 := hg.2.1
      have hov := ovL_end hg hgk
      rw [← hpl, ← hql] at hov
      clear c1 c2 h0 h1
      go_enter Tryd.func6, Tryd.ntmps6
      go_wp2_with (first
        | (go_at_call 8; refine cA.mono ?_; rintro e w0 ⟨rfl, hO⟩; have T0 := Lib.hid hO; clear cA hO)
        | (go_at_call 9; refine (C1.out w0 T0.out).mono ?_; rintro e w1 ⟨rfl, hO⟩; have T1 := Lib.hid (T0.out.join hO); clear C1 T0 hO)
        | (go_at_call 9; refine (C2.out w1 T1.out).mono ?_; rintro e w2 ⟨rfl, hO⟩; have T2 := Lib.hid (T1.out.join hO); clear C2 T1 hO))
      go_loopg [10, 11, 12] ns.length (fun g y10 y11 y12 wx => ∃ k : Nat, k ≤ ns.length ∧ y10 = .bool (ovL ns q.data.toList k) ∧ y11 = .string (bs (pathOf (ns.take k))) ∧ y12 = .int .i64 ((ns.length - k : Nat) : Int) ∧ k ≤ g ∧ Old w wx)
      case atStart => exact ⟨ns.length, Nat.le_refl _, by rw [ovL_start], by rw [List.take_length, ← hpl]; exact congrArg _ (bs_of rfl), by simp, Nat.le_refl _, T2.out⟩
      case round =>
        obtain ⟨k, hk, rfl, rfl, rfl, hgk, hO1⟩ := hrel
        clear T2
        have T1 := Lib.hid hO1
        clear hO1
        by_cases hk0 : k = 0
        · subst hk0
          obtain ⟨R, hRt⟩ : ∃ R, bs (pathOf (ns.take 0)) = R := ⟨_, rfl⟩
          have q0 : (R.toList == [47]) = true := toList_beq' (by rw [← hRt, bs_list]; rfl)
          rw [hRt]
          obtain ⟨S, hS⟩ : ∃ S, ns.length - 0 = S := ⟨_, rfl⟩
          rw [hS]
          rw [← hov]
          obtain ⟨V, hV⟩ : ∃ V, underL p.data.toList q.data.toList = V := ⟨_, rfl⟩
          have c6 := fun W => Under_any p q (by omega) (by omega) W
          rw [hV] at c6 ⊢
          have C6 := Lib.hid c6
          obtain ⟨M, hM⟩ : ∃ M, m.tmod 5000000000 = M := ⟨_, rfl⟩
          obtain ⟨N, hN⟩ : ∃ N, n.tmod 5000000000 = N := ⟨_, rfl⟩
          have bM : -5000000000 < M ∧ M < 5000000000 := by
            rw [← hM]; exact ⟨Int.lt_tmod_of_pos _ (by decide), Int.tmod_lt_of_pos _ (by decide)⟩
          have bN : -5000000000 < N ∧ N < 5000000000 := by
            rw [← hN]; exact ⟨Int.lt_tmod_of_pos _ (by decide), Int.tmod_lt_of_pos _ (by decide)⟩
          obtain ⟨bM0, bM1⟩ := bM
          obtain ⟨bN0, bN1⟩ := bN
          have hVV : (V == V) = true := by simp
          clear hRt hov hV c6 hpl hql hg
          have cN := fun (x : Int) (h1 : -9223372036854775808 ≤ x) (h2 : x ≤ 9223372036854775807) W (h : Old w W) => Numbered_any p x (by omega) h1 h2 W (hR.old h).2
          obtain ⟨x, hx⟩ : ∃ x, (if M < 0 then -M else M) = x := ⟨_, rfl⟩
          obtain ⟨y, hy⟩ : ∃ y, (if N < 0 then -N else N) = y := ⟨_, rfl⟩
          have bx : 0 ≤ x ∧ x < 10000000000 := by rw [← hx]; split <;> omega
          have bY : 0 ≤ y ∧ y < 10000000000 := by rw [← hy]; split <;> omega
          obtain ⟨A, hA⟩ : ∃ A, bs (numL p.data.toList x) = A := ⟨_, rfl⟩
          obtain ⟨B, hB⟩ : ∃ B, bs (numL p.data.toList y) = B := ⟨_, rfl⟩
          have hAs : A.size = p.size + 10 := by rw [← hA]; exact num_size p x
          have hlt : Op.bytesLess A.toList B.toList = decide (x < y) := by rw [← hA, ← hB]; exact num_less p bx.1 bx.2 bY.1 bY.2
          have c7 := cN x (by omega) (by omega)
          have c8 := cN y (by omega) (by omega)
          rw [hA] at c7
          rw [hB] at c8
          have hdd : (decide (x < y) == decide (x < y)) = true := by simp
          have C7 := Lib.hid c7
          have C8 := Lib.hid c8
          clear hA hB cN c7 c8 bx bY hR
          rcases Nat.lt_or_ge S 6 with hS6 | hS6
          all_goals by_cases hM0 : M < 0
          all_goals by_cases hN0 : N < 0
          all_goals first | rw [if_pos hM0] at hx | rw [if_neg hM0] at hx
          all_goals first | rw [if_pos hN0] at hy | rw [if_neg hN0] at hy
          all_goals
            go_wp2_with (first
              | (go_at_call 19; refine (C7.out _ T1.out).mono ?_; rintro e w7 ⟨rfl, hO⟩; have T7 := Lib.hid (T1.out.join hO); clear C7 hO)
              | (go_at_call 19; refine (C8.out _ T7.out).mono ?_; rintro e w8 ⟨rfl, hO⟩; have T8 := Lib.hid (T7.out.join hO); clear C8 hO)
              | (go_at_call 17; refine (C6.out _).mono ?_; rintro e w9 ⟨rfl, hO⟩; have T9 := Lib.hid (T8.out.join hO); clear C6 hO))
            go_ret
            exact ⟨by first | rfl | (simp; done), T9.out⟩
        · obtain ⟨j, rfl⟩ : ∃ j, k = j + 1 := ⟨k - 1, by omega⟩
          obtain ⟨A, U, hA, hU, e1, e8, s1, hUl⟩ := up_bytes hg (show j < ns.length by omega)
          rw [hA]
          have hovs := ovL_step ns q.data.toList (show j < ns.length by omega)
          have hUq : decide (pathOf (ns.take j) = q.data.toList) = (U.toList == q.toList) := by
            rw [Bool.eq_iff_iff, decide_eq_true_eq, beq_iff_eq, ByteArray.toList_eq, ByteArray.toList_eq, hUl]
          rw [hUq] at hovs
          obtain ⟨b1, hb1⟩ : ∃ b, (U.toList == q.toList) = b := ⟨_, rfl⟩
          obtain ⟨b2, hb2⟩ : ∃ b, ovL ns q.data.toList (j + 1) = b := ⟨_, rfl⟩
          rw [hb1, hb2] at hovs
          rw [hb2]
          have c2 := fun W => Parent_any A (by omega) W
          rw [e1] at c2
          obtain ⟨S, hS⟩ : ∃ S, ns.length - (j + 1) = S := ⟨_, rfl⟩
          rw [hS]
          have hs6 : S < 6 := by omega
          have C2 := Lib.hid c2
          have HOV := Lib.hid hovs
          clear c2 e1 hovs hUq hb2 hov hUl
          cases b2 <;> cases b1
          all_goals
            go_wp2_with (go_at_call 11; refine (C2.out _).mono ?_; rintro e w2 ⟨rfl, hO⟩; have T2 := Lib.hid (T1.out.join hO); clear C2 hO)
            go_roundg (gk - 1)
            case measure => omega
            case rel => exact ⟨j, by omega, by rw [HOV.out]; rfl, by rw [hU], by rw [show ns.length - j = S + 1 by omega]; rfl, by omega, T2.out⟩
    · have zc : (checkL q.data.toList == 0) = false := by simpa using h1
      have zc' : (checkL q.data.toList != 0) = true := by simpa using h1
      generalize checkL q.data.toList = V at c2 zc zc'
      rw [h0] at c1
      have C1 := Lib.hid c1
      have C2 := Lib.hid c2
      clear c1 c2 hR h0 h1
      go_enter Tryd.func6, Tryd.ntmps6
      go_wp2_with (first
        | (go_at_call 8; refine cA.mono ?_; rintro e w0 ⟨rfl, hO⟩; have T0 := Lib.hid hO; clear cA hO)
        | (go_at_call 9; refine (C1.out w0 T0.out).mono ?_; rintro e w1 ⟨rfl, hO⟩; have T1 := Lib.hid (T0.out.join hO); clear C1 T0 hO)
        | (go_at_call 9; refine (C2.out w1 T1.out).mono ?_; rintro e w2 ⟨rfl, hO⟩; have T2 := Lib.hid (T1.out.join hO); clear C2 T1 hO))
      go_ret
      exact ⟨rfl, T2.out⟩
  · have zc : (checkL p.data.toList == 0) = false := by simpa using h0
    have zc' : (checkL p.data.toList != 0) = true := by simpa using h0
    generalize checkL p.data.toList = V at c1 zc zc'
    have C1 := Lib.hid c1
    clear c1 c2 hR h0
    go_enter Tryd.func6, Tryd.ntmps6
    go_wp2_with (first
      | (go_at_call 8; refine cA.mono ?_; rintro e w0 ⟨rfl, hO⟩; have T0 := Lib.hid hO; clear cA hO)
      | (go_at_call 9; refine (C1.out w0 T0.out).mono ?_; rintro e w1 ⟨rfl, hO⟩; have T1 := Lib.hid (T0.out.join hO); clear C1 T0 hO))
    go_ret
    exact ⟨rfl, T1.out⟩
end Go.Proofs.YtfdlllpjempjoaaDoor
