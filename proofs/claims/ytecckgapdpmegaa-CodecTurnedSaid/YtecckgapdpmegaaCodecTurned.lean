/-
  CodecTurned: a byte that is another one: another sum.
  No condition.
-/
import Derived.Test.YtecckgapdpmegaaCodecOpen
import Derived.Test.YtecckgapdpmegaaCodecK
import Derived.Test.YtecckgapdpmegaaCodecX
import Derived.Deep.RegionHeld3
namespace Go.Proofs.Ytecckgapdpmegaa
open Go.ChangeShapes Go.WideShapes Go.ChangeAt Go.RowKit Go.Deep
set_option linter.unusedVariables false
set_option linter.unusedSimpArgs false

theorem mul_back (x : Nat) (hx : x < 4294967296) : x * 16777619 % 4294967296 * 899433627 % 4294967296 = x := by
  rw [Nat.mod_mul_mod, Nat.mul_assoc, Nat.mul_mod, show 16777619 * 899433627 % 4294967296 = 1 from by decide, Nat.mul_one, Nat.mod_mod, Nat.mod_eq_of_lt hx]

theorem mul_odd {x y : Nat} (hx : x < 4294967296) (hy : y < 4294967296) (h : x * 16777619 % 4294967296 = y * 16777619 % 4294967296) : x = y := by
  rw [← mul_back x hx, h, mul_back y hy]

theorem sumStep_nat (h : Nat) (hh : h < 4294967296) (c : UInt8) : sumStep h c = (((h ^^^ c.toNat) * 16777619 % 4294967296 : Nat) : Int) := by
  have hc := c.toNat_lt
  unfold sumStep
  rw [show ((c.toNat : Int) % 4294967296) = (c.toNat : Int) by omega, u32_xor_nat h c.toNat hh (by omega)]
  rfl

theorem xor_right {a b c : Nat} (h : a ^^^ c = b ^^^ c) : a = b := by
  have := congrArg (· ^^^ c) h
  simpa [Nat.xor_assoc] using this
theorem xor_left {a b c : Nat} (h : c ^^^ a = c ^^^ b) : a = b := by
  rw [Nat.xor_comm c a, Nat.xor_comm c b] at h; exact xor_right h

theorem sumStep_h {h g : Nat} (hh : h < 4294967296) (hg : g < 4294967296) (c : UInt8) (e : sumStep h c = sumStep g c) : h = g := by
  have hc := c.toNat_lt
  rw [sumStep_nat h hh, sumStep_nat g hg] at e
  have h1 : h ^^^ c.toNat < 2 ^ 32 := Nat.xor_lt_two_pow (by omega) (by omega)
  have h2 : g ^^^ c.toNat < 2 ^ 32 := Nat.xor_lt_two_pow (by omega) (by omega)
  exact xor_right (mul_odd (by omega) (by omega) (Int.ofNat.inj e)) (c := c.toNat)

theorem sumStep_c {h : Nat} (hh : h < 4294967296) (c d : UInt8) (e : sumStep h c = sumStep h d) : c = d := by
  have hc := c.toNat_lt
  have hd := d.toNat_lt
  rw [sumStep_nat h hh, sumStep_nat h hh] at e
  have h1 : h ^^^ c.toNat < 2 ^ 32 := Nat.xor_lt_two_pow (by omega) (by omega)
  have h2 : h ^^^ d.toNat < 2 ^ 32 := Nat.xor_lt_two_pow (by omega) (by omega)
  have := xor_left (mul_odd (by omega) (by omega) (Int.ofNat.inj e)) (c := h)
  exact UInt8.toNat_inj.1 this

theorem sumOf_nil (h : Int) : sumOf [] h = h := rfl
theorem sumOf_cons (c : UInt8) (l : List UInt8) (h : Int) : sumOf (c :: l) h = sumOf l (sumStep h c) := by unfold sumOf; rw [List.foldl_cons]

theorem sumOf_nat : ∀ (l : List UInt8) (h : Nat), h < 4294967296 → ∃ g : Nat, g < 4294967296 ∧ sumOf l h = g
  | [], h, hh => ⟨h, hh, sumOf_nil _⟩
  | c :: l, h, hh => by
    rw [sumOf_cons, sumStep_nat h hh c]
    exact sumOf_nat l _ (Nat.mod_lt _ (by omega))

theorem sumOf_inj : ∀ (l : List UInt8) (h g : Nat), h < 4294967296 → g < 4294967296 → sumOf l h = sumOf l g → h = g
  | [], h, g, _, _, e => by
    rw [sumOf_nil, sumOf_nil] at e
    exact Int.ofNat.inj e
  | c :: l, h, g, hh, hg, e => by
    rw [sumOf_cons, sumOf_cons, sumStep_nat h hh c, sumStep_nat g hg c] at e
    have := sumOf_inj l _ _ (Nat.mod_lt _ (by omega)) (Nat.mod_lt _ (by omega)) e
    refine sumStep_h hh hg c ?_
    rw [sumStep_nat h hh c, sumStep_nat g hg c, this]

theorem sumOf_append (l m : List UInt8) (h : Int) : sumOf (l ++ m) h = sumOf m (sumOf l h) := by unfold sumOf; rw [List.foldl_append]

/-- The plain law. -/
theorem turned_law (l r : List UInt8) (c d : UInt8) (hcd : c ≠ d) : sumOf (l ++ c :: r) 2166136261 ≠ sumOf (l ++ d :: r) 2166136261 := by
  intro e
  obtain ⟨z, hz⟩ : ∃ z : Nat, z = 2166136261 := ⟨_, rfl⟩
  have hzl : z < 4294967296 := by omega
  have e0 : (2166136261 : Int) = (z : Int) := by rw [hz]; rfl
  rw [e0] at e
  clear e0 hz
  rw [sumOf_append, sumOf_append] at e
  obtain ⟨g, hg, eg⟩ := sumOf_nat l z hzl
  rw [eg, sumOf_cons, sumOf_cons, sumStep_nat g hg c, sumStep_nat g hg d] at e
  have := sumOf_inj r _ _ (Nat.mod_lt _ (by omega)) (Nat.mod_lt _ (by omega)) e
  refine hcd (sumStep_c hg c d ?_)
  rw [sumStep_nat g hg c, sumStep_nat g hg d, this]

def pk (c : Int) (n : Nat) : Nat := if c < 0 then (-(c + 1)).toNat % n else c.toNat % n
theorem pk_lt (c : Int) {n : Nat} (h : 0 < n) : pk c n < n := by unfold pk; split <;> exact Nat.mod_lt _ h
def PkPost (c : Int) (n : Nat) (w : World) (e : Ending) (w' : World) : Prop := e = .returned (.int .i64 (pk c n)) ∧ w' = w

theorem pick_same (c : Int) (n : Nat) (h0 : -9223372036854775808 ≤ c) (h1 : c ≤ 9223372036854775807) (hn : 0 < n) (hnl : n ≤ 2 ^ 63 - 1) (w : World) :
    Calls Try.prog 28 #[.int .i64 c, .int .i64 n] w (fun e w' => e = .returned (.int .i64 (pk c n)) ∧ w' = w) := by
  by_cases hc : c < 0
  · have HE : Hid (pk c n = (-(c + 1)).toNat % n) := by show _ = _; rw [pk, if_pos hc]
    go_enter Try.func28, Try.ntmps28
    go_wp2
    go_ret
    have e1 : -(c + 1).tmod n = (((-(c + 1)).toNat % n : Nat) : Int) := by
      rw [← Int.neg_tmod, Int.tmod_eq_emod_of_nonneg (by omega), Int.natCast_emod, Int.toNat_of_nonneg (by omega)]
    exact ⟨by rw [HE.out, ← e1]; rfl, rfl⟩
  · have HE : Hid (pk c n = c.toNat % n) := by show _ = _; rw [pk, if_neg hc]
    go_enter Try.func28, Try.ntmps28
    go_wp2
    go_ret
    have e1 : c % n = ((c.toNat % n : Nat) : Int) := by
      rw [Int.natCast_emod, Int.toNat_of_nonneg (by omega)]
    exact ⟨by rw [HE.out, ← e1]; rfl, rfl⟩

theorem toList_len (bs : ByteArray) : bs.data.toList.length = bs.size := by rw [Array.length_toList]; rfl
theorem str_cut' {bs : ByteArray} {i j : Nat} : bs.extract i j = ⟨((bs.data.toList.drop i).take (j - i)).toArray⟩ := by
  apply ByteArray.ext
  rw [ByteArray.data_extract]
  apply Array.ext'
  simp [List.drop_take]

set_option maxRecDepth 100000 in
set_option maxHeartbeats 2000000 in
theorem turned_walk (s : ByteArray) (hf : bfits s.size) (at_ by_ : Int) (hat : -9223372036854775808 ≤ at_ ∧ at_ ≤ 9223372036854775807) (hby : -9223372036854775808 ≤ by_ ∧ by_ ≤ 9223372036854775807) (w : World) :
    Calls Try.prog 8 #[.string s, .int .i64 at_, .int .i64 by_] w (AwPost w) := by
  obtain ⟨n, hn⟩ : ∃ n, s.size = n := ⟨_, rfl⟩
  have HF := Lib.hid hf
  have hl : n ≤ 200000000000000 := by unfold bfits at hf; omega
  have HAT := Lib.hid hat
  have HBY := Lib.hid hby
  have HN := Lib.hid hn
  clear hf hat hby
  go_enter Try.func8, Try.ntmps8
  go_wp2_with fail
  refine (awake_any w).mono ?_
  rintro e w1 ⟨rfl, hm⟩
  by_cases h0 : n = 0
  · have hs : s = ⟨#[]⟩ := by
      have h1 : s.data = #[] := Array.eq_empty_of_size_eq_zero (by show s.size = 0; rw [hn, h0])
      rw [← h1]
    subst hs
    have ge : ByteArray.toList ⟨#[]⟩ = [] := by rw [ByteArray.toList_eq]
    have ge2 : (ByteArray.toList ⟨#[]⟩).isEmpty = true := by rw [ge]; rfl
    go_wp2_with fail
    refine (sum_any _ HF.out w1).mono ?_
    rintro e w2 ⟨rfl, rfl⟩
    go_wp2
    go_ret
    exact ⟨by simp [sumOf], hm⟩
  · have hpos : 0 < n := by omega
    have ge : s.toList.isEmpty = false := by
      rw [ByteArray.toList_eq]
      cases hq : s.data.toList with
      | nil => exfalso; have h1 := congrArg List.length hq; rw [Array.length_toList] at h1; have h2 : s.data.size = n := hn; rw [h2] at h1; have h3 : n = 0 := h1; omega
      | cons => rfl
    clear h0
    go_wp2_with fail
    refine (pick_same at_ n HAT.out.1 HAT.out.2 hpos (by omega) w1).mono ?_
    rintro e w2 ⟨rfl, rfl⟩
    have hk := pk_lt at_ hpos
    generalize pk at_ n = k at hk ⊢
    have hk2 : k < s.size := by omega
    obtain ⟨c, hcc⟩ : ∃ c, s[k] = c := ⟨_, rfl⟩
    have hix := fun W => index_byte (P := Try.prog) Try.underlying9 s (k : Int) k (by omega) c hk2 hcc W
    have hcb := c.toNat_lt
    have hr := pk_lt by_ (show 0 < 255 by omega)
    obtain ⟨r, hrr⟩ : ∃ r, pk by_ 255 = r := ⟨_, rfl⟩
    rw [hrr] at hr
    have HRR := Lib.hid hrr
    have HCC := Lib.hid hcc
    clear hrr hcc
    have HPK : Hid (∀ W, Calls Try.prog 28 #[.int .i64 by_, .int .i64 255] W (fun e w' => e = .returned (.int .i64 r) ∧ w' = W)) := by
      show ∀ W, _
      intro W
      have h := pick_same by_ 255 HBY.out.1 HBY.out.2 (by omega) (by omega) W
      rw [HRR.out] at h
      exact h
    have e0 : IntKind.i64.wrap (c.toNat : Int) = (c.toNat : Int) := IntWalk.i64_in _ (by omega)
    have e1 : IntKind.i64.wrap ((c.toNat : Int) + 1) = (c.toNat : Int) + 1 := IntWalk.i64_in _ (by omega)
    have e2 : IntKind.i64.wrap ((c.toNat : Int) + 1 + r) = (c.toNat : Int) + 1 + r := IntWalk.i64_in _ (by omega)
    go_wp2
    go_quiet ((go_at_call 28; exact Calls.quiet_of_same (HPK.out _)))
    go_wp2
    obtain ⟨d, hd⟩ : ∃ d : UInt8, ((c.toNat : Int) + 1 + r) % 256 = (d.toNat : Int) := ⟨UInt8.ofNat ((c.toNat + 1 + r) % 256), by simp⟩
    have hdb := d.toNat_lt
    have hdc : d ≠ c := fun e => by rw [e] at hd; omega
    rw [hd]
    have hmW := hm.drewN nq
    generalize w2.drewN nq = W at hmW ⊢
    have HMW := Lib.hid hmW
    have hconv : ∀ (V : World), V.cell? ⟨W.heap.size, 0, none⟩ = some (.int .u8 d.toNat) → (convert 52 9 (.slice (some ⟨W.heap.size, 0, none⟩) 1 1)).run Try.prog V = .ok (.string ⟨#[d]⟩) V := fun V hV =>
      toString_law (P := Try.prog) V 52 9 5 Try.underlying52 Try.underlying5 Try.underlying9 (some ⟨W.heap.size, 0, none⟩) 1 1 [d] ⟨by simp [bc], Nat.le_refl _, by unfold maxLen; omega, .inr ⟨_, rfl, fun j u hu => by
        simp only [bc, List.map_cons, List.map_nil] at hu
        match j, hu with
        | 0, hu => obtain rfl : _ = u := by simpa using hu
                   rw [add_none]; exact hV
        | j + 1, hu => simp at hu⟩⟩
    have hA : (s.extract 0 k).data.toList = s.data.toList.take k := by rw [str_cut']; simp
    have hB : (s.extract (k + 1) n).data.toList = s.data.toList.drop (k + 1) := by rw [str_cut']; simp; exact List.take_of_length_le (by rw [List.length_drop, toList_len, hn]; exact Nat.le_refl _)
    generalize hAA : s.extract 0 k = A at hA
    generalize hBB : s.extract (k + 1) n = B at hB
    have hAs : A.size = k := by rw [← toList_len, hA, List.length_take, toList_len, hn]; omega
    have hBs : B.size = n - (k + 1) := by rw [← toList_len, hB, List.length_drop, toList_len, hn]
    have hX : (A ++ ⟨#[d]⟩ ++ B).data.toList = s.data.toList.take k ++ d :: s.data.toList.drop (k + 1) := by
      simp [hA, hB]
    have hXf : bfits (A ++ ⟨#[d]⟩ ++ B).size := by
      rw [← toList_len, hX]; unfold bfits
      simp only [List.length_append, List.length_cons, List.length_take, List.length_drop, toList_len, hn]; omega
    have HX := Lib.hid hX
    have HXF := Lib.hid hXf
    clear hX hXf hA hB hix hd e0 e1 e2
    have HFF : Hid (∀ t : ByteArray, t = s ∨ t = A ++ ⟨#[d]⟩ ++ B → bfits t.size) := Lib.hid fun t ht => by rcases ht with rfl | rfl; exact HF.out; exact HXF.out
    have hb0 : (0 : Int) ≤ (k : Int) := by omega
    have hb1 : (k : Int) ≤ (n : Int) := by omega
    have hb2 : (k : Int) + 1 ≤ (n : Int) := by omega
    have hb3 : (0 : Int) ≤ (k : Int) + 1 := by omega
    have hb4 : IntKind.i64.wrap ((k : Int) + 1) = (k : Int) + 1 := IntWalk.i64_in _ (by omega)
    have hb5 : ((k : Int) + 1).toNat = k + 1 := by omega
    have hds : (ByteArray.mk #[d]).size = 1 := rfl
    have hs1 : ¬ (9223372036854775807 < k + 1) := by omega
    have hs2 : (A ++ ⟨#[d]⟩).size = k + 1 := by rw [ByteArray.size_append, hAs, hds]
    have hs3 : ¬ (9223372036854775807 < k + 1 + (n - (k + 1))) := by omega
    have hs4 : ¬ ((9223372036854775807 : Int) < (k : Int) + 1) := by omega
    have hs5 : ¬ ((9223372036854775807 : Int) < (k : Int) + 1 + ((n - (k + 1) : Nat) : Int)) := by omega
    refine wp_region_held_drew (S := fun _ => True) (by kernel_rfl) trivial (fun hHeld => ?_)
    refine wpAnyH_take (i := 0) (oi := ⟨some 32, .move (.tmp 7), 4, _, _, _⟩) (v := ?_) rfl (by kernel_rfl) (by kernel_rfl) (by kernel_rfl) (fun _ _ _ h => h) (Or.inl ⟨by rfl, ?_⟩) (by assumption) ?_
    rotate_left
    · intro w hSw; go_simp; try with_reducible rfl
    try simp only [Act.put, List.setIfInBounds_toArray, List.set_cons_zero, List.set_cons_succ]
    refine wpAnyH_take (i := 1) (oi := ⟨some 33, .move (.tmp 32), 4, _, _, _⟩) (v := ?_) rfl (by kernel_rfl) (by kernel_rfl) (by kernel_rfl) (fun _ _ _ h => h) (Or.inl ⟨by rfl, ?_⟩) (by assumption) ?_
    rotate_left
    · intro w hSw; go_simp; try with_reducible rfl
    try simp only [Act.put, List.setIfInBounds_toArray, List.set_cons_zero, List.set_cons_succ]
    refine wpAnyH_take (i := 2) (oi := ⟨some 34, .move (.tmp 0), 9, _, _, _⟩) (v := ?_) rfl (by kernel_rfl) (by kernel_rfl) (by kernel_rfl) (fun _ _ _ h => h) (Or.inl ⟨by rfl, ?_⟩) (by assumption) ?_
    rotate_left
    · intro w hSw; go_simp; try with_reducible rfl
    try simp only [Act.put, List.setIfInBounds_toArray, List.set_cons_zero, List.set_cons_succ]
    refine wpAnyH_take (i := 3) (oi := ⟨some 35, .move (.tmp 8), 3, _, _, _⟩) (v := ?_) rfl (by kernel_rfl) (by kernel_rfl) (by kernel_rfl) (fun _ _ _ h => h) (Or.inl ⟨by rfl, ?_⟩) (by assumption) ?_
    rotate_left
    · intro w hSw; go_simp; try with_reducible rfl
    try simp only [Act.put, List.setIfInBounds_toArray, List.set_cons_zero, List.set_cons_succ]
    refine wpAnyH_take (i := 4) (oi := ⟨some 36, .slice 9 (.tmp 34) none (some (.tmp 35)) none, 9, _, _, _⟩) (v := ?_) rfl (by kernel_rfl) (by kernel_rfl) (by kernel_rfl) (fun _ _ _ h => h) (Or.inl ⟨by rfl, ?_⟩) (by assumption) ?_
    rotate_left
    · intro w hSw; go_simp; try with_reducible rfl
    try simp only [Act.put, List.setIfInBounds_toArray, List.set_cons_zero, List.set_cons_succ]
    refine wpAnyH_take (i := 5) (oi := ⟨some 37, .move (.tmp 9), 5, _, _, _⟩) (v := ?_) rfl (by kernel_rfl) (by kernel_rfl) (by kernel_rfl) (fun _ _ _ h => h) (Or.inl ⟨by rfl, ?_⟩) (by assumption) ?_
    rotate_left
    · intro w hSw; go_simp; try with_reducible rfl
    try simp only [Act.put, List.setIfInBounds_toArray, List.set_cons_zero, List.set_cons_succ]
    refine wpAnyH_take (i := 9) (oi := ⟨some 41, .move (.tmp 0), 9, _, _, _⟩) (v := ?_) rfl (by kernel_rfl) (by kernel_rfl) (by kernel_rfl) (fun _ _ _ h => h) (Or.inl ⟨by rfl, ?_⟩) (by assumption) ?_
    rotate_left
    · intro w hSw; go_simp; try with_reducible rfl
    try simp only [Act.put, List.setIfInBounds_toArray, List.set_cons_zero, List.set_cons_succ]
    refine wpAnyH_take (i := 10) (oi := ⟨some 42, .move (.tmp 8), 3, _, _, _⟩) (v := ?_) rfl (by kernel_rfl) (by kernel_rfl) (by kernel_rfl) (fun _ _ _ h => h) (Or.inl ⟨by rfl, ?_⟩) (by assumption) ?_
    rotate_left
    · intro w hSw; go_simp; try with_reducible rfl
    try simp only [Act.put, List.setIfInBounds_toArray, List.set_cons_zero, List.set_cons_succ]
    refine wpAnyH_take (i := 11) (oi := ⟨some 43, .binOp .add 3 (.tmp 42) (.const (.int .i64 1)) 3, 3, _, _, _⟩) (v := ?_) rfl (by kernel_rfl) (by kernel_rfl) (by kernel_rfl) (fun _ _ _ h => h) (Or.inl ⟨by rfl, ?_⟩) (by assumption) ?_
    rotate_left
    · intro w hSw; go_simp; try with_reducible rfl
    try simp only [Act.put, List.setIfInBounds_toArray, List.set_cons_zero, List.set_cons_succ]
    refine wpAnyH_take (i := 12) (oi := ⟨some 44, .slice 9 (.tmp 41) (some (.tmp 43)) none none, 9, _, _, _⟩) (v := ?_) rfl (by kernel_rfl) (by kernel_rfl) (by kernel_rfl) (fun _ _ _ h => h) (Or.inl ⟨by rfl, ?_⟩) (by assumption) ?_
    rotate_left
    · intro w hSw; go_simp; try with_reducible rfl
    try simp only [Act.put, List.setIfInBounds_toArray, List.set_cons_zero, List.set_cons_succ]
    refine wpAnyH_take (i := 15) (oi := ⟨some 47, .move (.tmp 0), 9, _, _, _⟩) (v := ?_) rfl (by kernel_rfl) (by kernel_rfl) (by kernel_rfl) (fun _ _ _ h => h) (Or.inl ⟨by rfl, ?_⟩) (by assumption) ?_
    rotate_left
    · intro w hSw; go_simp; try with_reducible rfl
    try simp only [Act.put, List.setIfInBounds_toArray, List.set_cons_zero, List.set_cons_succ]
    refine wpAnyH_ready (rs := [6]) (by kernel_rfl) (by simp) ?_
    refine AllReadyH.cons (o := ⟨some 38, .buildSlice 52 1 #[(0, .tmp 37)], 52, _, _, _⟩) rfl (fun K hK => ?_) AllReadyH.nil
    go_simp
    refine hK.out _ _ trivial (fun hHeld => ?_)
    clear hK K
    try simp only [Act.put, List.setIfInBounds_toArray, List.set_cons_zero, List.set_cons_succ]
    refine wpAnyH_ready (rs := [7]) (by kernel_rfl) (by simp) ?_
    refine AllReadyH.cons (o := ⟨some 39, .convert 52 9 (.tmp 38), 9, _, _, _⟩) rfl (fun K hK => ?_) AllReadyH.nil
    go_simp
    refine hK.out _ _ trivial (fun hHeld => ?_)
    clear hK K
    try simp only [Act.put, List.setIfInBounds_toArray, List.set_cons_zero, List.set_cons_succ]
    refine wpAnyH_take (i := 8) (oi := ⟨some 40, .binOp .add 9 (.tmp 36) (.tmp 39) 9, 9, _, _, _⟩) (v := ?_) rfl (by kernel_rfl) (by kernel_rfl) (by kernel_rfl) (fun _ _ _ h => h) (Or.inl ⟨by rfl, ?_⟩) (by assumption) ?_
    rotate_left
    · intro w hSw; go_simp; try with_reducible rfl
    try simp only [Act.put, List.setIfInBounds_toArray, List.set_cons_zero, List.set_cons_succ]
    refine wpAnyH_take (i := 13) (oi := ⟨some 45, .binOp .add 9 (.tmp 40) (.tmp 44) 9, 9, _, _, _⟩) (v := ?_) rfl (by kernel_rfl) (by kernel_rfl) (by kernel_rfl) (fun _ _ _ h => h) (Or.inl ⟨by rfl, ?_⟩) (by assumption) ?_
    rotate_left
    · intro w hSw; go_simp; try with_reducible rfl
    try simp only [Act.put, List.setIfInBounds_toArray, List.set_cons_zero, List.set_cons_succ]
    refine wpAnyH_ready (rs := [14]) (by kernel_rfl) (by simp) ?_
    refine AllReadyH.cons (o := ⟨some 46, .call _, 48, _, _, _⟩) rfl (fun K hK => ?_) AllReadyH.nil
    go_simp
    refine (sum_any _ HXF.out _).mono ?_
    rintro e w' ⟨rfl, rfl⟩
    refine hK.out _ _ trivial (fun hHeld => ?_)
    clear hK K
    try simp only [Act.put, List.setIfInBounds_toArray, List.set_cons_zero, List.set_cons_succ]
    refine wpAnyH_ready (rs := [16]) (by kernel_rfl) (by simp) ?_
    refine AllReadyH.cons (o := ⟨some 48, .call _, 48, _, _, _⟩) rfl (fun K hK => ?_) AllReadyH.nil
    go_simp
    refine (sum_any _ HF.out _).mono ?_
    rintro e w' ⟨rfl, rfl⟩
    refine hK.out _ _ trivial (fun hHeld => ?_)
    clear hK K
    try simp only [Act.put, List.setIfInBounds_toArray, List.set_cons_zero, List.set_cons_succ]
    refine wpAnyH_take (i := 17) (oi := ⟨some 49, .binOp .neq 48 (.tmp 46) (.tmp 48) 48, 4, _, _, _⟩) (v := ?_) rfl (by kernel_rfl) (by kernel_rfl) (by kernel_rfl) (fun _ _ _ h => h) (Or.inl ⟨by rfl, ?_⟩) (by assumption) ?_
    rotate_left
    · intro w hSw; go_simp; try with_reducible rfl
    try simp only [Act.put, List.setIfInBounds_toArray, List.set_cons_zero, List.set_cons_succ]
    refine wpAnyH_take (i := 18) (oi := ⟨some 50, .pick (.tmp 33) (.tmp 49) (.const (.bool false)), 4, _, _, _⟩) (v := ?_) rfl (by kernel_rfl) (by kernel_rfl) (by kernel_rfl) (fun _ _ _ h => h) (Or.inl ⟨by rfl, ?_⟩) (by assumption) ?_
    rotate_left
    · intro w hSw; go_simp; try with_reducible rfl
    try simp only [Act.put, List.setIfInBounds_toArray, List.set_cons_zero, List.set_cons_succ]
    refine wpAnyH_take (i := 19) (oi := ⟨some 6, .assign (.tmp 50), 4, _, _, _⟩) (v := ?_) rfl (by kernel_rfl) (by kernel_rfl) (by kernel_rfl) (fun _ _ _ h => h) (Or.inl ⟨by rfl, ?_⟩) (by assumption) ?_
    rotate_left
    · intro w hSw; go_simp; try with_reducible rfl
    try simp only [Act.put, List.setIfInBounds_toArray, List.set_cons_zero, List.set_cons_succ]
    refine wpAnyH_done (by kernel_rfl) ?_ _
    go_wp2
    go_ret
    refine ⟨?_, (HMW.out.drew).alloc _⟩
    have h1 := HX.out
    have h2 : s.data.toList = s.data.toList.take k ++ c :: s.data.toList.drop (k + 1) := by
      have hk3 : k < s.data.toList.length := by rw [toList_len]; exact hk2
      have h3 : s.data.toList[k] = c := HCC.out
      rw [← h3, List.getElem_cons_drop, List.take_append_drop]
    have h4 := turned_law (s.data.toList.take k) (s.data.toList.drop (k + 1)) d c hdc
    rw [← h2, ← h1] at h4
    simpa using h4

theorem turned_contract {H : Type} {enc : TypeId × Value → H} (W : World) (base : Nat) (v0 : Value) (d0 : DataW H) (p0 : List MemPlace) (v1 : Value) (d1 : DataW H) (p1 : List MemPlace) (v2 : Value) (d2 : DataW H) (p2 : List MemPlace)
    (k0 : DataW.Trod enc Try.prog W 0 (fun _ => true) true 9 v0 d0 p0) (k1 : DataW.Trod enc Try.prog W 0 (fun _ => true) true 3 v1 d1 p1) (k2 : DataW.Trod enc Try.prog W 0 (fun _ => true) true 3 v2 d2 p2)
    (o0 : Value.okWide Try.prog W .any base 9 v0) (o1 : Value.okWide Try.prog W .any base 3 v1) (o2 : Value.okWide Try.prog W .any base 3 v2)
    (hsz : (DataW.weightsEach Try.prog [9, 3, 3] [d0, d1, d2]).all (· ≤ reachBytes) = true) :
    Calls Try.prog 8 #[v0, v1, v2] W (AwPost W) := by
  have hw : ∀ x, x ∈ d0.weights Try.prog 9 → x ≤ reachBytes := fun x hx => by
    have := List.all_eq_true.1 hsz x (by simp only [DataW.weightsEach, List.mem_append]; simp [hx])
    simpa using this
  obtain ⟨s, rfl, hf, hf2⟩ := open_str k0 o0 hw
  obtain ⟨a, rfl, ha⟩ := open_int k1 o1
  obtain ⟨b, rfl, hb⟩ := open_int k2 o2
  exact turned_walk s hf a b ha hb W
end Go.Proofs.Ytecckgapdpmegaa
