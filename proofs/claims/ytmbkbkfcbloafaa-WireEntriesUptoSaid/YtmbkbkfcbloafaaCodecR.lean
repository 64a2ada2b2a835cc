/-
  The document's own words for what is laid (arboretumref01): Zig, Sevens, Num, Flag, Count, Text.
  Conditions: the text fits.
-/
import Derived.Test.YtmbkbkfcbloafaaCodecQ
namespace Go.Proofs.Ytmbkbkfcbloafaa
open Go.RowKit
set_option linter.unusedSectionVars false
set_option linter.unusedSimpArgs false
set_option linter.unusedVariables false
set_option maxRecDepth 100000

/-- A text comes back; nothing old has changed. -/
def TextPost (xs : List UInt8) (w : World) (e : Ending) (w' : World) : Prop := e = .returned (.string ⟨xs.toArray⟩) ∧ Mod (fun _ => False) w w'

theorem one_src (w : World) (x : Int) (b : UInt8) (hx : x = b.toNat) : Rd (w.alloc (.cells #[.int .u8 x] 5)) 1 (some ⟨w.heap.size, 0, none⟩) 1 1 (bc [b]) := by
  subst hx
  exact (Sl.new (E := 5) (k := 1) (n := 1) (c := #[.int .u8 (b.toNat : Int)]) (heap_alloc_new w _) rfl (by unfold maxLen; omega)).rd

def SevL (w : World) (u : Nat) (x y : Value) (wr : World) : Prop :=
  ∃ (v n : Nat) (done : List UInt8) (a' : Option Addr) (cap' : Nat), x = .int .u64 v ∧ v ≤ u ∧ sevens u = done ++ sevens v ∧ done.length = n ∧ y = .slice a' n cap' ∧ Sl wr 5 1 a' n cap' (bc done) ∧
    Mod (fun _ => False) w wr ∧ ∀ b, own a' = some b → w.heap.size ≤ b

set_option maxRecDepth 100000 in
theorem rsv_any (u : Nat) (hu : u < 18446744073709551616) (w : World) : Calls Try.prog 65 #[.int .u64 u] w (TextPost (sevens u) w) := by
  have hlen : (sevens u).length ≤ 10 := sevens_length 10 u (by omega) (by omega)
  have HLn := Lib.hid hlen
  have HU := Lib.hid hu
  clear hlen hu
  obtain ⟨ip, hip1, hip2, hip3⟩ := info_parts infoB
  have HI := Lib.hid (And.intro hip1 (And.intro hip2 hip3))
  clear hip1 hip2 hip3
  go_enter Try.func65, Try.ntmps65
  go_wp2
  go_loopw [0, 3] (fun x y wr => SevL w u x y wr) (fun x _ _ => (intOf x).toNat)
  case atStart => exact ⟨u, 0, [], none, 0, rfl, Nat.le_refl _, rfl, rfl, rfl, Sl.nil _ _ _, Mod.refl _ _, fun b hb => by simp [own] at hb⟩
  case round =>
    obtain ⟨v, n, done, a1, cap1, rfl, hvu, hsv, hn, rfl, hW, hM, hF⟩ := hrel
    have hvlt : v < 18446744073709551616 := by have := HU.out; omega
    have HS := Lib.hid hsv
    have HW := Lib.hid hW
    have HN := Lib.hid hn
    have hn10 : n ≤ 10 := by
      have := HLn.out
      rw [HS.out, List.length_append, HN.out] at this
      omega
    have HB := Lib.hid (bfits_small (n := n + 1) (by omega))
    clear hsv hW hn
    by_cases hbig : 128 ≤ v
    · have HSB := Lib.hid (sevens_big (u := v) hbig)
      go_wp2_with (at_builtin; refine wpList_append 5 ip _ 1 1 (by kernel_rfl) HI.out.1 HI.out.2.1 HI.out.2.2.1 HI.out.2.2.2 rfl a1 n cap1 (bc done) rfl (HW.out.mod ((Mod.refl (fun _ => False) wr).alloc _) (fun _ _ h => h)) (some ⟨wr.heap.size, 0, none⟩) 1 1 _ rfl (one_src wr _ (UInt8.ofNat (v % 128 + 128)) (by simp; omega)) (bc_one _) HB.out.maxLen HB.out.room ?_; intro a2 cap2 w2 hS2 hM2 hF2 hN2 hR2; clear hN2 hR2; have HS2 := Lib.hid hS2; have HF2 := Lib.hid hF2; clear hS2 hF2)
      go_roundw
      case rel =>
        have hzm := hM.size
        have hmm : Mod (fun _ => False) w w2 := (hM.alloc _).then hM2 (fun x hx h => by
          have := hF x h
          omega)
        refine ⟨v / 128, n + 1, done ++ [UInt8.ofNat (v % 128 + 128)], a2, cap2, ?_, by omega, by rw [HS.out, HSB.out, List.append_assoc]; rfl, by rw [List.length_append, HN.out]; rfl, rfl, ?_, hmm, fun b hb => ?_⟩
        · rw [Int.natCast_ediv]; rfl
        · rw [bc_append]; exact HS2.out
        · rcases HF2.out b hb with h | h
          · exact hF b h
          · simp at h; omega
      case measure => simp [intOf]; omega
    · have HSB := Lib.hid (sevens_small (u := v) (by omega))
      go_wp2_with (first | (at_builtin; refine wpList_append 5 ip _ 1 1 (by kernel_rfl) HI.out.1 HI.out.2.1 HI.out.2.2.1 HI.out.2.2.2 rfl a1 n cap1 (bc done) rfl (HW.out.mod ((Mod.refl (fun _ => False) wr).alloc _) (fun _ _ h => h)) (some ⟨wr.heap.size, 0, none⟩) 1 1 _ rfl (one_src wr _ (UInt8.ofNat v) (by simp; omega)) (bc_one _) HB.out.maxLen HB.out.room ?_; intro a2 cap2 w2 hS2 hM2 hF2 hN2 hR2; clear hN2 hR2; have HS2 := Lib.hid hS2; have HF2 := Lib.hid hF2; clear hS2 hF2) | ((with_reducible refine at_list ?_); refine wpList_toString 5 (by kernel_rfl) (by kernel_rfl) (by kernel_rfl) a2 (n + 1) cap2 rfl (done ++ [UInt8.ofNat v]) (by rw [bc_append]; exact HS2.out.rd) ?_))
      go_ret
      have hmm : Mod (fun _ => False) w w2 := (hM.alloc _).then hM2 (fun x hx h => by
        have := hF x h
        omega)
      exact ⟨by rw [HS.out, HSB.out]; rfl, hmm⟩

theorem rsv_int (x : Int) (u : Nat) (hx : x = u) (hu : u < 18446744073709551616) (w : World) : Calls Try.prog 65 #[.int .u64 x] w (TextPost (sevens u) w) := by
  subst hx; exact rsv_any u hu w

theorem rzig_any (n : Int) (h0 : -9223372036854775808 ≤ n) (h1 : n ≤ 9223372036854775807) (w : World) : Calls Try.prog 66 #[.int .i64 n] w (SumPost (.int .u64 (zig n)) w) := by
  by_cases h : 0 ≤ n
  · have HZ : Hid ((zig n : Int) = 2 * n) := by show _ = _; rw [zig, if_pos h]; omega
    go_enter Try.func66, Try.ntmps66
    go_wp2
    go_ret
    refine ⟨?_, rfl⟩
    rw [HZ.out]
    rfl
  · have HZ : Hid ((zig n : Int) = -2 * n - 1) := by show _ = _; rw [zig, if_neg h]; omega
    go_enter Try.func66, Try.ntmps66
    go_wp2
    go_ret
    refine ⟨?_, rfl⟩
    rw [HZ.out]
    show Ending.returned (.int .u64 (2 * -(n + 1) + 1)) = _
    congr 2
    omega

theorem rwnum_any (n : Int) (h0 : -9223372036854775808 ≤ n) (h1 : n ≤ 9223372036854775807) (w : World) : Calls Try.prog 33 #[.int .i64 n] w (TextPost (sevens (zig n)) w) := by
  go_enter Try.func33, Try.ntmps33
  go_wp2_with fail
  refine (rzig_any n h0 h1 w).mono ?_
  rintro e w1 ⟨rfl, rfl⟩
  go_wp2_with fail
  refine (rsv_any (zig n) (zig_lt n h0 h1) _).mono ?_
  rintro e w2 ⟨rfl, hm⟩
  go_wp2
  go_ret
  exact ⟨rfl, hm⟩

theorem rwcount_any (n : Int) (h0 : -9223372036854775808 ≤ n) (h1 : n ≤ 9223372036854775807) (w : World) : Calls Try.prog 50 #[.int .i64 n] w (TextPost (sevens n.toNat) w) := by
  go_enter Try.func50, Try.ntmps50
  go_wp2_with fail
  all_goals
    refine (rsv_int _ n.toNat (by omega) (by omega) w).mono ?_
    rintro e w1 ⟨rfl, hm⟩
    go_wp2
    go_ret
    exact ⟨rfl, hm⟩

theorem rwflag_any (is : Bool) (w : World) : Calls Try.prog 93 #[.bool is] w (TextPost [if is then 1 else 0] w) := by
  cases is
  · go_enter Try.func93, Try.ntmps93
    go_wp2
    go_ret
    exact ⟨rfl, Mod.refl _ _⟩
  · go_enter Try.func93, Try.ntmps93
    go_wp2
    go_ret
    exact ⟨rfl, Mod.refl _ _⟩

theorem append_text (xs : List UInt8) (s : ByteArray) : ByteArray.mk xs.toArray ++ s = ⟨(xs ++ s.data.toList).toArray⟩ := by
  apply ByteArray.ext
  simp

set_option maxRecDepth 100000 in
theorem rwtext_any (s : ByteArray) (hf : bfits (s.size + 10)) (w : World) : Calls Try.prog 34 #[.string s] w (TextPost (sevens s.size ++ s.data.toList) w) := by
  obtain ⟨n, hn⟩ : ∃ n, s.size = n := ⟨_, rfl⟩
  have hnl : n ≤ 2 ^ 63 - 1 := by have := hf.le; omega
  have hl10 : (sevens n).length ≤ 10 := sevens_length 10 n (by omega) (by omega)
  have HF := Lib.hid hf
  have HL := Lib.hid hl10
  have HN := Lib.hid hn
  have hsz : (ByteArray.mk (sevens n).toArray).size = (sevens n).length := by show (sevens n).toArray.size = _; simp
  have HZ := Lib.hid hsz
  clear hf hl10 hsz
  go_enter Try.func34, Try.ntmps34
  go_wp2_with fail
  refine (rwcount_any n (by omega) (by omega) w).mono ?_
  rw [Int.toNat_natCast]
  rintro e w1 ⟨rfl, hm⟩
  obtain ⟨t, ht⟩ : ∃ t, ByteArray.mk (sevens n).toArray = t := ⟨_, rfl⟩
  have hts : t.size + n ≤ 9223372036854775807 := by
    rw [← ht, HZ.out]
    have := HF.out.le
    have := HL.out
    have := HN.out
    omega
  rw [ht]
  have HT := Lib.hid ht
  clear ht
  go_wp2
  go_ret
  refine ⟨?_, hm⟩
  rw [HN.out, ← append_text, HT.out]
  rfl
end Go.Proofs.Ytmbkbkfcbloafaa
