/-
  Send and All of a post (package post), Clone and Clip of a list of packets.
  Conditions: the post lies in a block of its own ('PostAt'); the lists fit append's room ('fits').
-/
import Derived.Test.YtnggolgpnbdghaaPostB
namespace Go.Proofs.Ytnggolgpnbdghaa
open Go.RowKit
set_option linter.unusedSectionVars false
set_option linter.unusedSimpArgs false
set_option linter.unusedVariables false

/-- The last 400. -/
def last400 (xs : List Pk) : List Pk := xs.drop (xs.length - 400)

theorem Send_any (pb : Nat) (a : Option Addr) (cap : Nat) (xs : List Pk) (w : World) (h : PostAt 47 w pb a cap xs) (s : Option Addr) (sc : Nat) (ys : List Pk) (hs : Rd w 8 s ys.length sc (flat ys)) (hfit : fits (xs.length + ys.length)) :
    Calls Try.prog 7 #[.pointer (some ⟨pb, 0, none⟩), .slice s ys.length sc] w (ToPost 47 (.tuple #[]) w pb a (last400 (xs ++ ys))) := by
  have hlt := h.lt
  have hc := blk_cell h.1 0 _ rfl
  have hpb := heap_lt h.1
  have hl := hfit.le
  have HP := Lib.hid h
  have HR := Lib.hid hs
  have HF := Lib.hid hfit
  clear h hs hfit
  obtain ⟨ip, hip1, hip2, hip3⟩ := info_parts infoP
  have HI := Lib.hid (And.intro hip1 (And.intro hip2 hip3))
  clear hip1 hip2 hip3
  obtain ⟨n, hn⟩ : ∃ n, xs.length + ys.length = n := ⟨_, rfl⟩
  have HN : Hid (xs.length + ys.length = n) := Lib.hid hn
  rw [hn] at hl
  clear hn
  by_cases hbig : 400 < n
  · go_enter Try.func7, Try.ntmps7
    go_wp2_with (at_builtin; refine wpList_append 32 ip _ 8 72 (by kernel_rfl) HI.out.1 HI.out.2.1 HI.out.2.2.1 HI.out.2.2.2 rfl a xs.length cap (flat xs) rfl HP.out.2.1 s ys.length sc _ rfl HR.out (flat_one ys) HF.out.maxLen HF.out.room ?_; rw [HN.out]; intro a1 cap1 w1 hS1 hM1 hF1 hN1 hR1; clear hN1 hR1; have hb1 := hM1.heap HP.out.1 (fun h => HP.out.2.2.1 h); have hc1 := blk_cell hb1 0 _ rfl; have hf1 := blk_free hb1 0; have HB1 := Lib.hid hb1; clear hb1)
    have hn1 : ∀ b, own a1 = some b → b ≠ pb := fun b hb e => by
      have h0 := HP.out.2.2.1
      rcases hF1 b hb with h | h
      · exact h0 (e ▸ h)
      · omega
    refine calls_named fun wA hA => ?_
    have hbA : wA.heap[pb]? = some (.cells #[.slice a1 n cap1] 47 (0, 0)) := by rw [hA]; exact blk_set _ HB1.out
    have hTA : Mod (fun b => b = pb ∨ own a = some b) w wA := by rw [hA]; exact (hM1.mono (fun _ _ h => .inr h)).setCell ⟨pb, 0, none⟩ _ (fun _ => .inl rfl)
    have hSA : Sl wA 32 8 a1 n cap1 (flat xs ++ flat ys) := by rw [hA]; exact hS1.mod (S := fun b => b = pb) ((Mod.refl _ w1).setCell ⟨pb, 0, none⟩ _ (fun _ => rfl)) hn1
    have hzA : wA.heap.size = w1.heap.size := by rw [hA]; simp
    clear hA
    refine (Delete_int a1 n cap1 (flat xs ++ flat ys) 0 (n - 400) 0 ((n : Int) - 400) rfl (by omega) wA hSA (by omega) (by omega) (HN.out ▸ HF.out) (by rw [← flat_append]; exact flat_one _)).mono ?_
    rintro e w2 ⟨a2, cap2, rfl, hS2, hM2, hF2⟩
    have hb2 := hM2.heap hbA (fun h => hn1 pb h rfl)
    have hc2 := blk_cell hb2 0 _ rfl
    have hf2 := blk_free hb2 0
    have HB2 := Lib.hid hb2
    clear hb2 hbA hc hc1 hf1
    go_wp2
    go_end0
    have hlen : (last400 (xs ++ ys)).length = 400 := by
      have := HN.out
      simp only [last400, List.length_drop, List.length_append]; omega
    have hflat : flat (last400 (xs ++ ys)) = (flat xs ++ flat ys).drop ((n - 400) * 8) := by
      rw [← flat_append, flat_drop, last400, List.length_append, HN.out]
    have hn2 : ∀ b, own a2 = some b → b ≠ pb := fun b hb e => by
      rcases hF2 b hb with h | h
      · exact hn1 b h e
      · have := hTA.size; omega
    have e400 : n - (n - 400 - 0) = 400 := by omega
    rw [e400] at hS2
    refine ⟨rfl, a2, cap2, ⟨?_, ?_, fun h => hn2 pb h rfl, (HN.out ▸ HF.out : fits n).mono (by omega)⟩, (hTA.then hM2 (fun x hx h => ?_)).setCell ⟨pb, 0, none⟩ _ (fun _ => .inl rfl), fun b hb => ?_⟩
    · rw [hlen]
      have := blk_set (i := 0) (.slice a2 400 cap2) HB2.out
      rw [show n - (n - 400) = 400 from by omega]
      exact this
    · rw [hlen, hflat]
      have := hS2.mod (S := fun b => b = pb) ((Mod.refl _ w2).setCell ⟨pb, 0, none⟩ (.slice a2 400 cap2) (fun _ => rfl)) hn2
      rw [show n - (n - 400) = 400 from by omega]
      simpa using this
    · rcases hF1 x h with h | h
      · exact .inr h
      · omega
    · have hz2 := hM2.size
      have hzw := hTA.size
      simp only [World.size_setCell]
      rcases hF2 b hb with h | h
      · rcases hF1 b h with h | h
        · exact .inl h
        · exact .inr ⟨by omega, by omega⟩
      · exact .inr ⟨by omega, by omega⟩
  · go_enter Try.func7, Try.ntmps7
    go_wp2_with (at_builtin; refine wpList_append 32 ip _ 8 72 (by kernel_rfl) HI.out.1 HI.out.2.1 HI.out.2.2.1 HI.out.2.2.2 rfl a xs.length cap (flat xs) rfl HP.out.2.1 s ys.length sc _ rfl HR.out (flat_one ys) HF.out.maxLen HF.out.room ?_; rw [HN.out]; intro a1 cap1 w1 hS1 hM1 hF1 hN1 hR1; clear hN1 hR1; have hb1 := hM1.heap HP.out.1 (fun h => HP.out.2.2.1 h); have hc1 := blk_cell hb1 0 _ rfl; have hf1 := blk_free hb1 0; have HB1 := Lib.hid hb1; clear hb1)
    go_end0
    have hn1 : ∀ b, own a1 = some b → b ≠ pb := fun b hb e => by
      have h0 := HP.out.2.2.1
      rcases hF1 b hb with h | h
      · exact h0 (e ▸ h)
      · omega
    have hlast : last400 (xs ++ ys) = xs ++ ys := by
      have := HN.out
      simp only [last400, List.length_append]
      rw [show xs.length + ys.length - 400 = 0 from by omega, List.drop_zero]
    rw [hlast]
    refine ⟨rfl, a1, cap1, ⟨?_, ?_, fun h => hn1 pb h rfl, ?_⟩, (hM1.mono (fun _ _ h => .inr h)).setCell ⟨pb, 0, none⟩ _ (fun _ => .inl rfl), fun b hb => ?_⟩
    · rw [List.length_append, HN.out]; exact blk_set _ HB1.out
    · rw [List.length_append, HN.out, flat_append]; exact hS1.mod (S := fun b => b = pb) ((Mod.refl _ w1).setCell ⟨pb, 0, none⟩ _ (fun _ => rfl)) hn1
    · rw [List.length_append]; exact HF.out
    · simp only [World.size_setCell]
      exact hF1 b hb

/-! ### Clone, Clip, All -/

def ClonePost (n : Nat) (cs : List Value) (w : World) (e : Ending) (w' : World) : Prop :=
  ∃ a' cap', e = .returned (.slice a' n cap') ∧ Sl w' 32 8 a' n cap' cs ∧ Mod (fun _ => False) w w' ∧ ∀ b, own a' = some b → w.heap.size ≤ b ∧ b < w'.heap.size

theorem Clone_any (a : Option Addr) (n cap : Nat) (cs : List Value) (w : World) (h : Rd w 8 a n cap cs) (h1 : ∀ u ∈ cs, u.oneCell' = true) (hf : fits n) :
    Calls Try.prog 19 #[.slice a n cap] w (ClonePost n cs w) := by
  cases a with
  | none =>
    obtain ⟨hl, hn, hm, ⟨_, rfl⟩ | ⟨x, hx, _⟩⟩ := h
    · obtain rfl : n = 0 := by omega
      have hc : cs = [] := List.eq_nil_of_length_eq_zero (by simpa using hl)
      subst hc
      have he := fun (W : World) => Lib.run_eql_slice_nil (P := Try.prog) W 22
      go_enter Try.func19, Try.ntmps19
      go_wp2
      go_ret
      exact ⟨none, 0, rfl, Sl.nil _ _ _, Mod.refl _ _, fun b hb => by simp [own] at hb⟩
    · cases hx
  | some x =>
    have he := fun (W : World) => Lib.run_eql_slice_nil (P := Try.prog) W 22 32 (some x) n cap 0 0 (by kernel_rfl)
    have HR := Lib.hid h
    have HF := Lib.hid hf
    have H1 := Lib.hid h1
    clear h hf h1
    obtain ⟨ip, hip1, hip2, hip3⟩ := info_parts infoP
    have HI := Lib.hid (And.intro hip1 (And.intro hip2 hip3))
    clear hip1 hip2 hip3
    go_enter Try.func19, Try.ntmps19
    go_wp2_with (at_builtin; refine wpList_append 32 ip _ 8 72 (by kernel_rfl) HI.out.1 HI.out.2.1 HI.out.2.2.1 HI.out.2.2.2 rfl (some ⟨w.heap.size, 0, none⟩) 0 0 [] rfl (Sl.new (c := #[]) (heap_alloc_new w _) rfl (Nat.zero_le _)) (some x) n cap _ rfl (HR.out.mod (S := fun _ => False) ((Mod.refl _ _).alloc _) (fun _ _ => id)) H1.out (by rw [Nat.zero_add]; exact HF.out.maxLen) (by rw [Nat.zero_add]; exact HF.out.room) ?_; rw [Nat.zero_add, List.nil_append]; intro a1 cap1 w1 hS1 hM1 hF1 hN1 hR1; clear hN1 hR1)
    go_ret
    have hz := hM1.size
    simp at hz
    refine ⟨a1, cap1, rfl, hS1, ((Mod.refl _ w).alloc _).then hM1 (fun y hy h => ?_), fun b hb => ?_⟩
    · simp [own] at h; omega
    · rcases hF1 b hb with h | h
      · simp [own] at h; omega
      · simp at h; omega

/-- s[:len(s):len(s)]: the same list, without room behind it. -/
theorem Sl.clip {w : World} {E k : Nat} {a : Option Addr} {n cap : Nat} {cs : List Value} (h : Sl w E k a n cap cs) : Sl w E k a n n cs := by
  obtain ⟨hl, hn, hm, h | ⟨b, off, c, rfl, h3, h4, h5⟩⟩ := h
  · exact ⟨hl, Nat.le_refl _, by omega, .inl ⟨h.1, by omega⟩⟩
  · exact ⟨hl, Nat.le_refl _, by omega, .inr ⟨b, off, c, rfl, h3, by have := Nat.mul_le_mul_right k hn; omega, h5⟩⟩

theorem Clip_any (a : Option Addr) (n cap : Nat) (w : World) (hn : n ≤ cap) (hf : fits n) :
    Calls Try.prog 18 #[.slice a n cap] w (RetPost (.slice a n n) w) := by
  have hl := hf.le
  clear hf
  go_enter Try.func18, Try.ntmps18
  go_wp2
  all_goals (go_ret; exact ⟨rfl, rfl⟩)

def AllPost (n : Nat) (cs : List Value) (w : World) (e : Ending) (w' : World) : Prop :=
  ∃ a' cap', e = .returned (.slice a' n cap') ∧ Sl w' 32 8 a' n cap' cs ∧ Mod (fun _ => False) w w' ∧ ∀ b, own a' = some b → w.heap.size ≤ b ∧ b < w'.heap.size

theorem All_any (pb : Nat) (a : Option Addr) (cap : Nat) (xs : List Pk) (w : World) (h : PostAt 47 w pb a cap xs) :
    Calls Try.prog 9 #[.pointer (some ⟨pb, 0, none⟩)] w (ClonePost xs.length (flat xs) w) := by
  have hc := blk_cell h.1 0 _ rfl
  have HP := Lib.hid h
  clear h
  go_enter Try.func9, Try.ntmps9
  go_wp2_with fail
  refine (Clone_any a xs.length cap (flat xs) w HP.out.2.1.rd (flat_one xs) HP.out.2.2.2).mono ?_
  rintro e w1 ⟨a1, cap1, rfl, hS1, hM1, hF1⟩
  go_wp2_with fail
  refine (Clip_any a1 xs.length cap1 w1 hS1.2.1 HP.out.2.2.2).mono ?_
  rintro e w2 ⟨rfl, rfl⟩
  go_wp2
  go_ret
  exact ⟨a1, xs.length, rfl, hS1.clip, hM1, hF1⟩
end Go.Proofs.Ytnggolgpnbdghaa
