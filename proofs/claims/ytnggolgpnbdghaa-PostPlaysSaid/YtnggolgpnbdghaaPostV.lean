/-
  Drop of a post (package post), and of slices what it calls: IndexFunc, DeleteFunc at packets.
  Conditions: the post lies in a block of its own ('PostAt').
-/
import Derived.Test.YtnggolgpnbdghaaPostU
namespace Go.Proofs.Ytnggolgpnbdghaa
open Go.RowKit
set_option linter.unusedSectionVars false
set_option linter.unusedSimpArgs false
set_option linter.unusedVariables false

/-- The function value that Drop hands over. -/
def goes (ab : Nat) : Value := .func (.func 27) #[] #[.pointer (some ⟨ab, 0, none⟩)]
attribute [go_sem] goes

theorem drop1_any (ab : Nat) (ad : Int) (p : Pk) (w : World) (h : w.cell? ⟨ab, 0, none⟩ = some (.int .i64 ad)) :
    Calls Try.prog 27 #[p.agg, .pointer (some ⟨ab, 0, none⟩)] w (CopyPost (.bool (!stays ad p)) w) := by
  have hab := World.block_lt_of_cell? w _ h
  simp only [Pk.agg]
  by_cases ha : p.a = ad
  · have g : (p.a == ad) = true := by simpa using ha
    have HE : Hid (stays ad p = false) := by show _ = _; unfold stays; rw [bne, g]; rfl
    clear ha
    go_enter Try.func27, Try.ntmps27
    go_wp2
    go_ret
    rw [HE.out]
    exact ⟨rfl, (Mod.refl _ _).alloc _⟩
  · by_cases hb : p.b = ad
    · have g : (p.a == ad) = false := by simpa using ha
      have g2 : (p.b == ad) = true := by simpa using hb
      have HE : Hid (stays ad p = false) := by show _ = _; unfold stays; rw [bne, bne, g, g2]; rfl
      clear ha hb
      go_enter Try.func27, Try.ntmps27
      go_wp2
      go_ret
      rw [HE.out]
      exact ⟨rfl, (Mod.refl _ _).alloc _⟩
    · have g : (p.a == ad) = false := by simpa using ha
      have g2 : (p.b == ad) = false := by simpa using hb
      have HE : Hid (stays ad p = true) := by show _ = _; unfold stays; rw [bne, bne, g, g2]; rfl
      clear ha hb
      go_enter Try.func27, Try.ntmps27
      go_wp2
      go_ret
      rw [HE.out]
      exact ⟨rfl, (Mod.refl _ _).alloc _⟩

theorem drop1_is (ab : Nat) (ad : Int) (p : Pk) (w : World) (h : w.cell? ⟨ab, 0, none⟩ = some (.int .i64 ad)) (s : Bool) (hs : stays ad p = s) :
    Calls Try.prog 27 #[.agg #[.int .i64 p.a, .int .i64 p.b, .int .i64 p.c, .int .i64 p.d, .int .i64 p.e, .int .i64 p.f, .int .i64 p.g, .string p.s], .pointer (some ⟨ab, 0, none⟩)] w (CopyPost (.bool (!s)) w) := by
  subst hs; exact drop1_any ab ad p w h

def IdxPost (ad : Int) (xs : List Pk) (w : World) (e : Ending) (w' : World) : Prop :=
  Mod (fun _ => False) w w' ∧ ((e = .returned (.int .i64 (-1)) ∧ ∀ p ∈ xs, stays ad p = true) ∨ ∃ (i : Nat) (p : Pk), e = .returned (.int .i64 i) ∧ xs[i]? = some p ∧ stays ad p = false ∧ ∀ q ∈ xs.take i, stays ad q = true)

theorem take_snoc_all {xs : List Pk} {k : Nat} {p : Pk} {Q : Pk → Prop} (hp : xs[k]? = some p) (h : ∀ q ∈ xs.take k, Q q) (hq : Q p) : ∀ q ∈ xs.take (k + 1), Q q := by
  obtain ⟨hk, rfl⟩ := List.getElem?_eq_some_iff.1 hp
  rw [List.take_succ_eq_append_getElem hk]
  intro q hq'
  rcases List.mem_append.1 hq' with h' | h'
  · exact h q h'
  · rw [List.mem_singleton.1 h']; exact hq

theorem IndexFunc_any (ab : Nat) (ad : Int) (a : Option Addr) (cap n : Nat) (xs : List Pk) (hn : xs.length = n) (w : World) (hr : Rd w 8 a n cap (flat xs)) (hc : w.cell? ⟨ab, 0, none⟩ = some (.int .i64 ad)) (hl : n ≤ 2 ^ 63 - 1) :
    Calls Try.prog 28 #[.slice a n cap, goes ab] w (IdxPost ad xs w) := by
  have HR := Lib.hid hr
  have HC := Lib.hid hc
  have HN := Lib.hid hn
  clear hr hc hn
  simp only [goes]
  go_enter Try.func28, Try.ntmps28
  go_wp2
  go_loopw [8] (fun i wr => ∃ k : Nat, k ≤ n ∧ i = .int .i64 k ∧ Mod (fun _ => False) w wr ∧ Hid (∀ q ∈ xs.take k, stays ad q = true)) (fun i _ => n - (intOf i).toNat)
  case atStart => exact ⟨0, by omega, rfl, Mod.refl _ _, Lib.hid (by simp)⟩
  case round =>
    obtain ⟨k, hk, rfl, hM, HQ⟩ := hrel
    by_cases hlt : k < n
    · have hp : xs[k]? = some (xs[k]'(HN.out ▸ hlt)) := List.getElem?_eq_getElem _
      obtain ⟨p, hpp⟩ : ∃ p, xs[k]'(HN.out ▸ hlt) = p := ⟨_, rfl⟩
      rw [hpp] at hp
      obtain ⟨b, o, rfl, h8⟩ := (HR.out.mod hM (fun _ _ => id)).at8 hp
      obtain ⟨c0, c1, c2, c3, c4, c5, c6, c7⟩ := h8
      have HX := Lib.hid hp
      have HM := Lib.hid hM
      have HCr := Lib.hid (hM.cell HC.out id)
      have hbl := World.block_lt_of_cell? wr _ c0
      clear hp hpp hM
      cases hs : stays ad p
      · have HS := Lib.hid hs
        clear hs
        go_wp2_with fail
        refine (drop1_is ab ad p wr HCr.out false HS.out).mono ?_
        rintro e w2 ⟨rfl, hM2⟩
        go_wp2
        go_ret
        exact ⟨HM.out.then hM2 (fun _ _ h => h), .inr ⟨k, p, rfl, HX.out, HS.out, HQ.out⟩⟩
      · have HS := Lib.hid hs
        clear hs
        go_wp2_with fail
        refine (drop1_is ab ad p wr HCr.out true HS.out).mono ?_
        rintro e w2 ⟨rfl, hM2⟩
        go_wp2
        refine ⟨⟨k + 1, by omega, by simp, HM.out.then hM2 (fun _ _ h => h), Lib.hid (take_snoc_all HX.out HQ.out HS.out)⟩, by simp only [intOf]; omega⟩
    · obtain rfl : k = n := by omega
      go_wp2
      go_ret
      have hq := HQ.out
      rw [List.take_of_length_le (by rw [HN.out]; exact Nat.le_refl _)] at hq
      exact ⟨hM, .inl ⟨rfl, hq⟩⟩
end Go.Proofs.Ytnggolgpnbdghaa
