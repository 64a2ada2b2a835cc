/-
  The law package's own helpers: pick, packets, texts: two equal lists are the same.
  Conditions: the lists are read ('Rd'); the bound is positive.
-/
import Derived.Test.YtoeokdachojhjaaLinkI
namespace Go.Proofs.Ytoeokdachojhjaa
open Go.RowKit
set_option linter.unusedSectionVars false
set_option linter.unusedSimpArgs false
set_option linter.unusedVariables false

def DrawPost (v : Value) (w : World) (e : Ending) (w' : World) : Prop := ∃ d, e = .returned v ∧ w' = w.drewN d

theorem packets_yes (a b : Option Addr) (ca cb : Nat) (xs : List Pk) (w : World) (ha : Rd w 8 a xs.length ca (flat xs)) (hb : Rd w 8 b xs.length cb (flat xs)) :
    Calls Try.prog 27 #[.slice a xs.length ca, .slice b xs.length cb] w (DrawPost (.bool true) w) := by
  obtain ⟨n, hn⟩ : ∃ n, xs.length = n := ⟨_, rfl⟩
  have hmax : n ≤ 2 ^ 63 - 1 := by
    have h1 := ha.2.1
    have h2 := ha.2.2.1
    unfold maxLen at h2
    omega
  have HA := Lib.hid ha
  have HB := Lib.hid hb
  have HN := Lib.hid hn
  clear ha hb
  rw [hn]
  clear hn
  go_enter Try.func27, Try.ntmps27
  go_wp2
  go_loopw [5] (fun i wr => ∃ k : Nat, k ≤ n ∧ i = .int .i64 k ∧ ∃ d, wr = w.drewN d) (fun i _ => n - (intOf i).toNat)
  case atStart => exact ⟨0, by omega, rfl, 0, rfl⟩
  case round =>
    obtain ⟨k, hk, rfl, d, rfl⟩ := hrel
    by_cases hlt : k < n
    · have hp : xs[k]? = some (xs[k]'(HN.out ▸ hlt)) := List.getElem?_eq_getElem _
      obtain ⟨b1, o1, rfl, c0, c1, c2, c3, c4, c5, c6, c7⟩ := HA.out.at8 hp
      obtain ⟨b2, o2, rfl, e0, e1, e2, e3, e4, e5, e6, e7⟩ := HB.out.at8 hp
      generalize xs[k]'(HN.out ▸ hlt) = p at *
      clear hp
      go_wp2
      go_quiet (fail)
      go_wp2
      go_roundw
      case rel => exact ⟨k + 1, by omega, by go_num, _, rfl⟩
      case measure => simp [intOf]; omega
    · have hge : n ≤ k := by omega
      go_wp2
      go_ret
      exact ⟨d, rfl, rfl⟩

theorem map_flat (xs : List ByteArray) : xs.map Value.string = xs.flatMap (fun s => [Value.string s]) := by induction xs with
  | nil => rfl
  | cons x xs ih => rw [List.map_cons, List.flatMap_cons, ih]; rfl
theorem Rd.at1 {w : World} {a : Option Addr} {n cap : Nat} {xs : List ByteArray} (h : Rd w 1 a n cap (xs.map .string)) {k : Nat} {s : ByteArray} (hp : xs[k]? = some s) : ∃ b o, a = some ⟨b, o, none⟩ ∧ w.cell? ⟨b, o + k, none⟩ = some (.string s) := by
  rw [map_flat] at h
  obtain ⟨b, o, rfl, _, hc⟩ := h.elem (k := 1) (fun s => [Value.string s]) (fun _ => rfl) (by omega) hp
  refine ⟨b, o, rfl, ?_⟩
  have := hc 0 _ rfl
  simpa using this

theorem texts_yes (a b : Option Addr) (ca cb : Nat) (xs : List ByteArray) (w : World) (ha : Rd w 1 a xs.length ca (xs.map .string)) (hb : Rd w 1 b xs.length cb (xs.map .string)) :
    Calls Try.prog 13 #[.slice a xs.length ca, .slice b xs.length cb] w (DrawPost (.bool true) w) := by
  obtain ⟨n, hn⟩ : ∃ n, xs.length = n := ⟨_, rfl⟩
  have hmax : n ≤ 2 ^ 63 - 1 := by
    have h1 := ha.2.1
    have h2 := ha.2.2.1
    unfold maxLen at h2
    omega
  have HA := Lib.hid ha
  have HB := Lib.hid hb
  have HN := Lib.hid hn
  clear ha hb
  rw [hn]
  clear hn
  go_enter Try.func13, Try.ntmps13
  go_wp2
  go_loopw [5] (fun i wr => ∃ k : Nat, k ≤ n ∧ i = .int .i64 k ∧ ∃ d, wr = w.drewN d) (fun i _ => n - (intOf i).toNat)
  case atStart => exact ⟨0, by omega, rfl, 0, rfl⟩
  case round =>
    obtain ⟨k, hk, rfl, d, rfl⟩ := hrel
    by_cases hlt : k < n
    · have hp : xs[k]? = some (xs[k]'(HN.out ▸ hlt)) := List.getElem?_eq_getElem _
      obtain ⟨b1, o1, rfl, c0⟩ := HA.out.at1 hp
      obtain ⟨b2, o2, rfl, e0⟩ := HB.out.at1 hp
      generalize xs[k]'(HN.out ▸ hlt) = p at *
      clear hp
      go_wp2
      go_quiet (fail)
      go_wp2
      go_roundw
      case rel => exact ⟨k + 1, by omega, by go_num, _, rfl⟩
      case measure => simp [intOf]; omega
    · have hge : n ≤ k := by omega
      go_wp2
      go_ret
      exact ⟨d, rfl, rfl⟩

def PickPost (n : Int) (w : World) (e : Ending) (w' : World) : Prop := ∃ k : Nat, (k : Int) < n ∧ e = .returned (.int .i64 k) ∧ w = w'

theorem pick_any (c n : Int) (w : World) (h0 : -9223372036854775808 ≤ c) (h1 : c ≤ 9223372036854775807) (hn : 1 ≤ n) (hn2 : n ≤ 9223372036854775807) :
    Calls Try.prog 8 #[.int .i64 c, .int .i64 n] w (PickPost n w) := by
  by_cases hc : c < 0
  · have hb : decide (c < 0) = true := by simpa using hc
    have hnz : (n == 0) = false := by simp; omega
    have e0 : 0 ≤ -(c + 1) := by omega
    go_enter Try.func8, Try.ntmps8
    go_wp2
    go_ret
    have hr : -((c + 1).tmod n) = (-(c + 1)) % n := by rw [← Int.neg_tmod, Int.tmod_eq_emod_of_nonneg e0]
    have h2 := Int.emod_nonneg (-(c + 1)) (show n ≠ 0 by omega)
    have h3 := Int.emod_lt_of_pos (-(c + 1)) (show 0 < n by omega)
    refine ⟨((-(c + 1)) % n).toNat, by omega, ?_, rfl⟩
    show Ending.returned (.int .i64 (-((c + 1).tmod n))) = _
    rw [hr, Int.toNat_of_nonneg h2]
  · have hb : decide (c < 0) = false := by simpa using hc
    have hnz : (n == 0) = false := by simp; omega
    have e0 : 0 ≤ c := by omega
    go_enter Try.func8, Try.ntmps8
    go_wp2
    go_ret
    have h2 := Int.emod_nonneg c (show n ≠ 0 by omega)
    have h3 := Int.emod_lt_of_pos c (show 0 < n by omega)
    refine ⟨(c % n).toNat, by omega, ?_, rfl⟩
    show Ending.returned (.int .i64 (c % n)) = _
    rw [Int.toNat_of_nonneg h2]

end Go.Proofs.Ytoeokdachojhjaa
