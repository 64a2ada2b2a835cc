/-
  The law package's own helpers (same, pick, awake): two equal lists are the same; a pick is below its bound; the chapter's example is true.
  Conditions: the lists are read ('Rd'); the bound is positive.
-/
import Derived.Test.YtnggolgpnbdghaaPostC
namespace Go.Proofs.Ytnggolgpnbdghaa
open Go.RowKit
set_option linter.unusedSectionVars false
set_option linter.unusedSimpArgs false
set_option linter.unusedVariables false

def DrawPost (v : Value) (w : World) (e : Ending) (w' : World) : Prop := ∃ d, e = .returned v ∧ w' = w.drewN d

theorem same_yes (a b : Option Addr) (ca cb : Nat) (xs : List Pk) (w : World) (ha : Rd w 8 a xs.length ca (flat xs)) (hb : Rd w 8 b xs.length cb (flat xs)) :
    Calls Try.prog 8 #[.slice a xs.length ca, .slice b xs.length cb] w (DrawPost (.bool true) w) := by
  obtain ⟨n, hn⟩ : ∃ n, xs.length = n := ⟨_, rfl⟩
  have hmax : n ≤ 2 ^ 63 - 1 := by
    have h1 := ha.2.1
    have h2 := ha.2.2.1
    unfold maxLen at h2
    omega
  have HA := Lib.hid ha
  have HB := Lib.hid hb
  have HN := Lib.hid hn
  clear ha hb
  rw [hn]
  clear hn
  go_enter Try.func8, Try.ntmps8
  go_wp2
  go_loopw [5] (fun i wr => ∃ k : Nat, k ≤ n ∧ i = .int .i64 k ∧ ∃ d, wr = w.drewN d) (fun i _ => n - (intOf i).toNat)
  case atStart => exact ⟨0, by omega, rfl, 0, rfl⟩
  case round =>
    obtain ⟨k, hk, rfl, d, rfl⟩ := hrel
    by_cases hlt : k < n
    · have hp : xs[k]? = some (xs[k]'(HN.out ▸ hlt)) := List.getElem?_eq_getElem _
      obtain ⟨b1, o1, rfl, c0, c1, c2, c3, c4, c5, c6, c7⟩ := HA.out.at8 hp
      obtain ⟨b2, o2, rfl, e0, e1, e2, e3, e4, e5, e6, e7⟩ := HB.out.at8 hp
      generalize xs[k]'(HN.out ▸ hlt) = p at *
      clear hp
      go_wp2
      go_quiet (fail)
      go_wp2
      go_roundw
      case rel => exact ⟨k + 1, by omega, by go_num, _, rfl⟩
      case measure => simp [intOf]; omega
    · have hge : n ≤ k := by omega
      go_wp2
      go_ret
      exact ⟨d, rfl, rfl⟩

def PickPost (n : Int) (w : World) (e : Ending) (w' : World) : Prop := ∃ k : Nat, (k : Int) < n ∧ e = .returned (.int .i64 k) ∧ w = w'

theorem pick_any (c n : Int) (w : World) (h0 : -9223372036854775808 ≤ c) (h1 : c ≤ 9223372036854775807) (hn : 1 ≤ n) (hn2 : n ≤ 9223372036854775807) :
    Calls Try.prog 10 #[.int .i64 c, .int .i64 n] w (PickPost n w) := by
  by_cases hc : c < 0
  · have hb : decide (c < 0) = true := by simpa using hc
    have hnz : (n == 0) = false := by simp; omega
    have e0 : 0 ≤ -(c + 1) := by omega
    go_enter Try.func10, Try.ntmps10
    go_wp2
    go_ret
    have hr : -((c + 1).tmod n) = (-(c + 1)) % n := by rw [← Int.neg_tmod, Int.tmod_eq_emod_of_nonneg e0]
    have h2 := Int.emod_nonneg (-(c + 1)) (show n ≠ 0 by omega)
    have h3 := Int.emod_lt_of_pos (-(c + 1)) (show 0 < n by omega)
    refine ⟨((-(c + 1)) % n).toNat, by omega, ?_, rfl⟩
    show Ending.returned (.int .i64 (-((c + 1).tmod n))) = _
    rw [hr, Int.toNat_of_nonneg h2]
  · have hb : decide (c < 0) = false := by simpa using hc
    have hnz : (n == 0) = false := by simp; omega
    have e0 : 0 ≤ c := by omega
    go_enter Try.func10, Try.ntmps10
    go_wp2
    go_ret
    have h2 := Int.emod_nonneg c (show n ≠ 0 by omega)
    have h3 := Int.emod_lt_of_pos c (show 0 < n by omega)
    refine ⟨(c % n).toNat, by omega, ?_, rfl⟩
    show Ending.returned (.int .i64 (c % n)) = _
    rw [Int.toNat_of_nonneg h2]

def AwakePost (w : World) (e : Ending) (w' : World) : Prop := e = .returned (.bool true) ∧ Mod (fun _ => False) w w'

def q1 : Pk := ⟨0, 1, 0, 0, 0, 0, 0, .empty⟩
def q2 : Pk := ⟨0, 2, 0, 0, 0, 0, 0, .empty⟩
def q3 : Pk := ⟨0, 3, 0, 0, 0, 0, 0, .empty⟩

attribute [go_sem] q2

theorem awake_any (w : World) : Calls Try.prog 5 #[] w (AwakePost w) := by
  go_enter Try.func5, Try.ntmps5
  go_wp2_with fail
  refine (New_any w).mono ?_
  rintro e w1 ⟨pb, rfl, hP, hM, hb1, hb2⟩
  have HP := Lib.hid hP
  clear hP
  go_wp2_with fail
  refine calls_named fun wA hA => ?_
  have hblk : wA.heap[w1.heap.size]? = some (.cells (flat [q1, q2, q3]).toArray 32 (0, 0)) := by rw [hA]; exact heap_alloc_new w1 _
  have hTA : Mod (fun _ => False) w1 wA := by rw [hA]; exact (Mod.refl _ w1).alloc _
  have hSA : Sl wA 32 8 (some ⟨w1.heap.size, 0, none⟩) 3 3 (flat [q1, q2, q3]) := Sl.new hblk rfl (by unfold maxLen; omega)
  clear hA hblk
  have hsz := hTA.size
  refine (Send_any pb none 0 [] wA (HP.out.mod hTA id (fun _ _ => id)) _ 3 [q1, q2, q3] hSA.rd (by unfold fits; decide)).mono ?_
  rintro e w2 ⟨rfl, a2, cap2, hP2, hM2, hF2⟩
  have HP2 := Lib.hid (show PostAt 47 w2 pb a2 cap2 [q1, q2, q3] from hP2)
  clear hP2
  have hT2 : Mod (fun _ => False) w w2 := (hM.then hTA (fun _ _ h => h)).then hM2 (fun x hx h => by
    rcases h with h | h
    · omega
    · simp [own] at h)
  go_wp2_with fail
  refine (Take_yes pb a2 cap2 [q1, q2, q3] w2 HP2.out 1 q2 rfl).mono ?_
  rintro e w3 ⟨rfl, a3, cap3, hP3, hM3, hF3⟩
  have HP3 := Lib.hid (show PostAt 47 w3 pb a3 cap3 [q1, q3] from hP3)
  clear hP3
  have hw2 := hM2.size
  have hT3 : Mod (fun _ => False) w w3 := hT2.then hM3 (fun x hx h => by
    rcases h with h | h
    · omega
    · rcases hF2 x h with h | h
      · simp [own] at h
      · have := hM.size; omega)
  go_wp2_with fail
  refine (Len_any pb a3 cap3 [q1, q3] _ (HP3.out.mod (S := fun _ => False) ((Mod.refl _ _).alloc _) id (fun _ _ => id))).mono ?_
  rintro e w4 ⟨rfl, rfl⟩
  go_wp2
  go_ret
  exact ⟨rfl, hT3.alloc _⟩
end Go.Proofs.Ytnggolgpnbdghaa
