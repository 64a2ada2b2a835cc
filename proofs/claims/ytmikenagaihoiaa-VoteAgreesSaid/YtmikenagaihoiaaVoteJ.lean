/-
  pick and Round; what a voter does that hears of lookers, and then of a leader's crowd.
  No condition beyond a voter's own.
-/
import Derived.Test.YtmikenagaihoiaaVoteI
namespace Go.Proofs.Ytmikenagaihoiaa
open Go.RowKit
set_option linter.unusedSectionVars false
set_option linter.unusedSimpArgs false
set_option linter.unusedVariables false

theorem box_chunk {w : World} {pb : Nat} {cs : List Value} {T : TypeId} (h : w.heap[pb]? = some (.cells cs.toArray T (0, 0))) : ∀ j u, cs[j]? = some u → w.cell? ((⟨pb, 0, none⟩ : Addr).add j) = some u := by
  intro j u hj
  have e : (⟨pb, 0, none⟩ : Addr).add j = ⟨pb, j, none⟩ := by
    unfold Addr.add
    simp only [Nat.zero_add]
    split
    · next h0 => subst h0; rfl
    · rfl
  rw [e]
  exact blk_cell h j u (by simpa using hj)

def PickPost (n : Int) (w : World) (e : Ending) (w' : World) : Prop := ∃ k : Nat, (k : Int) < n ∧ e = .returned (.int .i64 k) ∧ w = w'

theorem pick_any (c n : Int) (w : World) (h0 : -9223372036854775808 ≤ c) (h1 : c ≤ 9223372036854775807) (hn : 1 ≤ n) (hn2 : n ≤ 9223372036854775807) :
    Calls Try.prog 8 #[.int .i64 c, .int .i64 n] w (PickPost n w) := by
  by_cases hc : c < 0
  · have hb : decide (c < 0) = true := by simpa using hc
    have hnz : (n == 0) = false := by simp; omega
    have e0 : 0 ≤ -(c + 1) := by omega
    go_enter Try.func8, Try.ntmps8
    go_wp2
    go_ret
    have hr : -((c + 1).tmod n) = (-(c + 1)) % n := by rw [← Int.neg_tmod, Int.tmod_eq_emod_of_nonneg e0]
    have h2 := Int.emod_nonneg (-(c + 1)) (show n ≠ 0 by omega)
    have h3 := Int.emod_lt_of_pos (-(c + 1)) (show 0 < n by omega)
    refine ⟨((-(c + 1)) % n).toNat, by omega, ?_, rfl⟩
    show Ending.returned (.int .i64 (-((c + 1).tmod n))) = _
    rw [hr, Int.toNat_of_nonneg h2]
  · have hb : decide (c < 0) = false := by simpa using hc
    have hnz : (n == 0) = false := by simp; omega
    have e0 : 0 ≤ c := by omega
    go_enter Try.func8, Try.ntmps8
    go_wp2
    go_ret
    have h2 := Int.emod_nonneg c (show n ≠ 0 by omega)
    have h3 := Int.emod_lt_of_pos c (show 0 < n by omega)
    refine ⟨(c % n).toNat, by omega, ?_, rfl⟩
    show Ending.returned (.int .i64 (c % n)) = _
    rw [Int.toNat_of_nonneg h2]


theorem round_st {w0 w : World} {pb : Nat} {V : Vr} {l : List Thing} (h : St w0 w (vr pb V :: l)) :
    Calls Try.prog 13 #[.pointer (some ⟨pb, 0, none⟩)] w (StPost (.int .i64 V.round) w0 (vr pb V :: l)) := by
  obtain ⟨hb, sb, hS⟩ := h.unvr
  have hbx := hS.box 0 rfl
  have c3 := blk_cell hbx 3 (.int .i64 V.round) rfl
  have hpb := heap_lt hbx
  have H0 := Lib.hid h
  clear h hS hbx
  go_enter Try.func13, Try.ntmps13
  go_wp2
  go_ret
  exact ⟨rfl, H0.out⟩

/-! ### the plain law -/

theorem cnt_upto (k : Nat) : ∀ n : Nat, cnt (fun i => decide (2 ≤ i ∧ i ≤ (k : Int) + 1)) n = min n (k + 1) - 1
  | 0 => by simp [cnt]
  | n + 1 => by
    rw [cnt, cnt_upto k n]
    by_cases h : 2 ≤ (n : Int) + 1 ∧ (n : Int) + 1 ≤ (k : Int) + 1
    · rw [if_pos (by simpa using h)]; omega
    · rw [if_neg (by simpa using h)]; omega

/-- The note of a follower, or of the leader q + 2 itself. -/
def jnote (q R x st : Int) : No := ⟨x, st, R, q + 2, 1, 0⟩
def jset (q R : Int) (j : Nat) : Int → Option No := fun x => if 2 ≤ x ∧ x < (j : Int) + 2 then some (jnote q R x 1) else none
def jstate (q : Int) (j : Nat) : Int := if (j : Int) = q then 2 else 1

structure Jn (N q R : Int) (j : Nat) (V : Vr) : Prop where
  ok : V.ok
  me : V.me = 1
  sv : V.servers = N
  lo : (j : Int) ≤ q → V.does = 1 ∧ V.settled = jset q R j
  hi : q < (j : Int) → V.does = 2 ∧ V.vote.l = q + 2 ∧ V.round = R

theorem Vr.flat_ok {V : Vr} (h : V.ok) : V.flat.ok := ⟨h.me0, h.me1, h.most, h.heard, h.settled⟩
theorem Jn.flat {N q R : Int} {j : Nat} {V : Vr} (h : Jn N q R j V) : Jn N q R j V.flat := ⟨Vr.flat_ok h.ok, h.me, h.sv, h.lo, h.hi⟩

theorem Jn.step {N q R : Int} {j : Nat} {V : Vr} (h : Jn N q R j V) (hN : N = 2 * q + 1) (hq : 1 ≤ q) (hR : 1 ≤ R) (hj : (j : Int) ≤ q) :
    Jn N q R (j + 1) (V.hear (jnote q R ((j : Int) + 2) (jstate q j))) := by
  obtain ⟨hd, hs⟩ := h.lo hj
  have hst : jstate q j = 1 ∨ jstate q j = 2 := by unfold jstate; split <;> simp
  have hdr : V.drops (jnote q R ((j : Int) + 2) (jstate q j)) = false := by
    unfold Vr.drops Vr.knows jnote
    rw [h.me, h.sv, hd]
    simp
    omega
  obtain ⟨k1, k2, k3⟩ := hear_ok V (jnote q R ((j : Int) + 2) (jstate q j)) h.ok
  have hj' : V.hear (jnote q R ((j : Int) + 2) (jstate q j)) = V.joined (jnote q R ((j : Int) + 2) (jstate q j)) := by
    rw [Vr.hear, hdr, if_neg (by simp), if_neg (by rw [hd]; simp), if_neg (by show jstate q j ≠ 0; omega)]
  refine ⟨k1, by rw [k3, h.me], by rw [k2, h.sv], ?_, ?_⟩ <;> rw [hj'] <;> clear hj' k1 k2 k3
  all_goals
    have hset : ∀ i, (V.settle (jnote q R ((j : Int) + 2) (jstate q j))).settled i = if i = (j : Int) + 2 then some (jnote q R ((j : Int) + 2) (jstate q j)) else jset q R j i := by
      intro i
      show put1 V.settled ((j : Int) + 2) _ i = _
      unfold put1
      rw [hs]
    have hcr : (V.settle (jnote q R ((j : Int) + 2) (jstate q j))).crowd (q + 2) = j + 1 := by
      unfold Vr.crowd
      have : ∀ i, (V.settle (jnote q R ((j : Int) + 2) (jstate q j))).follows (q + 2) i = decide (2 ≤ i ∧ i ≤ ((j + 1 : Nat) : Int) + 1) := by
        intro i
        unfold Vr.follows
        rw [hset]
        by_cases h1 : i = (j : Int) + 2
        · rw [if_pos h1]
          simp [jnote]
          omega
        · rw [if_neg h1]
          unfold jset
          by_cases h2 : 2 ≤ i ∧ i < (j : Int) + 2
          · rw [if_pos h2]
            simp [jnote]
            omega
          · rw [if_neg h2]
            simp
            omega
      rw [cnt_same (fun y _ _ => this y), cnt_upto]
      show min (V.settle _).servers.toNat _ - 1 = _
      rw [show (V.settle (jnote q R ((j : Int) + 2) (jstate q j))).servers = V.servers from rfl, h.sv]
      omega
    have hsv : (V.settle (jnote q R ((j : Int) + 2) (jstate q j))).servers = V.servers := rfl
  · intro hj2
    have hc : ¬ (V.servers / 2 < ((V.settle (jnote q R ((j : Int) + 2) (jstate q j))).crowd (q + 2) : Int) ∧ ((V.settle (jnote q R ((j : Int) + 2) (jstate q j))).says (q + 2)).le = q + 2 ∧ ((V.settle (jnote q R ((j : Int) + 2) (jstate q j))).says (q + 2)).st = 2) := by
      rintro ⟨h1, _⟩
      rw [hcr, h.sv] at h1
      omega
    rw [Vr.joined]
    rw [show (jnote q R ((j : Int) + 2) (jstate q j)).le = q + 2 from rfl, if_neg hc]
    refine ⟨hd, ?_⟩
    funext i
    rw [hset]
    unfold jset
    by_cases h1 : i = (j : Int) + 2
    · rw [if_pos h1, if_pos (by omega)]
      rw [show jstate q j = 1 by unfold jstate; rw [if_neg (by omega)], h1]
    · rw [if_neg h1]
      by_cases h2 : 2 ≤ i ∧ i < (j : Int) + 2
      · rw [if_pos h2, if_pos (by omega)]
      · rw [if_neg h2, if_neg (by omega)]
  · intro hj2
    have hjq : (j : Int) = q := by omega
    have hsay : (V.settle (jnote q R ((j : Int) + 2) (jstate q j))).says (q + 2) = jnote q R ((j : Int) + 2) 2 := by
      unfold Vr.says
      rw [hset, if_pos (by omega), show jstate q j = 2 by unfold jstate; rw [if_pos hjq]]
      rfl
    rw [Vr.joined]
    rw [show (jnote q R ((j : Int) + 2) (jstate q j)).le = q + 2 from rfl, hsay, hcr, if_pos ⟨by rw [h.sv]; omega, rfl, rfl⟩]
    exact ⟨rfl, rfl, rfl⟩

/-- A looker's note turns neither what a looking voter does nor who is settled. -/
theorem hear_looker {V : Vr} {n : No} (hn : n.st = 0) (hd : V.does = 1) : (V.hear n).does = 1 ∧ (V.hear n).settled = V.settled := by
  unfold Vr.hear
  split
  · exact ⟨hd, rfl⟩
  split
  · exact ⟨hd, rfl⟩
  unfold Vr.hears
  split
  · exact ⟨hd, rfl⟩
  obtain ⟨x, hx⟩ := counted_eq ((V.chosen n).hear1 n)
  rw [hx]
  refine ⟨?_, ?_⟩
  · show ((V.chosen n).hear1 n).does = 1
    rw [(hear1_me _ _).2.2.2.1, (chosen_me _ _).2.2.2, hd]
  · show ((V.chosen n).hear1 n).settled = V.settled
    rw [(hear1_me _ _).2.1, (chosen_me _ _).2.1]

theorem Jn.looker {N q R : Int} {V : Vr} (h : Jn N q R 0 V) (hq : 1 ≤ q) {n : No} (hn : n.st = 0) : Jn N q R 0 (V.hear n) := by
  obtain ⟨hd, hs⟩ := h.lo (by omega)
  obtain ⟨k1, k2, k3⟩ := hear_ok V n h.ok
  obtain ⟨h1, h2⟩ := hear_looker hn hd
  exact ⟨k1, by rw [k3, h.me], by rw [k2, h.sv], fun _ => ⟨h1, by rw [h2, hs]⟩, fun h => by omega⟩

theorem Jn.look {N q R : Int} (hN : N = 2 * q + 1) (hq : 1 ≤ q) (hq2 : q ≤ 3) (ep zx : Int) : Jn N q R 0 (Vr.look 1 N 1 ep zx).counted := by
  have hok := look_ok 1 N ep zx (by omega) (by omega) (by omega)
  obtain ⟨x, hx⟩ := counted_eq (Vr.look 1 N 1 ep zx)
  rw [hx] at hok ⊢
  refine ⟨hok, rfl, rfl, fun _ => ⟨rfl, ?_⟩, fun h => by omega⟩
  funext i
  show none = _
  unfold jset
  rw [if_neg (by omega)]
end Go.Proofs.Ytmikenagaihoiaa
