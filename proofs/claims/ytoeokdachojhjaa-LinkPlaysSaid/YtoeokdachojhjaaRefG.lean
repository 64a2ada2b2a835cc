/-
  What the document's link does is what the program's does (plain).
  No condition.
-/
import Derived.Test.YtoeokdachojhjaaRefF
namespace Go.Proofs.Ytoeokdachojhjaa
open Go.RowKit
set_option linter.unusedSectionVars false
set_option linter.unusedSimpArgs false
set_option linter.unusedVariables false

/-- The queue's numbers rise, up to the last one. -/
def rising : List Tx → Int → Prop
  | [], _ => True
  | t :: q, b => t.n ≤ b ∧ (∀ u ∈ q, t.n < u.n) ∧ rising q b

theorem rising_mono : ∀ {q : List Tx} {b c : Int}, rising q b → b ≤ c → rising q c
  | [], _, _, _, _ => trivial
  | t :: q, b, c, ⟨h1, h2, h3⟩, h => ⟨by omega, h2, rising_mono h3 h⟩
theorem rising_le : ∀ {q : List Tx} {b : Int}, rising q b → ∀ t ∈ q, t.n ≤ b
  | t :: q, b, ⟨h1, h2, h3⟩, u, hu => by
    rcases List.mem_cons.1 hu with rfl | hu
    · exact h1
    · exact rising_le h3 u hu
theorem rising_snoc : ∀ {q : List Tx} {b : Int} (s : ByteArray), rising q b → rising (q ++ [⟨b + 1, s⟩]) (b + 1)
  | [], b, s, _ => ⟨Int.le_refl _, by simp, trivial⟩
  | t :: q, b, s, ⟨h1, h2, h3⟩ => ⟨by omega, fun u hu => by
      rcases List.mem_append.1 hu with hu | hu
      · exact h2 u hu
      · rw [List.mem_singleton.1 hu]; show t.n < b + 1; omega, rising_snoc s h3⟩

/-- What is acknowledged is the beginning. -/
theorem drop_filter : ∀ {q : List Tx} {b g : Int}, rising q b → q.dropWhile (fun t => !stays g t) = q.filter (stays g)
  | [], _, _, _ => rfl
  | t :: q, b, g, ⟨h1, h2, h3⟩ => by
    by_cases hs : stays g t = true
    · have hall : ∀ u ∈ q, stays g u = true := fun u hu => by
        have := h2 u hu
        unfold stays at hs ⊢
        simp only [decide_eq_true_eq] at hs ⊢
        omega
      rw [List.dropWhile_cons_of_neg (by simp [hs]), List.filter_cons_of_pos hs, List.filter_eq_self.2 hall]
    · have hs : stays g t = false := by simpa using hs
      rw [List.dropWhile_cons_of_pos (by simp [hs]), List.filter_cons_of_neg (by simp [hs]), drop_filter h3]
theorem rising_filter : ∀ {q : List Tx} {b : Int} (f : Tx → Bool), rising q b → rising (q.filter f) b
  | [], _, _, _ => trivial
  | t :: q, b, f, ⟨h1, h2, h3⟩ => by
    by_cases hs : f t = true
    · rw [List.filter_cons_of_pos hs]
      exact ⟨h1, fun u hu => h2 u (List.mem_filter.1 hu).1, rising_filter f h3⟩
    · rw [List.filter_cons_of_neg (by simpa using hs)]; exact rising_filter f h3

/-- The program's link and the document's hold the same: all but what is kept is written alike. -/
structure Alike (P R : Lk) (K : List Tx) : Prop where
  last : R.last = P.last
  sent : R.sent = P.sent
  got : R.got = P.got
  me : R.me = P.me
  peer : R.peer = P.peer
  life : R.life = P.life
  far : R.far = P.far
  queue : R.queue = P.queue
  owes : R.owes = P.owes
  over : R.over = P.over
  kept : ∀ k, P.kept k = rlook K k
  ahead : P.kept (P.got + 1) = none
  ok : P.ok
  rises : rising P.queue P.last
  few : P.queue.length ≤ 64
  cnt : K.length ≤ P.cnt
  last0 : 0 ≤ P.last

theorem Alike.new (me peer life : Int) : Alike (Lk.new me peer life) (Lk.new me peer life) [] :=
  ⟨rfl, rfl, rfl, rfl, rfl, rfl, rfl, rfl, rfl, rfl, fun _ => rfl, rfl, Lk.ok_new _ _ _, trivial, by simp [Lk.new], Nat.zero_le _, by simp [Lk.new]⟩

theorem Alike.near {P R : Lk} {K : List Tx} (h : Alike P R K) : near R.got K := by
  rw [h.got]
  exact ⟨h.ok.1, h.ok.2.1, fun k s hk => h.ok.2.2 k s (by rw [h.kept]; exact hk)⟩

theorem Alike.full {P R : Lk} {K : List Tx} (h : Alike P R K) : R.full = P.full := by unfold Lk.full; rw [h.over, h.queue]
theorem Alike.sendErr {P R : Lk} {K : List Tx} (h : Alike P R K) : R.sendErr = P.sendErr := by unfold Lk.sendErr; rw [h.full]
theorem Alike.send {P R : Lk} {K : List Tx} (h : Alike P R K) (s : ByteArray) : Alike (P.send s) (R.send s) K ∧ (P.send s).last ≤ P.last + 1 ∧ (P.send s).cnt = P.cnt := by
  unfold Lk.send
  rw [h.full]
  by_cases hf : P.full = true
  · rw [if_pos hf, if_pos hf]; exact ⟨h, by omega, rfl⟩
  · rw [if_neg hf, if_neg hf]
    have hl : P.queue.length < 64 := by
      unfold Lk.full at hf
      simp only [Bool.or_eq_true, decide_eq_true_eq, not_or] at hf
      omega
    refine ⟨⟨by show R.last + 1 = P.last + 1; rw [h.last], h.sent, h.got, h.me, h.peer, h.life, h.far, by show R.queue ++ [⟨R.last + 1, s⟩] = P.queue ++ [⟨P.last + 1, s⟩]; rw [h.queue, h.last], h.owes, h.over, h.kept, h.ahead, h.ok, rising_snoc s h.rises, ?_, h.cnt, ?_⟩, Int.le_refl _, rfl⟩
    · show (P.queue ++ [_]).length ≤ 64; rw [List.length_append]; show P.queue.length + 1 ≤ 64; omega
    · show 0 ≤ P.last + 1; have := h.last0; omega

theorem Alike.pkt {P R : Lk} {K : List Tx} (h : Alike P R K) : R.pkt = P.pkt := by
  funext t; unfold Lk.pkt; rw [h.me, h.peer, h.life, h.far, h.got]
theorem Alike.news {P R : Lk} {K : List Tx} (h : Alike P R K) (n : Int) : R.news n = P.news n := by unfold Lk.news; rw [h.queue]
theorem Alike.out {P R : Lk} {K : List Tx} (h : Alike P R K) (n : Int) : R.out n = P.out n := by
  unfold Lk.out; rw [h.over, h.news, h.owes, h.pkt]
theorem Alike.behind {P R : Lk} {K : List Tx} (h : Alike P R K) (n : Int) : Alike (P.behind n) (R.behind n) K ∧ (P.behind n).last = P.last ∧ (P.behind n).cnt = P.cnt := by
  unfold Lk.behind
  rw [h.over]
  by_cases ho : P.over = true
  · rw [if_pos ho, if_pos ho]; exact ⟨h, rfl, rfl⟩
  · rw [if_neg ho, if_neg ho]
    exact ⟨⟨h.last, by show lastN R.sent (R.news n) = lastN P.sent (P.news n); rw [h.sent, h.news], h.got, h.me, h.peer, h.life, h.far, h.queue, rfl, rfl, h.kept, h.ahead, h.ok, h.rises, h.few, h.cnt, h.last0⟩, rfl, rfl⟩

/-- The two ways of letting come out what is kept. -/
theorem drain_alike : ∀ (m : Nat) (f : Int → Option ByteArray) (K : List Tx) (g : Int), (∀ k, f k = if g < k then rlook K k else none) →
    (rdrain m K g).1 = (drain m f g).2.1 ∧ (rdrain m K g).2 = (drain m f g).2.2 ∧ ∀ k, (drain m f g).1 k = if (drain m f g).2.1 < k then rlook K k else none
  | 0, f, K, g, h => ⟨rfl, rfl, h⟩
  | m + 1, f, K, g, h => by
    have hg : f (g + 1) = rlook K (g + 1) := by rw [h, if_pos (by omega)]
    cases hk : rlook K (g + 1) with
    | none => rw [rdrain_none hk, drain_none (hg.trans hk)]; exact ⟨rfl, rfl, h⟩
    | some s =>
      rw [rdrain_some hk, drain_some (hg.trans hk)]
      obtain ⟨h1, h2, h3⟩ := drain_alike m (set1 f (g + 1) none) K (g + 1) (fun k => by
        unfold set1
        by_cases hkk : k = g + 1
        · rw [if_pos hkk, if_neg (by omega)]
        · rw [if_neg hkk, h]
          by_cases h4 : g < k
          · rw [if_pos h4, if_pos (by omega)]
          · rw [if_neg h4, if_neg (by omega)])
      exact ⟨h1, by show s :: _ = s :: _; rw [h2], h3⟩

theorem rlook_ahead (g : Int) : ∀ (K : List Tx) (k : Int), rlook (K.filter (aheadOf g)) k = if g < k then rlook K k else none
  | [], k => by simp [rlook]
  | t :: K, k => by
    by_cases ht : g < t.n
    · rw [List.filter_cons_of_pos (by simp [aheadOf, ht]), rlook, rlook, rlook_ahead g K k]
      by_cases hk : t.n = k
      · rw [if_pos hk, if_pos hk, if_pos (by omega)]
      · rw [if_neg hk, if_neg hk]
    · rw [List.filter_cons_of_neg (by simp [aheadOf, ht]), rlook, rlook_ahead g K k]
      by_cases hk : t.n = k
      · rw [if_neg (by omega), if_neg (by omega)]
      · rw [if_neg hk]

theorem Alike.acked {P R : Lk} {K : List Tx} (h : Alike P R K) (p : Pk) : Alike (P.acked p) (R.racked p) K := by
  have hq : (if p.e = R.life then R.queue.dropWhile (fun t => !stays p.g t) else R.queue) = if p.e = P.life then P.queue.filter (stays p.g) else P.queue := by
    rw [h.life, h.queue, drop_filter h.rises]
  refine ⟨h.last, h.sent, h.got, h.me, h.peer, h.life, rfl, hq, h.owes, h.over, h.kept, h.ahead, h.ok, ?_, Nat.le_trans (acked_len P p) h.few, h.cnt, h.last0⟩
  show rising (if p.e = P.life then P.queue.filter (stays p.g) else P.queue) P.last
  split
  · exact rising_filter _ h.rises
  · exact h.rises

theorem Alike.wants {P R : Lk} {K : List Tx} (h : Alike P R K) (p : Pk) : R.wants p = P.wants p := by unfold Lk.wants; rw [h.got]

/-- What is kept, and one more. -/
theorem keep_kept {P R : Lk} {K : List Tx} (h : Alike P R K) (p : Pk) : (∀ k, (P.keep p).kept k = rlook (R.rkeep K p) k) ∧ (R.rkeep K p).length ≤ (P.keep p).cnt ∧ (P.keep p).cnt ≤ P.cnt + 1 := by
  unfold Lk.keep Lk.rkeep
  rw [h.wants, h.kept]
  by_cases hc : (P.wants p && (rlook K p.f).isNone) = true
  · rw [if_pos hc, if_pos hc]
    refine ⟨fun k => ?_, by rw [List.length_append]; show K.length + 1 ≤ P.cnt + 1; have := h.cnt; omega, Nat.le_refl _⟩
    show set1 P.kept p.f (some p.s) k = _
    rw [rlook_snoc]
    unfold set1
    have hnone : rlook K p.f = none := by
      simp only [Bool.and_eq_true, Option.isNone_iff_eq_none] at hc
      exact hc.2
    by_cases hk : k = p.f
    · rw [if_pos hk, hk, hnone]; simp
    · rw [if_neg hk, h.kept]
      cases hr : rlook K k with
      | some s => rfl
      | none => simp only; rw [if_neg (fun e => hk e.symm)]
  · rw [if_neg hc, if_neg hc]; exact ⟨h.kept, h.cnt, by omega⟩

theorem keep_got (L : Lk) (p : Pk) : (L.keep p).got = L.got := by unfold Lk.keep; split <;> rfl

theorem alike_main {P R : Lk} {K : List Tx} (h : Alike P R K) (p : Pk) (hf1 : p.f ≤ 9223372036854775807) :
    R.rout K p = ((P.owing p).keep p).came ∧ Alike ((P.owing p).keep p).taken (R.rlink K p) (R.rkept K p) ∧ ((P.owing p).keep p).taken.last = P.last ∧ ((P.owing p).keep p).taken.cnt ≤ P.cnt + 1 := by
  unfold Lk.rout Lk.rlink Lk.rkept
  by_cases hs : p.f < 1
  · rw [if_pos hs, if_pos hs, if_pos hs]
    have e1 : P.owing p = P := by
      have : decide (0 < p.f) = false := by simp; omega
      unfold Lk.owing; rw [this, Bool.or_false]
    have e2 : P.keep p = P := by
      have : P.wants p = false := by
        have h0 := h.ok.1
        have : decide (P.got < p.f) = false := by simp; omega
        unfold Lk.wants; rw [this, Bool.false_and]
      unfold Lk.keep; rw [this, Bool.false_and, if_neg (by simp)]
    have e3 : drain 64 P.kept P.got = (P.kept, P.got, []) := drain_none h.ahead
    have e4 : P.taken = P := by unfold Lk.taken; rw [e3]
    rw [e1, e2, e4]
    exact ⟨by unfold Lk.came; rw [e3], h, rfl, by omega⟩
  · rw [if_neg hs, if_neg hs, if_neg hs]
    have hO : Alike (P.owing p) { R with owes := true } K := by
      refine ⟨h.last, h.sent, h.got, h.me, h.peer, h.life, h.far, h.queue, ?_, h.over, h.kept, h.ahead, h.ok, h.rises, h.few, h.cnt, h.last0⟩
      have : decide (0 < p.f) = true := by simp; omega
      show true = (P.owes || decide (0 < p.f))
      rw [this, Bool.or_true]
    have eK : ({ R with owes := true } : Lk).rkeep K p = R.rkeep K p := rfl
    obtain ⟨k1, k2, k3⟩ := keep_kept hO p
    rw [eK] at k1 k2
    obtain ⟨L, hL⟩ : ∃ L : Lk, (P.owing p).keep p = L := ⟨_, rfl⟩
    have hLok : L.ok := by rw [← hL]; exact Lk.ok_keep hO.ok p hf1
    have hLg : L.got = P.got := by rw [← hL, keep_got]; rfl
    obtain ⟨K2, hK2⟩ : ∃ K2, R.rkeep K p = K2 := ⟨_, rfl⟩
    simp only [hL, hK2] at k1 k2 k3
    rw [hL, hK2]
    rw [h.got, ← hLg]
    obtain ⟨d1, d2, d3⟩ := drain_alike 64 L.kept K2 L.got (fun k => by
      by_cases hk : L.got < k
      · rw [if_pos hk]; exact k1 k
      · rw [if_neg hk]
        cases hr : L.kept k with
        | none => rfl
        | some s => have := (hLok.2.2 k s hr).1; omega)
    obtain ⟨i1, i2, i3, i4⟩ := drain_ok 64 L.kept L.got hLok.1 hLok.2.1 (fun k s hk => by have := hLok.2.2 k s hk; exact ⟨this.1, by omega, this.2.2⟩)
    have hfields : L.last = P.last ∧ L.sent = P.sent ∧ L.me = P.me ∧ L.peer = P.peer ∧ L.life = P.life ∧ L.far = P.far ∧ L.queue = P.queue ∧ L.owes = (P.owing p).owes ∧ L.over = P.over := by
      rw [← hL]; unfold Lk.keep; split <;> exact ⟨rfl, rfl, rfl, rfl, rfl, rfl, rfl, rfl, rfl⟩
    obtain ⟨f1, f2, f3, f4, f5, f6, f7, f8, f9⟩ := hfields
    refine ⟨d2, ⟨?_, ?_, d1, ?_, ?_, ?_, ?_, ?_, ?_, ?_, fun k => ?_, i4, Lk.ok_taken hLok, ?_, ?_, ?_, ?_⟩, f1, by show L.cnt ≤ P.cnt + 1; exact k3⟩
    · show R.last = L.last; rw [f1, h.last]
    · show R.sent = L.sent; rw [f2, h.sent]
    · show R.me = L.me; rw [f3, h.me]
    · show R.peer = L.peer; rw [f4, h.peer]
    · show R.life = L.life; rw [f5, h.life]
    · show R.far = L.far; rw [f6, h.far]
    · show R.queue = L.queue; rw [f7, h.queue]
    · show true = L.owes; rw [f8]; exact hO.owes
    · show R.over = L.over; rw [f9, h.over]
    · rw [rlook_ahead, d1]; exact d3 k
    · show rising L.queue L.last; rw [f7, f1]; exact h.rises
    · show L.queue.length ≤ 64; rw [f7]; exact h.few
    · exact Nat.le_trans (List.length_filter_le _ _) k2
    · show 0 ≤ L.last; rw [f1]; exact h.last0

theorem Alike.hear {P R : Lk} {K : List Tx} (h : Alike P R K) (p : Pk) (hf1 : p.f ≤ 9223372036854775807) :
    R.rheard K p = P.heard p ∧ R.ends p = P.ends p ∧ Alike (P.hear p) (R.rhear K p) (R.rhearK K p) ∧ (P.hear p).last = P.last ∧ (P.hear p).cnt ≤ P.cnt + 1 := by
  have e1 : R.deaf p = P.deaf p := by unfold Lk.deaf; rw [h.over, h.peer, h.me]
  have e2 : R.alien p = P.alien p := by unfold Lk.alien; rw [h.life]
  have e3 : R.older p = P.older p := by unfold Lk.older; rw [h.far]
  have e4 : R.newer p = P.newer p := by unfold Lk.newer; rw [h.far]
  unfold Lk.rheard Lk.heard Lk.ends Lk.hear Lk.rhear Lk.rhearK
  rw [e1, e2, e3, e4]
  cases P.deaf p with
  | true => exact ⟨rfl, rfl, h, rfl, by show P.cnt ≤ P.cnt + 1; omega⟩
  | false =>
    cases P.alien p with
    | true =>
      refine ⟨rfl, rfl, ⟨h.last, h.sent, h.got, h.me, h.peer, h.life, h.far, h.queue, ?_, h.over, h.kept, h.ahead, h.ok, h.rises, h.few, h.cnt, h.last0⟩, rfl, by show P.cnt ≤ P.cnt + 1; omega⟩
      show (R.owes || decide (p.e < R.life)) = (P.owes || decide (p.e < P.life))
      rw [h.owes, h.life]
    | false =>
      cases P.older p with
      | true => exact ⟨rfl, rfl, h, rfl, by show P.cnt ≤ P.cnt + 1; omega⟩
      | false =>
        cases P.newer p with
        | true => exact ⟨rfl, rfl, ⟨h.last, h.sent, h.got, h.me, h.peer, h.life, h.far, h.queue, h.owes, rfl, h.kept, h.ahead, h.ok, h.rises, h.few, h.cnt, h.last0⟩, rfl, by show P.cnt ≤ P.cnt + 1; omega⟩
        | false =>
          obtain ⟨a1, a2, a3, a4⟩ := alike_main (h.acked p) p hf1
          exact ⟨a1, rfl, a2, a3, a4⟩
end Go.Proofs.Ytoeokdachojhjaa
