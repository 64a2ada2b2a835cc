/-
  Two ends of one way and the packets between them: what holds of them, and that it holds on.
  No program in sight.
-/
import Derived.Test.YtoeokdachojhjaaLinkE
namespace Go.Proofs.Ytoeokdachojhjaa
open Go.RowKit
set_option linter.unusedSectionVars false
set_option linter.unusedSimpArgs false
set_option linter.unusedVariables false

/-! ### texts and their numbers -/

def num : List ByteArray → Nat → List Tx
  | [], _ => []
  | s :: l, a => ⟨(a : Int) + 1, s⟩ :: num l (a + 1)
theorem num_length : ∀ (l : List ByteArray) (a : Nat), (num l a).length = l.length
  | [], _ => rfl
  | s :: l, a => by rw [num, List.length_cons, List.length_cons, num_length l]
theorem num_append : ∀ (l : List ByteArray) (a : Nat) (s : ByteArray), num (l ++ [s]) a = num l a ++ [⟨((a + l.length : Nat) : Int) + 1, s⟩]
  | [], a, s => rfl
  | x :: l, a, s => by
    rw [List.cons_append, num, num, num_append l (a + 1) s, List.cons_append, List.length_cons, show a + 1 + l.length = a + (l.length + 1) by omega]
theorem mem_num : ∀ (l : List ByteArray) (a : Nat) (t : Tx), t ∈ num l a → ∃ i : Nat, l[i]? = some t.s ∧ t.n = ((a + i : Nat) : Int) + 1
  | [], _, _, h => by cases h
  | x :: l, a, t, h => by
    rw [num] at h
    rcases List.mem_cons.1 h with rfl | h
    · exact ⟨0, rfl, rfl⟩
    · obtain ⟨i, h1, h2⟩ := mem_num l (a + 1) t h
      exact ⟨i + 1, by simpa using h1, by rw [h2]; congr 1; omega⟩
theorem num_stay (g : Int) : ∀ (l : List ByteArray) (a : Nat), (num l a).filter (stays g) = num (l.drop (max a g.toNat - a)) (max a g.toNat)
  | [], a => by simp [num]
  | x :: l, a => by
    rw [num]
    by_cases h : (a : Int) + 1 ≤ g
    · have hs : stays g ⟨(a : Int) + 1, x⟩ = false := by simp [stays, h]
      rw [List.filter_cons_of_neg (by simp [hs]), num_stay g l (a + 1)]
      have e1 : max (a + 1) g.toNat = max a g.toNat := by omega
      rw [e1, show max a g.toNat - a = (max a g.toNat - (a + 1)) + 1 by omega, List.drop_succ_cons]
    · have hs : stays g ⟨(a : Int) + 1, x⟩ = true := by simp [stays]; omega
      rw [List.filter_cons_of_pos hs, num_stay g l (a + 1)]
      have e1 : max (a + 1) g.toNat = a + 1 := by omega
      have e2 : max a g.toNat = a := by omega
      rw [e1, e2, Nat.sub_self, Nat.sub_self, List.drop_zero, List.drop_zero, num]

/-! ### one end -/

structure LkI (k : Nat) (L : Lk) (mine theirs got : List ByteArray) : Prop where
  me : L.me = (k : Int) + 1
  peer : L.peer = 2 - (k : Int)
  life : L.life = 1
  far : L.far = 0 ∨ L.far = 1
  over : L.over = false
  last : L.last = mine.length
  gotn : L.got = got.length
  pre : got = theirs.take got.length
  le : got.length ≤ theirs.length
  kept : ∀ n s, L.kept n = some s → ∃ j : Nat, n = (j : Int) + 1 ∧ got.length ≤ j ∧ theirs[j]? = some s
  gap : L.kept (L.got + 1) = none

structure PkI (k : Nat) (mine got : List ByteArray) (p : Pk) : Prop where
  a : p.a = (k : Int) + 1
  b : p.b = 2 - (k : Int)
  c : p.c = 2
  d : p.d = 1
  e : p.e = 0 ∨ p.e = 1
  g : p.g ≤ got.length
  f : p.f = 0 ∨ ∃ j : Nat, p.f = (j : Int) + 1 ∧ mine[j]? = some p.s

theorem LkI.bound {k : Nat} {L : Lk} {mine theirs got : List ByteArray} (h : LkI k L mine theirs got) {n : Int} {s : ByteArray} (hs : L.kept n = some s) : L.got < n ∧ n ≤ theirs.length := by
  obtain ⟨j, h1, h2, h3⟩ := h.kept n s hs
  have := (List.getElem?_eq_some_iff.1 h3).1
  rw [h.gotn]
  omega
theorem LkI.okk {k : Nat} {L : Lk} {mine theirs got : List ByteArray} (h : LkI k L mine theirs got) (hl : theirs.length ≤ 60) : L.ok := by
  refine ⟨by rw [h.gotn]; omega, by rw [h.gotn]; have := h.le; omega, fun n s hs => ?_⟩
  obtain ⟨h1, h2⟩ := h.bound hs
  have := h.gotn
  exact ⟨h1, by omega, by omega⟩

theorem take_snoc {l : List ByteArray} {n : Nat} {s : ByteArray} (h : l[n]? = some s) : l.take (n + 1) = l.take n ++ [s] := by
  rw [List.take_add_one, h]; rfl

theorem drain_ord (theirs : List ByteArray) : ∀ (m : Nat) (f : Int → Option ByteArray) (g : Int) (got : List ByteArray), g = got.length → got = theirs.take got.length → got.length ≤ theirs.length →
    (∀ n s, f n = some s → ∃ j : Nat, n = (j : Int) + 1 ∧ got.length ≤ j ∧ theirs[j]? = some s) →
    (drain m f g).2.1 = (got ++ (drain m f g).2.2).length ∧ got ++ (drain m f g).2.2 = theirs.take (got ++ (drain m f g).2.2).length ∧ (got ++ (drain m f g).2.2).length ≤ theirs.length
    ∧ ∀ n s, (drain m f g).1 n = some s → ∃ j : Nat, n = (j : Int) + 1 ∧ (got ++ (drain m f g).2.2).length ≤ j ∧ theirs[j]? = some s
  | 0, f, g, got, hg, hp, hle, hf => by
    show g = ((got ++ []).length : Int) ∧ got ++ [] = theirs.take (got ++ []).length ∧ (got ++ []).length ≤ theirs.length ∧ ∀ n s, f n = some s → ∃ j : Nat, n = (j : Int) + 1 ∧ (got ++ []).length ≤ j ∧ theirs[j]? = some s
    rw [List.append_nil]
    exact ⟨hg, hp, hle, hf⟩
  | m + 1, f, g, got, hg, hp, hle, hf => by
    cases hs : f (g + 1) with
    | none =>
      rw [drain_none hs]
      show g = ((got ++ []).length : Int) ∧ got ++ [] = theirs.take (got ++ []).length ∧ (got ++ []).length ≤ theirs.length ∧ ∀ n s, f n = some s → ∃ j : Nat, n = (j : Int) + 1 ∧ (got ++ []).length ≤ j ∧ theirs[j]? = some s
      rw [List.append_nil]
      exact ⟨hg, hp, hle, hf⟩
    | some s =>
      rw [drain_some hs]
      obtain ⟨j, h1, h2, h3⟩ := hf _ s hs
      have hj : j = got.length := by omega
      subst hj
      have hlt := (List.getElem?_eq_some_iff.1 h3).1
      have hl1 : (got ++ [s]).length = got.length + 1 := by simp
      have ih := drain_ord theirs m (set1 f (g + 1) none) (g + 1) (got ++ [s]) (by rw [hl1, hg]; rfl) (by rw [hl1, take_snoc h3, ← hp]) (by rw [hl1]; exact hlt) (fun n t hn => by
        rcases set1_some hn with ⟨_, h'⟩ | ⟨hne, h'⟩
        · cases h'
        · obtain ⟨i, i1, i2, i3⟩ := hf n t h'
          exact ⟨i, i1, by rw [hl1]; omega, i3⟩)
      simp only [List.append_assoc, List.singleton_append] at ih
      exact ih

theorem drain_more {m : Nat} {f : Int → Option ByteArray} {g : Int} {s : ByteArray} (h : f (g + 1) = some s) : 1 ≤ (drain (m + 1) f g).2.2.length := by
  rw [drain_some h]
  show 1 ≤ (s :: _).length
  simp

/-- What an end hears of a packet of the other one's. -/
theorem hear_ord {k : Nat} {L : Lk} {mine theirs got got2 : List ByteArray} (h : LkI k L mine theirs got) (hk : k < 2) (hl : theirs.length ≤ 60) {p : Pk} (hp : PkI (1 - k) theirs got2 p) :
    L.ends p = false ∧ LkI k (L.hear p) mine theirs (got ++ L.heard p) ∧ (L.hear p).far = 1 ∧ (L.hear p).queue = (if p.e = 1 then L.queue.filter (stays p.g) else L.queue)
    ∧ (L.hear p).owes = (L.owes || decide (0 < p.f)) ∧ (p.f ≤ got.length + 1 → p.f ≤ (got ++ L.heard p).length) ∧ (L.hear p).cnt ≤ L.cnt + 1 := by
  have hkk : ((1 - k : Nat) : Int) = 1 - (k : Int) := by omega
  have hd : L.deaf p = false := by
    unfold Lk.deaf
    rw [h.over, h.peer, h.me, hp.a, hp.b, hp.c, hp.d, hkk]
    have e1 : ((1 - (k : Int) + 1) != (2 - (k : Int))) = false := by simp; omega
    have e2 : ((2 - (1 - (k : Int))) != ((k : Int) + 1)) = false := by simp; omega
    rw [e1, e2]
    rfl
  have ha : L.alien p = false := by
    unfold Lk.alien
    rw [h.life]
    rcases hp.e with e | e <;> rw [e] <;> rfl
  have ho : L.older p = false := by
    unfold Lk.older
    rw [hp.d]
    rcases h.far with e | e <;> rw [e] <;> rfl
  have hn : L.newer p = false := by
    unfold Lk.newer
    rw [hp.d]
    rcases h.far with e | e <;> rw [e] <;> rfl
  have e1 : L.ends p = false := by unfold Lk.ends; simp [hd, ha, ho, hn]
  have e2 : L.hear p = (L.main p).taken := by unfold Lk.hear; simp [hd, ha, ho, hn]
  have e3 : L.heard p = (L.main p).came := by unfold Lk.heard; simp [hd, ha, ho, hn]
  rw [e2, e3]
  refine ⟨e1, ?_⟩
  obtain ⟨M, hM⟩ : ∃ M, L.main p = M := ⟨_, rfl⟩
  have hkeep : (M.kept = L.kept ∧ M.cnt = L.cnt ∧ ¬ (L.got < p.f ∧ p.f - L.got ≤ 64 ∧ L.kept p.f = none)) ∨ (M.kept = set1 L.kept p.f (some p.s) ∧ M.cnt = L.cnt + 1 ∧ L.got < p.f) := by
    rw [← hM]
    unfold Lk.main Lk.keep
    by_cases hc : (((L.acked p).owing p).wants p && (((L.acked p).owing p).kept p.f).isNone) = true
    · rw [if_pos hc]
      right
      refine ⟨rfl, rfl, ?_⟩
      simp only [Lk.wants, Bool.and_eq_true, decide_eq_true_eq] at hc
      exact hc.1.1
    · rw [if_neg hc]
      left
      refine ⟨rfl, rfl, fun hx => hc ?_⟩
      obtain ⟨x1, x2, x3⟩ := hx
      have : ((L.acked p).owing p).kept p.f = none := x3
      rw [this]
      simp only [Lk.wants, Bool.and_eq_true, decide_eq_true_eq]
      exact ⟨⟨x1, x2⟩, rfl⟩
  have m1 : M.me = L.me := by rw [← hM]; unfold Lk.main Lk.keep; split <;> rfl
  have m2 : M.peer = L.peer := by rw [← hM]; unfold Lk.main Lk.keep; split <;> rfl
  have m3 : M.life = L.life := by rw [← hM]; unfold Lk.main Lk.keep; split <;> rfl
  have m4 : M.far = p.d := by rw [← hM]; unfold Lk.main Lk.keep; split <;> rfl
  have m5 : M.over = L.over := by rw [← hM]; unfold Lk.main Lk.keep; split <;> rfl
  have m6 : M.last = L.last := by rw [← hM]; unfold Lk.main Lk.keep; split <;> rfl
  have m7 : M.got = L.got := by rw [← hM]; unfold Lk.main Lk.keep; split <;> rfl
  have m8 : M.owes = (L.owes || decide (0 < p.f)) := by rw [← hM]; unfold Lk.main Lk.keep; split <;> rfl
  have m9 : M.queue = if p.e = 1 then L.queue.filter (stays p.g) else L.queue := by
    have : M.queue = (L.acked p).queue := by rw [← hM]; unfold Lk.main Lk.keep; split <;> rfl
    rw [this]
    unfold Lk.acked
    rw [h.life]
  have hMk : ∀ n s, M.kept n = some s → ∃ j : Nat, n = (j : Int) + 1 ∧ got.length ≤ j ∧ theirs[j]? = some s := by
    intro n s hs
    rcases hkeep with ⟨e, _⟩ | ⟨e, _, hg⟩
    · rw [e] at hs; exact h.kept n s hs
    · rw [e] at hs
      rcases set1_some hs with ⟨rfl, h'⟩ | ⟨_, h'⟩
      · injection h' with h'
        subst h'
        rcases hp.f with e0 | ⟨j, j1, j2⟩
        · rw [e0, h.gotn] at hg; omega
        · exact ⟨j, j1, by rw [j1, h.gotn] at hg; omega, j2⟩
      · exact h.kept n s h'
  have hMg : M.got = got.length := by rw [m7, h.gotn]
  obtain ⟨d1, d2, d3, d4⟩ := drain_ord theirs 64 M.kept M.got got hMg h.pre h.le hMk
  have hMb : ∀ n s, M.kept n = some s → M.got < n ∧ n ≤ M.got + (64 : Nat) ∧ n ≤ 9223372036854775807 := by
    intro n s hs
    obtain ⟨j, j1, j2, j3⟩ := hMk n s hs
    have := (List.getElem?_eq_some_iff.1 j3).1
    rw [hMg]
    omega
  obtain ⟨k1, k2, k3, k4⟩ := drain_ok 64 M.kept M.got (by rw [hMg]; omega) (by rw [hMg]; have := h.le; omega) hMb
  rw [hM]
  refine ⟨⟨by show M.me = _; rw [m1, h.me], by show M.peer = _; rw [m2, h.peer], by show M.life = _; rw [m3, h.life], .inr (by show M.far = _; rw [m4, hp.d]), by show M.over = _; rw [m5, h.over], by show M.last = _; rw [m6, h.last], d1, d2, d3, d4, k4⟩, by show M.far = _; rw [m4, hp.d], m9, m8, ?_, ?_⟩
  · intro hf
    have hlen : got.length ≤ (got ++ M.came).length := by rw [List.length_append]; omega
    by_cases hlt : p.f ≤ got.length
    · omega
    · have hfe : p.f = M.got + 1 := by rw [hMg]; omega
      have hs : M.kept (M.got + 1) = some p.s := by
        rw [← hfe]
        rcases hkeep with ⟨_, _, e⟩ | ⟨e, _, _⟩
        · exfalso
          apply e
          rw [m7] at hfe
          refine ⟨by omega, by omega, ?_⟩
          rw [hfe]; exact h.gap
        · rw [e]; unfold set1; rw [if_pos rfl]
      have h1 : 1 ≤ M.came.length := drain_more (m := 63) hs
      rw [List.length_append]
      omega
  · show M.cnt ≤ _
    rcases hkeep with ⟨_, e, _⟩ | ⟨_, e, _⟩ <;> omega
end Go.Proofs.Ytoeokdachojhjaa
