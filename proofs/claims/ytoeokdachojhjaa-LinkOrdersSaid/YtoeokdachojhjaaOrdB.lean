/-
  Two ends of one way and the packets between them: every move keeps what holds; rounds of ticks bring all.
  No program in sight.
-/
import Derived.Test.YtoeokdachojhjaaOrdA
namespace Go.Proofs.Ytoeokdachojhjaa
open Go.RowKit
set_option linter.unusedSectionVars false
set_option linter.unusedSimpArgs false
set_option linter.unusedVariables false

def upd2 {α : Type} (f : Nat → α) (k : Nat) (x : α) : Nat → α := fun j => if j = k then x else f j
theorem upd2_same {α : Type} (f : Nat → α) (k : Nat) (x : α) : upd2 f k x k = x := if_pos rfl
theorem upd2_other {α : Type} (f : Nat → α) {j k : Nat} (x : α) (h : j ≠ k) : upd2 f k x j = f j := if_neg h

structure Inv (E : Nat → Lk) (S G : Nat → List ByteArray) (P : List Pk) : Prop where
  lk : ∀ k, k < 2 → LkI k (E k) (S k) (S (1 - k)) (G k)
  queue : ∀ k, k < 2 → ∃ a : Nat, a ≤ (G (1 - k)).length ∧ (E k).queue = num ((S k).drop a) a
  post : ∀ p ∈ P, ∃ k, k < 2 ∧ PkI k (S k) (G k) p
  most : ∀ k, k < 2 → (S k).length ≤ 60

def newEnds : Nat → Lk := fun k => Lk.new ((k : Int) + 1) (2 - (k : Int)) 1
theorem Inv.new : Inv newEnds (fun _ => []) (fun _ => []) [] := by
  refine ⟨fun k hk => ?_, fun k hk => ⟨0, Nat.le_refl _, rfl⟩, fun p hp => by (cases hp), fun k hk => by simp⟩
  exact ⟨rfl, rfl, rfl, .inl rfl, rfl, rfl, rfl, rfl, Nat.le_refl _, fun n s h => (by cases h), rfl⟩

theorem Inv.sub {E : Nat → Lk} {S G : Nat → List ByteArray} {P Q : List Pk} (h : Inv E S G P) (hQ : ∀ p ∈ Q, p ∈ P) : Inv E S G Q :=
  ⟨h.lk, h.queue, fun p hp => h.post p (hQ p hp), h.most⟩

theorem Inv.qlen {E : Nat → Lk} {S G : Nat → List ByteArray} {P : List Pk} (h : Inv E S G P) {k : Nat} (hk : k < 2) : (E k).queue.length ≤ 60 := by
  obtain ⟨a, _, h2⟩ := h.queue k hk
  rw [h2, num_length, List.length_drop]
  have := h.most k hk
  omega
theorem Inv.notfull {E : Nat → Lk} {S G : Nat → List ByteArray} {P : List Pk} (h : Inv E S G P) {k : Nat} (hk : k < 2) : (E k).full = false := by
  unfold Lk.full
  rw [(h.lk k hk).over]
  have := h.qlen hk
  simp
  omega

theorem LkI.more {k : Nat} {L : Lk} {mine theirs got : List ByteArray} (h : LkI k L mine theirs got) (s : ByteArray) : LkI k L mine (theirs ++ [s]) got := by
  refine ⟨h.me, h.peer, h.life, h.far, h.over, h.last, h.gotn, ?_, by rw [List.length_append]; have := h.le; omega, fun n t ht => ?_, h.gap⟩
  · rw [List.take_append_of_le_length h.le]; exact h.pre
  · obtain ⟨j, h1, h2, h3⟩ := h.kept n t ht
    exact ⟨j, h1, h2, by rw [List.getElem?_append_left (List.getElem?_eq_some_iff.1 h3).1]; exact h3⟩

theorem Inv.send {E : Nat → Lk} {S G : Nat → List ByteArray} {P : List Pk} (h : Inv E S G P) {k : Nat} (hk : k < 2) (h60 : (S k).length < 60) (s : ByteArray) :
    Inv (upd2 E k ((E k).send s)) (upd2 S k (S k ++ [s])) G P := by
  have hs : (E k).send s = (E k).put s := by unfold Lk.send; rw [h.notfull hk]; rfl
  rw [hs]
  have hk' : ∀ j, j < 2 → j ≠ k → 1 - j = k := fun j hj hjk => by omega
  refine ⟨fun j hj => ?_, fun j hj => ?_, fun p hp => ?_, fun j hj => ?_⟩
  · by_cases hjk : j = k
    · subst hjk
      have hne : 1 - j ≠ j := by omega
      rw [upd2_same, upd2_same, upd2_other _ _ hne]
      have H := h.lk j hj
      exact ⟨H.me, H.peer, H.life, H.far, H.over, by show (E j).last + 1 = _; rw [H.last, List.length_append]; rfl, H.gotn, H.pre, H.le, H.kept, H.gap⟩
    · rw [upd2_other _ _ hjk, upd2_other _ _ hjk, hk' j hj hjk, upd2_same]
      have H := h.lk j hj
      rw [hk' j hj hjk] at H
      exact H.more s
  · by_cases hjk : j = k
    · subst hjk
      rw [upd2_same, upd2_same]
      obtain ⟨a, h1, h2⟩ := h.queue j hj
      have H := h.lk j hj
      have H2 := h.lk (1 - j) (by omega)
      rw [show 1 - (1 - j) = j by omega] at H2
      have hle := H2.le
      refine ⟨a, h1, ?_⟩
      show (E j).queue ++ [⟨(E j).last + 1, s⟩] = _
      rw [h2, H.last, List.drop_append_of_le_length (by omega), num_append]
      congr 3
      rw [List.length_drop]
      omega
    · rw [upd2_other _ _ hjk, upd2_other _ _ hjk]
      exact h.queue j hj
  · obtain ⟨j, hj, H⟩ := h.post p hp
    refine ⟨j, hj, ?_⟩
    by_cases hjk : j = k
    · subst hjk
      rw [upd2_same]
      refine ⟨H.a, H.b, H.c, H.d, H.e, H.g, ?_⟩
      rcases H.f with e | ⟨i, i1, i2⟩
      · exact .inl e
      · exact .inr ⟨i, i1, by rw [List.getElem?_append_left (List.getElem?_eq_some_iff.1 i2).1]; exact i2⟩
    · rw [upd2_other _ _ hjk]; exact H
  · by_cases hjk : j = k
    · subst hjk; rw [upd2_same, List.length_append]; simp; omega
    · rw [upd2_other _ _ hjk]; exact h.most j hj

theorem LkI.behind {k : Nat} {L : Lk} {mine theirs got : List ByteArray} (h : LkI k L mine theirs got) (n : Int) : LkI k (L.behind n) mine theirs got := by
  unfold Lk.behind
  rw [if_neg (by rw [h.over]; simp)]
  exact ⟨h.me, h.peer, h.life, h.far, h.over, h.last, h.gotn, h.pre, h.le, h.kept, h.gap⟩
theorem behind_queue {L : Lk} (n : Int) : (L.behind n).queue = L.queue := by unfold Lk.behind; split <;> rfl
theorem behind_cnt {L : Lk} (n : Int) : (L.behind n).cnt = L.cnt := by unfold Lk.behind; split <;> rfl
theorem send_cnt {L : Lk} (s : ByteArray) : (L.send s).cnt = L.cnt := by unfold Lk.send; split <;> rfl

theorem out_mem {L : Lk} {n : Int} {p : Pk} (h : p ∈ L.out n) : ∃ t, p = L.pkt t ∧ (t = ⟨0, .empty⟩ ∨ t ∈ L.queue) := by
  unfold Lk.out at h
  split at h
  · cases h
  split at h
  · split at h
    · simp only [List.mem_cons, List.not_mem_nil, or_false] at h
      exact ⟨_, h, .inl rfl⟩
    · cases h
  · obtain ⟨t, ht, rfl⟩ := List.mem_map.1 h
    exact ⟨t, rfl, .inr (List.mem_filter.1 ht).1⟩
theorem out_len (L : Lk) (n : Int) : (L.out n).length ≤ L.queue.length + 1 := by
  unfold Lk.out
  split
  · simp
  split
  · split <;> simp
  · rw [List.length_map]
    exact Nat.le_succ_of_le (List.length_filter_le _ _)

theorem Inv.out {E : Nat → Lk} {S G : Nat → List ByteArray} {P : List Pk} (h : Inv E S G P) {k : Nat} (hk : k < 2) (n : Int) :
    Inv (upd2 E k ((E k).behind n)) S G (P ++ (E k).out n) := by
  refine ⟨fun j hj => ?_, fun j hj => ?_, fun p hp => ?_, h.most⟩
  · by_cases hjk : j = k
    · subst hjk; rw [upd2_same]; exact (h.lk j hj).behind n
    · rw [upd2_other _ _ hjk]; exact h.lk j hj
  · by_cases hjk : j = k
    · subst hjk; rw [upd2_same, behind_queue]; exact h.queue j hj
    · rw [upd2_other _ _ hjk]; exact h.queue j hj
  · rcases List.mem_append.1 hp with hp | hp
    · exact h.post p hp
    · obtain ⟨t, rfl, ht⟩ := out_mem hp
      have H := h.lk k hk
      refine ⟨k, hk, H.me, H.peer, rfl, H.life, H.far, by show (E k).got ≤ _; rw [H.gotn]; exact Int.le_refl _, ?_⟩
      rcases ht with rfl | ht
      · exact .inl rfl
      · obtain ⟨a, _, h2⟩ := h.queue k hk
        rw [h2] at ht
        obtain ⟨i, i1, i2⟩ := mem_num _ _ _ ht
        rw [List.getElem?_drop] at i1
        exact .inr ⟨a + i, i2, i1⟩

theorem PkI.more {k : Nat} {mine got : List ByteArray} {p : Pk} (h : PkI k mine got p) (l : List ByteArray) : PkI k mine (got ++ l) p :=
  ⟨h.a, h.b, h.c, h.d, h.e, by rw [List.length_append]; have := h.g; omega, h.f⟩

/-- A packet is heard where it is for. -/
theorem Inv.hear {E : Nat → Lk} {S G : Nat → List ByteArray} {P : List Pk} (h : Inv E S G P) {k : Nat} (hk : k < 2) {p : Pk} (hp : PkI (1 - k) (S (1 - k)) (G (1 - k)) p) :
    Inv (upd2 E k ((E k).hear p)) S (upd2 G k (G k ++ (E k).heard p)) P ∧ (E k).ends p = false := by
  obtain ⟨r1, r2, r3, r4, r5, r6, r7⟩ := hear_ord (h.lk k hk) hk (h.most (1 - k) (by omega)) hp
  refine ⟨⟨fun j hj => ?_, fun j hj => ?_, fun q hq => ?_, h.most⟩, r1⟩
  · by_cases hjk : j = k
    · subst hjk; rw [upd2_same, upd2_same]; exact r2
    · rw [upd2_other _ _ hjk, upd2_other _ _ hjk]; exact h.lk j hj
  · by_cases hjk : j = k
    · subst hjk
      rw [upd2_same, upd2_other _ _ (show 1 - j ≠ j by omega), r4]
      obtain ⟨a, h1, h2⟩ := h.queue j hj
      split
      · refine ⟨max a p.g.toNat, by have := hp.g; omega, ?_⟩
        rw [h2, num_stay, List.drop_drop]
        congr 2
        omega
      · exact ⟨a, h1, h2⟩
    · rw [upd2_other _ _ hjk, show 1 - j = k by omega, upd2_same]
      obtain ⟨a, h1, h2⟩ := h.queue j hj
      rw [show 1 - j = k by omega] at h1
      exact ⟨a, by rw [List.length_append]; omega, h2⟩
  · obtain ⟨j, hj, H⟩ := h.post q hq
    refine ⟨j, hj, ?_⟩
    by_cases hjk : j = k
    · subst hjk; rw [upd2_same]; exact H.more _
    · rw [upd2_other _ _ hjk]; exact H

/-! ### rounds -/

def scan (k : Nat) : Nat → List Pk → Nat
  | a, [] => a
  | a, p :: P => scan k (if p.a = (k : Int) + 1 ∧ p.f = (a : Int) + 1 then a + 1 else a) P
theorem scan_ge (k : Nat) : ∀ (P : List Pk) (a : Nat), a ≤ scan k a P
  | [], a => Nat.le_refl _
  | p :: P, a => by
    rw [scan]
    refine Nat.le_trans ?_ (scan_ge k P _)
    split <;> omega
theorem scan_append (k : Nat) : ∀ (P Q : List Pk) (a : Nat), scan k a (P ++ Q) = scan k (scan k a P) Q
  | [], Q, a => rfl
  | p :: P, Q, a => by rw [List.cons_append, scan, scan, scan_append k P Q]
theorem scan_num (k : Nat) (L : Lk) (hm : L.me = (k : Int) + 1) : ∀ (l : List ByteArray) (a b : Nat), a ≤ b → a + l.length ≤ scan k b ((num l a).map L.pkt)
  | [], a, b, h => h
  | s :: l, a, b, h => by
    rw [num, List.map_cons, scan, List.length_cons]
    have := scan_num k L hm l (a + 1) (if (L.pkt ⟨(a : Int) + 1, s⟩).a = (k : Int) + 1 ∧ (L.pkt ⟨(a : Int) + 1, s⟩).f = (b : Int) + 1 then b + 1 else b) (by
      split
      · omega
      · rename_i hc
        have : ¬ (a : Int) + 1 = (b : Int) + 1 := fun e => hc ⟨hm, e⟩
        omega)
    omega

theorem news_all {L : Lk} {l : List ByteArray} {a : Nat} (h : L.queue = num l a) : L.news 0 = L.queue := by
  unfold Lk.news
  rw [List.filter_eq_self]
  intro t ht
  rw [h] at ht
  obtain ⟨i, _, i2⟩ := mem_num _ _ _ ht
  simp
  omega
theorem out_tick {L : Lk} {l : List ByteArray} {a : Nat} (h : L.queue = num l a) (ho : L.over = false) : L.out 0 = if L.queue = [] then (if L.owes then [L.pkt ⟨0, .empty⟩] else []) else L.queue.map L.pkt := by
  unfold Lk.out
  rw [news_all h, ho]
  cases hq : L.queue with
  | nil => simp
  | cons t q => simp

structure InR (i : Nat) (E : Nat → Lk) (S G : Nat → List ByteArray) (P : List Pk) : Prop where
  inv : Inv E S G P
  reach : ∀ k, k < 2 → ∃ a : Nat, a ≤ (G (1 - k)).length ∧ (S k).length ≤ scan k a P
  one : i = 0 → ∀ k, k < 2 → (E k).queue = [] ∨ ((E (1 - k)).owes = true ∧ (E (1 - k)).far = 1) ∨ ∃ p ∈ P, p.a = (k : Int) + 1 ∧ 0 < p.f
  two : 1 ≤ i → ∀ k, k < 2 → (E k).queue = [] ∨ ∃ p ∈ P, p.a = 2 - (k : Int) ∧ p.e = 1 ∧ p.g = (S k).length

structure AtR (i : Nat) (E : Nat → Lk) (S G : Nat → List ByteArray) (P : List Pk) : Prop where
  inv : Inv E S G P
  full : 1 ≤ i → P = [] ∧ ∀ k, k < 2 → (G (1 - k)).length = (S k).length
  one : i = 1 → ∀ k, k < 2 → (E k).queue = [] ∨ ((E (1 - k)).owes = true ∧ (E (1 - k)).far = 1)
  two : 2 ≤ i → ∀ k, k < 2 → (E k).queue = []

theorem AtR.ticks {i : Nat} {E : Nat → Lk} {S G : Nat → List ByteArray} {P : List Pk} (h : AtR i E S G P) :
    InR i (upd2 (upd2 E 0 ((E 0).behind 0)) 1 ((E 1).behind 0)) S G ((P ++ (E 0).out 0) ++ (E 1).out 0) := by
  have h0 := h.inv.out (show 0 < 2 by omega) 0
  have h1 := h0.out (show 1 < 2 by omega) 0
  rw [upd2_other _ _ (show (1 : Nat) ≠ 0 by omega)] at h1
  have hq : ∀ k, k < 2 → ((upd2 (upd2 E 0 ((E 0).behind 0)) 1 ((E 1).behind 0)) k).queue = (E k).queue := by
    intro k hk
    by_cases h1 : k = 1
    · subst h1; rw [upd2_same, behind_queue]
    · rw [upd2_other _ _ h1]
      have : k = 0 := by omega
      subst this
      rw [upd2_same, behind_queue]
  have hout : ∀ k, k < 2 → ∀ p ∈ (E k).out 0, p ∈ (P ++ (E 0).out 0) ++ (E 1).out 0 := by
    intro k hk p hp
    by_cases h1 : k = 1
    · subst h1; exact List.mem_append.2 (.inr hp)
    · have : k = 0 := by omega
      subst this
      exact List.mem_append.2 (.inl (List.mem_append.2 (.inr hp)))
  refine ⟨h1, fun k hk => ?_, fun hi k hk => ?_, fun hi k hk => ?_⟩
  · obtain ⟨a, ha, hqa⟩ := h.inv.queue k hk
    refine ⟨a, ha, ?_⟩
    have key : ∀ b, a ≤ b → (S k).length ≤ scan k b ((E k).out 0) := by
      intro b hb
      rw [out_tick hqa (h.inv.lk k hk).over]
      have hlen : ((S k).drop a).length = (S k).length - a := List.length_drop
      by_cases hn : (E k).queue = []
      · rw [if_pos hn]
        have : ((S k).drop a).length = 0 := by rw [← num_length _ a, ← hqa, hn]; rfl
        exact Nat.le_trans (by omega) (scan_ge k _ b)
      · rw [if_neg hn, hqa]
        have := scan_num k (E k) (h.inv.lk k hk).me ((S k).drop a) a b hb
        omega
    rw [scan_append, scan_append]
    by_cases hk1 : k = 1
    · subst hk1
      exact key _ (Nat.le_trans (scan_ge 1 P a) (scan_ge 1 _ _))
    · have : k = 0 := by omega
      subst this
      exact Nat.le_trans (key _ (scan_ge 0 P a)) (scan_ge 0 _ _)
  · rw [hq k hk]
    by_cases hn : (E k).queue = []
    · exact .inl hn
    · right; right
      obtain ⟨a, ha, hqa⟩ := h.inv.queue k hk
      cases hd : (S k).drop a with
      | nil => rw [hqa, hd] at hn; exact absurd rfl hn
      | cons s l =>
        refine ⟨(E k).pkt ⟨(a : Int) + 1, s⟩, hout k hk _ ?_, (h.inv.lk k hk).me, by show 0 < (a : Int) + 1; omega⟩
        rw [out_tick hqa (h.inv.lk k hk).over, if_neg hn, hqa, hd, num]
        exact List.mem_map.2 ⟨_, List.mem_cons_self, rfl⟩
  · rw [hq k hk]
    by_cases hn : (E k).queue = []
    · exact .inl hn
    · right
      have hi1 : i = 1 := by
        by_cases h2 : 2 ≤ i
        · exact absurd (h.two h2 k hk) hn
        · omega
      rcases h.one hi1 k hk with e | ⟨e1, e2⟩
      · exact absurd e hn
      · have hk' : 1 - k < 2 := by omega
        obtain ⟨a, ha, hqa⟩ := h.inv.queue (1 - k) hk'
        have H := h.inv.lk (1 - k) hk'
        have hf := (h.full hi).2 k hk
        have key : ∀ t, (E (1 - k)).pkt t ∈ (E (1 - k)).out 0 → ∃ p ∈ (P ++ (E 0).out 0) ++ (E 1).out 0, p.a = 2 - (k : Int) ∧ p.e = 1 ∧ p.g = (S k).length := fun t ht =>
          ⟨_, hout (1 - k) hk' _ ht, by show (E (1 - k)).me = _; rw [H.me]; omega, e2, by show (E (1 - k)).got = _; rw [H.gotn, hf]⟩
        by_cases hn2 : (E (1 - k)).queue = []
        · exact key ⟨0, .empty⟩ (by rw [out_tick hqa H.over, if_pos hn2, e1]; exact List.mem_cons_self)
        · cases hd : (E (1 - k)).queue with
          | nil => exact absurd hd hn2
          | cons t q => exact key t (by rw [out_tick hqa H.over, if_neg hn2, hd]; exact List.mem_map.2 ⟨t, List.mem_cons_self, rfl⟩)

theorem InR.step {i : Nat} {E : Nat → Lk} {S G : Nat → List ByteArray} {p : Pk} {P : List Pk} (h : InR i E S G (p :: P)) {k : Nat} (hk : k < 2) (hp : PkI (1 - k) (S (1 - k)) (G (1 - k)) p) :
    InR i (upd2 E k ((E k).hear p)) S (upd2 G k (G k ++ (E k).heard p)) P := by
  obtain ⟨r1, r2, r3, r4, r5, r6, r7⟩ := hear_ord (h.inv.lk k hk) hk (h.inv.most (1 - k) (by omega)) hp
  have hI := (h.inv.sub (Q := P) (fun q hq => List.mem_cons_of_mem _ hq)).hear hk hp
  have hnil : ∀ j, (E j).queue = [] → (upd2 E k ((E k).hear p) j).queue = [] := by
    intro j hj
    by_cases hjk : j = k
    · subst hjk; rw [upd2_same, r4, hj]; split <;> rfl
    · rw [upd2_other _ _ hjk]; exact hj
  refine ⟨hI.1, fun j hj => ?_, fun hi j hj => ?_, fun hi j hj => ?_⟩
  · obtain ⟨a, ha, hs⟩ := h.reach j hj
    rw [scan] at hs
    by_cases hc : p.a = (j : Int) + 1 ∧ p.f = (a : Int) + 1
    · rw [if_pos hc] at hs
      have hjk : 1 - j = k := by have := hp.a; omega
      refine ⟨a + 1, ?_, hs⟩
      rw [hjk, upd2_same]
      rw [hjk] at ha
      have := r6 (by omega)
      omega
    · rw [if_neg hc] at hs
      refine ⟨a, ?_, hs⟩
      by_cases hjk : 1 - j = k
      · rw [hjk, upd2_same, List.length_append]; rw [hjk] at ha; omega
      · rw [upd2_other _ _ hjk]; exact ha
  · rcases h.one hi j hj with e | ⟨e1, e2⟩ | ⟨q, hq, q1, q2⟩
    · exact .inl (hnil j e)
    · right; left
      by_cases hjk : 1 - j = k
      · rw [hjk] at e1 ⊢
        rw [upd2_same, r5, r3, e1]
        exact ⟨rfl, rfl⟩
      · rw [upd2_other _ _ hjk]; exact ⟨e1, e2⟩
    · rcases List.mem_cons.1 hq with rfl | hq
      · right; left
        have hjk : 1 - j = k := by have := hp.a; omega
        rw [hjk, upd2_same, r5, r3]
        exact ⟨by simp [q2], rfl⟩
      · exact .inr (.inr ⟨q, hq, q1, q2⟩)
  · rcases h.two hi j hj with e | ⟨q, hq, q1, q2, q3⟩
    · exact .inl (hnil j e)
    · rcases List.mem_cons.1 hq with rfl | hq
      · left
        have hjk : j = k := by have := hp.a; omega
        subst hjk
        rw [upd2_same, r4, if_pos q2]
        obtain ⟨a, ha, hqa⟩ := h.inv.queue j hj
        rw [hqa, num_stay, q3, List.drop_drop, List.drop_eq_nil_of_le (by omega)]
        rfl
      · exact .inr ⟨q, hq, q1, q2, q3⟩

theorem InR.ends {i : Nat} {E : Nat → Lk} {S G : Nat → List ByteArray} (h : InR i E S G []) : AtR (i + 1) E S G [] := by
  have hf : ∀ k, k < 2 → (G (1 - k)).length = (S k).length := by
    intro k hk
    obtain ⟨a, ha, hs⟩ := h.reach k hk
    have hs : (S k).length ≤ a := hs
    have := (h.inv.lk (1 - k) (by omega)).le
    rw [show 1 - (1 - k) = k by omega] at this
    omega
  refine ⟨h.inv, fun _ => ⟨rfl, hf⟩, fun hi k hk => ?_, fun hi k hk => ?_⟩
  · rcases h.one (by omega) k hk with e | e | ⟨q, hq, _⟩
    · exact .inl e
    · exact .inr e
    · cases hq
  · rcases h.two (by omega) k hk with e | ⟨q, hq, _⟩
    · exact e
    · cases hq

theorem AtR.all {i : Nat} {E : Nat → Lk} {S G : Nat → List ByteArray} {P : List Pk} (h : AtR i E S G P) (hi : 2 ≤ i) : G 0 = S 1 ∧ G 1 = S 0 ∧ (E 0).queue = [] ∧ (E 1).queue = [] := by
  have h0 := (h.inv.lk 0 (by omega)).pre
  have h1 := (h.inv.lk 1 (by omega)).pre
  have f0 := (h.full (by omega)).2 0 (by omega)
  have f1 := (h.full (by omega)).2 1 (by omega)
  refine ⟨?_, ?_, h.two hi 0 (by omega), h.two hi 1 (by omega)⟩
  · rw [h0, show (1 - 0 : Nat) = 1 from rfl, show (G 0).length = (S 1).length from f1, List.take_length]
  · rw [h1, show (1 - 1 : Nat) = 0 from rfl, show (G 1).length = (S 0).length from f0, List.take_length]
end Go.Proofs.Ytoeokdachojhjaa
