/-
  Servers that all look in one round: the net of them, what holds of it, and that it holds on when a note is heard.
  No program in sight.
-/
import Derived.Test.YtmikenagaihoiaaVoteK
namespace Go.Proofs.Ytmikenagaihoiaa
open Go.RowKit
set_option linter.unusedSectionVars false
set_option linter.unusedSimpArgs false
set_option linter.unusedVariables false

/-- A server that looks in round 1, one of N. -/
structure Lo (N : Nat) (i : Int) (V : Vr) : Prop where
  ok : V.ok
  me : V.me = i
  sv : V.servers = N
  does : V.does = 1
  ro : V.round = 1
  wait : V.wait = if V.servers / 2 < (V.tally : Int) then 2 else 0
  mine : V.heard V.me = some V.vote

def In (N : Nat) (i : Int) : Prop := 1 ≤ i ∧ i ≤ (N : Int)

structure Nt (N : Nat) (own : Int → Vt) (V : Int → Vr) (U : List Cs) : Prop where
  lo : ∀ i, In N i → Lo N i (V i)
  from_ : ∀ i, In N i → ∃ j, In N j ∧ (V i).vote = own j
  up : ∀ i, In N i → (own i).le (V i).vote
  note : ∀ c ∈ U, In N c.tox ∧ In N c.n.fr ∧ c.n.fr ≠ c.tox ∧ c.n.st = 0 ∧ c.n.ro = 1 ∧ (∃ j, In N j ∧ c.n.of = own j) ∧ c.n.of.le (V c.n.fr).vote
  past : ∀ i f y, In N i → In N f → i ≠ f → (V i).heard f = some y → y.le (V f).vote ∧ y.le (V i).vote
  sent : ∀ i f, In N i → In N f → i ≠ f → (V i).heard f = some (V f).vote ∨ ∃ c ∈ U, c.tox = i ∧ c.n.fr = f ∧ c.n.of = (V f).vote

def rank (N : Nat) (own : Int → Vt) (x : Vt) : Nat := cnt (fun j => (own j).better x) N
def pot (N : Nat) (own : Int → Vt) (V : Int → Vr) (U : List Cs) : Nat := U.length + (N - 1) * sumI (fun i => rank N own (V i).vote) N

theorem rank_lt {N : Nat} {own : Int → Vt} {x y : Vt} {j : Int} (hj : In N j) (hx : x = own j) (h : x.better y = true) : rank N own x + 1 ≤ rank N own y :=
  cnt_lt (x := j) (fun k hk => by
    rw [Vt.better_iff] at *
    omega) (by show (own j).better x = false; rw [← hx]; exact Vt.better_self x) (by show (own j).better y = true; rw [← hx]; exact h) hj.1 hj.2

theorem counted_wait (V : Vr) (h : V.wait = 0 ∨ V.wait = 2) : V.counted.wait = if V.servers / 2 < (V.tally : Int) then 2 else 0 := by
  unfold Vr.counted
  by_cases h1 : (V.tally : Int) ≤ V.servers / 2
  · rw [if_pos h1, if_neg (show ¬ V.servers / 2 < (V.tally : Int) by omega)]
  · by_cases h2 : V.wait = 0
    · rw [if_neg h1, if_pos h2, if_pos (show V.servers / 2 < (V.tally : Int) by omega)]
    · have h3 : V.wait = 2 := by omega
      rw [if_neg h1, if_neg h2, if_pos (show V.servers / 2 < (V.tally : Int) by omega)]
      exact h3
theorem counted_tally (V : Vr) : V.counted.tally = V.tally := by
  obtain ⟨x, hx⟩ := counted_eq V
  rw [hx]
  rfl

/-- What one hears of a note of its round. -/
theorem hear_note {N : Nat} {i : Int} {X : Vr} (h : Lo N i X) (n : No) (hf : In N n.fr) (hfi : n.fr ≠ i) (hl : In N n.le) (hst : n.st = 0) (hro : n.ro = 1) :
    Lo N i (X.hear n)
    ∧ (X.hear n).vote = (if n.of.better X.vote then n.of else X.vote)
    ∧ X.hearCs n = (if n.of.better X.vote then (X.take n.of).casts else [])
    ∧ (∀ g, g ≠ n.fr → g ≠ i → (X.hear n).heard g = X.heard g)
    ∧ (∃ y, (X.hear n).heard n.fr = some y ∧ n.of.le y ∧ (y = n.of ∨ X.heard n.fr = some y) ∧ ∀ o, X.heard n.fr = some o → o.le y) := by
  have hd : X.drops n = false := by
    unfold Vr.drops Vr.knows
    rw [h.me, h.sv, h.does, hst, hro]
    have := hf.1; have := hf.2; have := hl.1; have := hl.2
    simp
    omega
  have hok := (hear_ok X n h.ok)
  have e1 : X.hear n = ((X.chosen n).hear1 n).counted := by
    rw [Vr.hear, hd, if_neg (by simp), if_neg (by rw [h.does]; simp), if_pos hst, Vr.hears, if_neg (by rw [hro, h.ro]; omega)]
  have e2 : X.hearCs n = (if n.of.better X.vote then (X.chosen n).casts else []) := by
    rw [Vr.hearCs, hd, if_neg (by simp), if_neg (by rw [h.does]; simp), if_pos hst, Vr.hearsCs, if_neg (by rw [hro, h.ro]; omega), Vr.answer, if_neg (by rw [hro, h.ro]; omega)]
  have e3 : X.chosen n = if n.of.better X.vote then X.take n.of else X := by
    rw [Vr.chosen, if_neg (by rw [hro, h.ro]; omega)]
  have hw0 : X.wait = 0 ∨ X.wait = 2 := by rw [h.wait]; split <;> simp
  obtain ⟨Y, hY⟩ : ∃ Y, X.chosen n = Y := ⟨_, rfl⟩
  rw [hY] at e1 e2 e3
  have hYv : Y.vote = if n.of.better X.vote then n.of else X.vote := by rw [e3]; split <;> rfl
  have hYw : Y.wait = 0 ∨ Y.wait = 2 := by
    rw [e3]; split
    · exact .inl rfl
    · exact hw0
  have hYm : Y.me = i := by rw [e3]; split <;> exact h.me
  have hYs : Y.servers = N := by rw [e3]; split <;> exact h.sv
  have hYd : Y.does = 1 := by rw [e3]; split <;> exact h.does
  have hYr : Y.round = 1 := by rw [e3]; split <;> exact h.ro
  have hYh : ∀ g, g ≠ i → Y.heard g = X.heard g := by
    intro g hg
    rw [e3]; split
    · show put1 X.heard X.me n.of g = _
      unfold put1
      rw [if_neg (by rw [h.me]; exact hg)]
    · rfl
  have hYi : Y.heard i = some Y.vote := by
    rw [e3]; split
    · show put1 X.heard X.me n.of i = some n.of
      unfold put1
      rw [if_pos h.me.symm]
    · rw [← h.me]; exact h.mine
  obtain ⟨Z, hZ⟩ : ∃ Z, Y.hear1 n = Z := ⟨_, rfl⟩
  rw [hZ] at e1
  obtain ⟨z1, z2, z3, z4, z5, z6⟩ := hear1_me Y n
  rw [hZ] at z1 z2 z3 z4 z5 z6
  have hZs : Z.servers = N := by
    rw [← hZ]
    rcases hear1_eq Y n with e | e <;> rw [e] <;> exact hYs
  have hZw : Z.wait = 0 ∨ Z.wait = 2 := by
    rw [← hZ]
    rcases hear1_eq Y n with e | e <;> rw [e] <;> exact hYw
  have hZh : ∀ g, g ≠ n.fr → Z.heard g = Y.heard g := by
    intro g hg
    rw [← hZ]
    rcases hear1_eq Y n with e | e <;> rw [e]
    show put1 Y.heard n.fr n.of g = _
    unfold put1
    rw [if_neg hg]
  have hZf : ∃ y, Z.heard n.fr = some y ∧ n.of.le y ∧ (y = n.of ∨ X.heard n.fr = some y) ∧ ∀ o, X.heard n.fr = some o → o.le y := by
    rw [← hZ]
    unfold Vr.hear1
    rw [hYh _ hfi]
    cases ho : X.heard n.fr with
    | none =>
      refine ⟨n.of, ?_, Vt.le_refl _, .inl rfl, fun o h => by cases h⟩
      show (if true = true then { Y with heard := put1 Y.heard n.fr n.of, hn := Y.hn + 1 } else Y).heard n.fr = _
      rw [if_pos rfl]
      show put1 Y.heard n.fr n.of n.fr = _
      unfold put1
      rw [if_pos rfl]
    | some o =>
      by_cases hb : o.better n.of = true
      · refine ⟨o, ?_, Vt.le_of_better hb, .inr rfl, fun o' h => by cases h; exact Vt.le_refl _⟩
        show (if (!o.better n.of) = true then { Y with heard := put1 Y.heard n.fr n.of, hn := Y.hn + 1 } else Y).heard n.fr = _
        rw [hb, if_neg (by simp), hYh _ hfi, ho]
      · have hb : o.better n.of = false := by simpa using hb
        refine ⟨n.of, ?_, Vt.le_refl _, .inl rfl, fun o' h => by cases h; exact hb⟩
        show (if (!o.better n.of) = true then { Y with heard := put1 Y.heard n.fr n.of, hn := Y.hn + 1 } else Y).heard n.fr = _
        rw [hb, if_pos (by simp)]
        show put1 Y.heard n.fr n.of n.fr = _
        unfold put1
        rw [if_pos rfl]
  obtain ⟨x, hx⟩ := counted_eq Z
  have ch : ∀ g, Z.counted.heard g = Z.heard g := fun g => by rw [hx]
  have cv : Z.counted.vote = Z.vote := by rw [hx]
  have cm : Z.counted.me = Z.me := by rw [hx]
  have cs : Z.counted.servers = Z.servers := by rw [hx]
  have cd : Z.counted.does = Z.does := by rw [hx]
  have cr : Z.counted.round = Z.round := by rw [hx]
  rw [e1]
  refine ⟨⟨by rw [← e1]; exact hok.1, ?_, ?_, ?_, ?_, ?_, ?_⟩, ?_, ?_, ?_, ?_⟩
  · rw [cm, z1, hYm]
  · rw [cs, hZs]
  · rw [cd, z4, hYd]
  · rw [cr, z6, hYr]
  · rw [counted_wait Z hZw, cs, counted_tally]
  · rw [ch, cm, cv, z1, z5, hYm, hZh i (fun e => hfi e.symm), hYi]
  · rw [cv, z5, hYv]
  · rw [e2, e3]; split <;> rfl
  · intro g hg hgi
    rw [ch, hZh g hg, hYh g hgi]
  · simp only [ch]
    exact hZf

def put2 (V : Int → Vr) (i : Int) (X : Vr) : Int → Vr := fun j => if j = i then X else V j
theorem put2_same (V : Int → Vr) (i : Int) (X : Vr) : put2 V i X i = X := if_pos rfl
theorem put2_other (V : Int → Vr) {i j : Int} (X : Vr) (h : j ≠ i) : put2 V i X j = V j := if_neg h

theorem Lo.flat {N : Nat} {i : Int} {V : Vr} (h : Lo N i V) : Lo N i V.flat := ⟨Vr.flat_ok h.ok, h.me, h.sv, h.does, h.ro, h.wait, h.mine⟩

theorem split_at {α : Type} (U : List α) (k : Nat) (c : α) (h : U[k]? = some c) : ∀ x ∈ U, x = c ∨ x ∈ U.take k ++ U.drop (k + 1) := by
  intro x hx
  obtain ⟨j, hj, rfl⟩ := List.mem_iff_getElem.1 hx
  have hk : k < U.length := (List.getElem?_eq_some_iff.1 h).1
  by_cases hjk : j = k
  · left
    subst hjk
    rw [List.getElem?_eq_getElem hj] at h
    exact Option.some.inj h
  · right
    rw [List.mem_append]
    by_cases hlt : j < k
    · left
      exact List.mem_iff_getElem.2 ⟨j, by rw [List.length_take]; omega, by rw [List.getElem_take]⟩
    · right
      exact List.mem_iff_getElem.2 ⟨j - (k + 1), by rw [List.length_drop]; omega, by rw [List.getElem_drop]; congr 1; omega⟩

theorem Nt.step {N : Nat} {own : Int → Vt} {V : Int → Vr} {U : List Cs} (h : Nt N own V U) (hl : ∀ j, (own j).l = j) (k : Nat) (c : Cs) (hk : U[k]? = some c) :
    Nt N own (put2 V c.tox ((V c.tox).flat.hear c.n)) ((U.take k ++ U.drop (k + 1)) ++ (V c.tox).flat.hearCs c.n)
    ∧ pot N own (put2 V c.tox ((V c.tox).flat.hear c.n)) ((U.take k ++ U.drop (k + 1)) ++ (V c.tox).flat.hearCs c.n) + 1 ≤ pot N own V U := by
  have hcU : c ∈ U := List.mem_of_getElem? hk
  obtain ⟨n1, n2, n3, n4, n5, ⟨j0, n6, n7⟩, n8⟩ := h.note c hcU
  have hle : In N c.n.le := by
    have : c.n.of.l = (own j0).l := by rw [n7]
    have h2 : c.n.le = j0 := by rw [← hl j0]; exact this
    rw [h2]; exact n6
  have hX := (h.lo _ n1).flat
  obtain ⟨a1, a2, a3, a4, y, a5, a6, a7, a8⟩ := hear_note hX c.n n2 n3 hle n4 n5
  generalize hi : c.tox = i at n1 n3 hX a1 a2 a3 a4 a5 a7 a8 ⊢
  generalize hf : c.n.fr = f at n2 n3 n8 a4 a5 a7 a8
  generalize hY : (V i).flat.hear c.n = Y at a1 a2 a4 a5 ⊢
  have hv0 : (V i).flat.vote = (V i).vote := rfl
  have hh0 : ∀ g, (V i).flat.heard g = (V i).heard g := fun _ => rfl
  rw [hv0] at a2 a3
  simp only [hh0] at a4 a7 a8
  have hup : (V i).vote.le Y.vote := by
    rw [a2]; split
    · exact Vt.le_of_better (by assumption)
    · exact Vt.le_refl _
  have hnY : c.n.of.le Y.vote := by
    rw [a2]; split
    · exact Vt.le_refl _
    · rename_i hb; simpa [Vt.le] using hb
  have hcast : ∀ x ∈ (V i).flat.hearCs c.n, In N x.tox ∧ x.tox ≠ i ∧ x.n.fr = i ∧ x.n.st = 0 ∧ x.n.ro = 1 ∧ x.n.of = Y.vote := by
    intro x hx
    rw [a3] at hx
    split at hx
    · rename_i hb
      rw [Vr.casts, mem_upto] at hx
      obtain ⟨x1, x2, x3, x4⟩ := hx
      have hs : ((V i).flat.take c.n.of).servers = N := hX.sv
      rw [hs] at x2
      have hm : ((V i).flat.take c.n.of).me = i := hX.me
      refine ⟨⟨x1, by omega⟩, by rw [← hm]; exact x3, by rw [x4]; exact hm, ?_, by rw [x4]; exact hX.ro, ?_⟩
      · rw [x4]
        show ((V i).flat.take c.n.of).state = 0
        unfold Vr.state
        rw [if_pos (show ((V i).flat.take c.n.of).does = 1 from hX.does)]
      · rw [x4, a2, if_pos hb]; rfl
    · cases hx
  have hmem : ∀ x ∈ (U.take k ++ U.drop (k + 1)), x ∈ U := by
    intro x hx
    rcases List.mem_append.1 hx with hx | hx
    · exact List.mem_of_mem_take hx
    · exact List.mem_of_mem_drop hx
  have hvote : ∀ g, In N g → (V g).vote.le (put2 V i Y g).vote := by
    intro g hg
    by_cases hgi : g = i
    · rw [hgi, put2_same]; exact hup
    · rw [put2_other V Y hgi]; exact Vt.le_refl _
  refine ⟨⟨?_, ?_, ?_, ?_, ?_, ?_⟩, ?_⟩
  · intro g hg
    by_cases hgi : g = i
    · rw [hgi, put2_same]; exact a1
    · rw [put2_other V Y hgi]; exact h.lo g hg
  · intro g hg
    by_cases hgi : g = i
    · rw [hgi, put2_same, a2]
      split
      · exact ⟨j0, n6, n7⟩
      · exact h.from_ i n1
    · rw [put2_other V Y hgi]; exact h.from_ g hg
  · intro g hg
    exact Vt.le_trans (h.up g hg) (hvote g hg)
  · intro x hx
    rcases List.mem_append.1 hx with hx | hx
    · obtain ⟨m1, m2, m3, m4, m5, m6, m7⟩ := h.note x (hmem x hx)
      exact ⟨m1, m2, m3, m4, m5, m6, Vt.le_trans m7 (hvote _ m2)⟩
    · obtain ⟨m1, m2, m3, m4, m5, m6⟩ := hcast x hx
      refine ⟨m1, by rw [m3]; exact n1, by rw [m3]; exact fun e => m2 e.symm, m4, m5, ?_, ?_⟩
      · rw [m6, a2]
        split
        · exact ⟨j0, n6, n7⟩
        · exact h.from_ i n1
      · rw [m6, m3, put2_same]; exact Vt.le_refl _
  · intro g e z hg he hge hz
    by_cases hgi : g = i
    · subst hgi
      rw [put2_same] at hz ⊢
      have hei : e ≠ g := fun x => hge x.symm
      rw [put2_other V Y hei]
      by_cases hef : e = f
      · subst hef
        rw [a5] at hz
        injection hz with hz
        subst hz
        rcases a7 with a7 | a7
        · rw [a7]; exact ⟨n8, hnY⟩
        · obtain ⟨p1, p2⟩ := h.past g e y hg he hge a7
          exact ⟨p1, Vt.le_trans p2 hup⟩
      · rw [a4 e hef hei] at hz
        obtain ⟨p1, p2⟩ := h.past g e z hg he hge hz
        exact ⟨p1, Vt.le_trans p2 hup⟩
    · rw [put2_other V Y hgi] at hz ⊢
      obtain ⟨p1, p2⟩ := h.past g e z hg he hge hz
      exact ⟨Vt.le_trans p1 (hvote e he), p2⟩
  · intro g e hg he hge
    by_cases hgi : g = i
    · subst hgi
      rw [put2_same]
      have hei : e ≠ g := fun x => hge x.symm
      rw [put2_other V Y hei]
      by_cases hef : e = f
      · subst hef
        have key : (V e).vote.le y → Y.heard e = some (V e).vote := by
          intro hy
          rw [a5]
          congr 1
          refine Vt.le_antisymm ?_ hy
          rcases a7 with a7 | a7
          · rw [a7]; exact n8
          · exact (h.past g e y hg he hge a7).1
        rcases h.sent g e hg he hge with p | ⟨x, hx, x1, x2, x3⟩
        · exact .inl (key (a8 _ p))
        · rcases split_at U k c hk x hx with hxc | hxc
          · subst hxc
            exact .inl (key (by rw [← x3]; exact a6))
          · exact .inr ⟨x, List.mem_append.2 (.inl hxc), x1, x2, x3⟩
      · rw [a4 e hef hei]
        rcases h.sent g e hg he hge with p | ⟨x, hx, x1, x2, x3⟩
        · exact .inl p
        · rcases split_at U k c hk x hx with hxc | hxc
          · subst hxc
            exact absurd (x2.symm.trans hf) hef
          · exact .inr ⟨x, List.mem_append.2 (.inl hxc), x1, x2, x3⟩
    · rw [put2_other V Y hgi]
      by_cases hei : e = i
      · subst hei
        rw [put2_same]
        by_cases hb : c.n.of.better (V e).vote = true
        · right
          have hYv : Y.vote = c.n.of := by rw [a2, if_pos hb]
          refine ⟨⟨g, ((V e).flat.take c.n.of).note⟩, List.mem_append.2 (.inr ?_), rfl, hX.me, ?_⟩
          · rw [a3, if_pos hb, Vr.casts, mem_upto]
            have hs : ((V e).flat.take c.n.of).servers = N := hX.sv
            have hm : ((V e).flat.take c.n.of).me = e := hX.me
            rw [hs, hm]
            exact ⟨hg.1, by have := hg.2; show g ≤ (((N : Int).toNat : Nat) : Int); omega, hge, rfl⟩
          · rw [hYv]; rfl
        · have hYv : Y.vote = (V e).vote := by rw [a2, if_neg hb]
          rw [hYv]
          rcases h.sent g e hg he hge with p | ⟨x, hx, x1, x2, x3⟩
          · exact .inl p
          · rcases split_at U k c hk x hx with hxc | hxc
            · subst hxc
              exact absurd (x1.symm.trans hi) hgi
            · exact .inr ⟨x, List.mem_append.2 (.inl hxc), x1, x2, x3⟩
      · rw [put2_other V Y hei]
        rcases h.sent g e hg he hge with p | ⟨x, hx, x1, x2, x3⟩
        · exact .inl p
        · rcases split_at U k c hk x hx with hxc | hxc
          · subst hxc
            exact absurd (x1.symm.trans hi) hgi
          · exact .inr ⟨x, List.mem_append.2 (.inl hxc), x1, x2, x3⟩
  · have hkl : k < U.length := (List.getElem?_eq_some_iff.1 hk).1
    have hrest : (U.take k ++ U.drop (k + 1)).length + 1 = U.length := by
      rw [List.length_append, List.length_take, List.length_drop]; omega
    have hsum := sumI_set (f := fun j => rank N own (put2 V i Y j).vote) (g := fun j => rank N own (V j).vote) (x := i) (n := N) (fun j hj => by show rank N own (put2 V i Y j).vote = _; rw [put2_other V Y hj]) n1.1 n1.2
    simp only [put2_same] at hsum
    unfold pot
    rw [List.length_append]
    by_cases hb : c.n.of.better (V i).vote = true
    · have hYv : Y.vote = c.n.of := by rw [a2, if_pos hb]
      have hr := rank_lt n6 n7 hb
      rw [hYv] at hsum
      have hlen : ((V i).flat.hearCs c.n).length + 1 = N := by
        rw [a3, if_pos hb, Vr.casts]
        have hs : ((V i).flat.take c.n.of).servers = N := hX.sv
        have hm : ((V i).flat.take c.n.of).me = i := hX.me
        rw [hs]
        exact upto_len1 _ (by rw [hm]; exact n1.1) N (by rw [hm]; exact n1.2)
      have hS : sumI (fun j => rank N own (put2 V i Y j).vote) N + 1 ≤ sumI (fun j => rank N own (V j).vote) N := by omega
      have := Nat.mul_le_mul_left (N - 1) hS
      rw [Nat.mul_add, Nat.mul_one] at this
      omega
    · have hYv : Y.vote = (V i).vote := by rw [a2, if_neg hb]
      rw [hYv] at hsum
      have hS : sumI (fun j => rank N own (put2 V i Y j).vote) N = sumI (fun j => rank N own (V j).vote) N := by omega
      rw [a3, if_neg hb, hS]
      simp only [List.length_nil]
      omega
end Go.Proofs.Ytmikenagaihoiaa
