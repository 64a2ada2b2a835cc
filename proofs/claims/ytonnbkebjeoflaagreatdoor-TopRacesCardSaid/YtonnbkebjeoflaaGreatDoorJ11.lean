/-
  Contracts and plain laws of Last, TreeE, PathQ, PathS.
  Conditions: each law states its own.
-/
import Derived.Deep.RegionHeld3
import Derived.Test.YtonnbkebjeoflaaGreatDoorProg
import Derived.Deep.LoopGhost
import Derived.BigQuiet
import Derived.Test.YtonnbkebjeoflaaGreatDoorJ0
import Derived.Test.YtonnbkebjeoflaaGreatDoorJ2
import Derived.Test.YtonnbkebjeoflaaGreatDoorJ3
import Derived.Test.YtonnbkebjeoflaaGreatDoorJ5
import Derived.Test.YtonnbkebjeoflaaGreatDoorJ9
import Derived.Test.YtonnbkebjeoflaaGreatDoorJ10
set_option linter.unusedSectionVars false
set_option linter.unusedSimpArgs false
set_option linter.unusedVariables false
set_option maxRecDepth 100000
namespace Go.Proofs.YtonnbkebjeoflaaGreatDoor
open Go.RowKit
section
variable {P : Program} {md : Region.Mode}
def LastQ (P : Program) (ops : Array Oper) (n : Nat) (Q : Exit → Act → World → Prop) : Exit → Act → World → Prop
 | .normal, a, w => wpOp P ops Q n (fun a w => Q .normal a w) a w
 | e, a, w => Q e a w
theorem LastQ.outs {ops : Array Oper} {n : Nat} {Q : Exit → Act → World → Prop} (h : LetsOut (LastQ P ops n Q)) : LetsOut Q := h
theorem LastQ.oper {ops : Array Oper} {n : Nat} {Q : Exit → Act → World → Prop} {o : Oper} {a : Act} {w : World} {K : Act → World → Prop} (h : o.wp P a w K (LastQ P ops n Q)) : o.wp P a w K Q := by
 unfold Oper.wp at *
 generalize (execOp a.eval o).run P w = r at *
 cases r with
 | ok x w' =>
   cases x <;> simp only [Oper.upon] at h ⊢ <;> first | exact h | exact Calls.mono h (fun e w'' he => by cases e <;> exact he)
 | halt x w' => cases x <;> simp only [Oper.upon] at h ⊢ <;> exact h
def edgesDown (md : Region.Mode) (ops : Array Oper) : Bool :=
 (List.range ops.size).all fun i => ((ops[i]?).map fun o => (o.after.all fun e => !Region.binds md e || decide (e.on < i)) && (match o.guard with | none => true | some (j, _) => decide (j < i))).getD true
def aheadOf (md : Region.Mode) (ops : Array Oper) (l : List Nat) : List Nat :=
 (List.range ops.size).filter fun k => l.contains k || l.any fun j => ((ops[j]?).map fun o => o.after.any fun e => Region.binds md e && e.on == k).getD false
def aheadAll (md : Region.Mode) (ops : Array Oper) : Nat → List Nat → List Nat
 | 0, l => l
 | m + 1, l => aheadAll md ops m (aheadOf md ops l)
def Closed (md : Region.Mode) (ops : Array Oper) (l : Array Bool) : Prop :=
 ∀ j o, ops[j]? = some o → l.getD j false = true → ∀ e ∈ o.after, Region.binds md e = true → l.getD e.on false = true
theorem Closed.ahead {ops : Array Oper} {l : Array Bool} (h : Closed md ops l) {s : List Nat} (hs : ∀ j ∈ s, l.getD j false = true) : ∀ j ∈ aheadOf md ops s, l.getD j false = true := by
 intro j hj
 simp only [aheadOf, List.mem_filter, Bool.or_eq_true, List.contains_eq_mem, decide_eq_true_eq, List.any_eq_true] at hj
 rcases hj.2 with h1 | ⟨k, hk, h1⟩
 ·exact hs j h1
 ·cases ho : ops[k]? with
  | none => simp [ho] at h1
  | some o =>
    simp only [ho, Option.map_some, Option.getD_some, Array.any_eq_true, Bool.and_eq_true, beq_iff_eq] at h1
    obtain ⟨i, hi, hb, he⟩ := h1
    have := h k o ho (hs k hk) o.after[i] (Array.getElem_mem hi) hb
    rw [he] at this
    exact this
theorem Closed.aheadAll {ops : Array Oper} {l : Array Bool} (h : Closed md ops l) : ∀ (m : Nat) {s : List Nat}, (∀ j ∈ s, l.getD j false = true) → ∀ j ∈ aheadAll md ops m s, l.getD j false = true
 | 0, _, hs => hs
 | m + 1, _, hs => Closed.aheadAll h m (h.ahead hs)
theorem push_getD (l : Array Bool) (k : Nat) : (l.push false).getD k false = l.getD k false := by
 simp only [Array.getD_eq_getD_getElem?, Array.getElem?_push]
 split
 ·rename_i h; subst h; simp
 ·rfl
theorem push_getD_true {l : Array Bool} {k : Nat} (h : k < l.size) (b : Bool) : (l.push false).getD k b = l.getD k b := by
 simp only [Array.getD_eq_getD_getElem?, Array.getElem?_push]
 rw [if_neg (by omega)]
theorem getD_any {l : Array Bool} {k : Nat} (h : k < l.size) (b c : Bool) : l.getD k b = l.getD k c := by
 simp only [Array.getD_eq_getD_getElem?, Array.getElem?_eq_getElem h, Option.getD_some]
theorem closed_set {ops : Array Oper} {l : Array Bool} (h : Closed md ops l) {i : Nat} (hi : i ∈ Region.ready md ops l) : Closed md ops (l.setIfInBounds i true) := by
 obtain ⟨hun, o, ho, hall⟩ := mem_ready.1 hi
 have mono : ∀ k, l.getD k false = true → (l.setIfInBounds i true).getD k false = true := fun k hk => by
  simp only [Array.getD_eq_getD_getElem?, Array.getElem?_setIfInBounds] at hk ⊢
  split
  ·rename_i he; subst he
   split
   ·rfl
   ·rename_i hn; rw [Array.getElem?_eq_none (by omega)] at hk; simp at hk
  ·exact hk
 intro j oj hj hl e he hb
 by_cases hij : i = j
 ·subst hij
  rw [ho] at hj; cases hj
  exact mono _ (by simpa using hall e he hb)
 ·refine mono _ (h j oj hj ?_ e he hb)
  simp only [Array.getD_eq_getD_getElem?, Array.getElem?_setIfInBounds, if_neg hij] at hl ⊢
  exact hl
variable {ops' : Array Oper} {o : Oper} {Q : Exit → Act → World → Prop}
theorem ready_push {l : Array Bool} (hl : l.size = ops'.size) {i : Nat} (hi : i < ops'.size) : i ∈ Region.ready md (ops'.push o) (l.push false) ↔ i ∈ Region.ready md ops' l := by
 simp only [Region.ready, List.mem_filter, List.mem_range, Array.size_push, Array.getElem?_push, if_neg (show ¬ i = ops'.size by omega), push_getD, push_getD_true (l := l) (k := i) (by omega)]
 constructor
 ·rintro ⟨_, h⟩; exact ⟨hi, h⟩
 ·rintro ⟨_, h⟩; exact ⟨by omega, h⟩
theorem wpOp_push {i : Nat} (hi : i < ops'.size) (hd : edgesDown md (ops'.push o) = true) {K K' : Act → World → Prop} (hK : ∀ a w, K a w → K' a w) {a : Act} {w : World}
 (h : wpOp P ops' (LastQ P (ops'.push o) ops'.size Q) i K a w) : wpOp P (ops'.push o) Q i K' a w := by
 have hg : (ops'.push o)[i]? = ops'[i]? := by rw [Array.getElem?_push, if_neg (by omega)]
 refine wpOp_mono hK ?_
 unfold wpOp at *
 rw [hg]
 cases ho : ops'[i]? with
 | none => rw [ho] at h; exact h
 | some x =>
   rw [ho] at h
   simp only at h ⊢
   have hw : Region.wanted x (yielded (ops'.push o) a.tmps) = Region.wanted x (yielded ops' a.tmps) := by
    unfold Region.wanted
    cases hgd : x.guard with
    | none => rfl
    | some p =>
      obtain ⟨j, b⟩ := p
      have hji : j < i := by
       have := (List.all_eq_true.1 hd) i (List.mem_range.2 (by rw [Array.size_push]; omega))
       rw [hg, ho] at this
       simp only [Option.map_some, Option.getD_some, Bool.and_eq_true, hgd, decide_eq_true_eq] at this
       exact this.2
      simp only [yielded]
      rw [Array.getElem?_push, if_neg (by omega)]
   rw [hw]
   split
   ·rename_i hx; rw [if_pos hx] at h; exact h.imp LastQ.oper (fun h => ⟨h.1, LastQ.outs h.2⟩)
   ·rename_i hx; rw [if_neg hx] at h; exact h
theorem ready_all {ops : Array Oper} {l : Array Bool} (h : ∀ j, j < ops.size → l.getD j false = true) : Region.ready md ops l = [] := by
 refine List.filter_eq_nil_iff.2 fun i hi => ?_
 have hi' := List.mem_range.1 hi
 have h1 := h i hi'
 have h2 : i < l.size := by
  rcases Nat.lt_or_ge i l.size with h | h
  ·exact h
  ·simp [Array.getElem?_eq_none h] at h1
 rw [getD_any h2 true false, h1]
 simp
theorem wpAny_push (hd : edgesDown md (ops'.push o) = true) (hc : ((List.range ops'.size).all fun k => (aheadAll md (ops'.push o) ops'.size (aheadOf md (ops'.push o) [ops'.size])).contains k) = true) :
 ∀ (fuel : Nat) (l : Array Bool) (a : Act) (w : World), l.size = ops'.size → Closed md (ops'.push o) (l.push false) →
   wpAny P md ops' (LastQ P (ops'.push o) ops'.size Q) fuel l a w → wpAny P md (ops'.push o) Q (fuel + 1) (l.push false) a w := by
 have hn : (ops'.push o)[ops'.size]? = some o := by simp
 have hall : ∀ (l : Array Bool), l.size = ops'.size → Closed md (ops'.push o) (l.push false) → ops'.size ∈ Region.ready md (ops'.push o) (l.push false) → ∀ j, j < ops'.size → l.getD j false = true := by
  intro l hl hcl hr j hj
  obtain ⟨_, x, hx, hal⟩ := mem_ready.1 hr
  rw [hn] at hx; cases hx
  have hs : ∀ j ∈ aheadOf md (ops'.push o) [ops'.size], j ≠ ops'.size → (l.push false).getD j false = true := by
   intro j hj hne
   simp only [aheadOf, List.mem_filter, Bool.or_eq_true, List.contains_eq_mem, decide_eq_true_eq, List.any_eq_true, List.mem_singleton] at hj
   rcases hj.2 with h1 | ⟨k, rfl, h1⟩
   ·exact absurd h1 hne
   ·simp only [hn, Option.map_some, Option.getD_some, Array.any_eq_true, Bool.and_eq_true, beq_iff_eq] at h1
    obtain ⟨i, hi, hb, he⟩ := h1
    have := hal o.after[i] (Array.getElem_mem hi) hb
    rw [he] at this
    simpa using this
  have hcl2 : Closed md (ops'.push o) (l.push true) := by
   have hset : (l.push false).setIfInBounds ops'.size true = l.push true := by
    refine Array.ext_getElem? fun k => ?_
    simp only [Array.getElem?_setIfInBounds, Array.getElem?_push, Array.size_push]
    by_cases hk : ops'.size = k
    ·rw [if_pos hk, if_pos (by omega), if_pos (by omega)]
    ·rw [if_neg hk, if_neg (by omega), if_neg (by omega)]
   rw [← hset]
   exact closed_set hcl hr
  have hmem : ∀ j ∈ aheadOf md (ops'.push o) [ops'.size], (l.push true).getD j false = true := by
   intro j hj
   by_cases hne : j = ops'.size
   ·subst hne; rw [← hl]; simp
   ·have := hs j hj hne
    rw [push_getD] at this
    simp only [Array.getD_eq_getD_getElem?, Array.getElem?_push] at this ⊢
    split
    ·rfl
    ·exact this
  have hjm : j ∈ aheadAll md (ops'.push o) ops'.size (aheadOf md (ops'.push o) [ops'.size]) := by
   have := (List.all_eq_true.1 hc) j (List.mem_range.2 hj)
   simpa using this
  have := hcl2.aheadAll _ hmem j hjm
  simp only [Array.getD_eq_getD_getElem?, Array.getElem?_push, if_neg (show ¬ j = l.size by omega)] at this ⊢
  exact this
 have hdone : ∀ (l : Array Bool), l.size = ops'.size → (∀ j, j < ops'.size → l.getD j false = true) → Region.ready md (ops'.push o) ((l.push false).setIfInBounds ops'.size true) = [] := by
  intro l hl h
  refine ready_all fun j hj => ?_
  rw [Array.size_push] at hj
  simp only [Array.getD_eq_getD_getElem?, Array.getElem?_setIfInBounds, Array.getElem?_push, Array.size_push]
  by_cases hjn : ops'.size = j
  ·rw [if_pos hjn, if_pos (by omega)]; rfl
  ·rw [if_neg hjn, if_neg (by omega)]
   have := h j (by omega)
   rw [Array.getD_eq_getD_getElem?] at this
   exact this
 have hsome : ∀ (l : Array Bool), l.size = ops'.size → Region.ready md (ops'.push o) (l.push false) ≠ [] := by
  intro l hl h0
  have hlist : ∀ i, i < ops'.size + 1 → (l.push false).getD i false = true := by
   intro i
   induction i using Nat.strongRecOn with
   | _ i ih =>
     intro hi
     cases hb : (l.push false).getD i false with
     | true => rfl
     | false =>
       exfalso
       have hxi : ∃ x, (ops'.push o)[i]? = some x := ⟨_, Array.getElem?_eq_getElem (by rw [Array.size_push]; exact hi)⟩
       obtain ⟨x, hx⟩ := hxi
       have hdn := (List.all_eq_true.1 hd) i (List.mem_range.2 (by rw [Array.size_push]; exact hi))
       rw [hx] at hdn
       simp only [Option.map_some, Option.getD_some, Bool.and_eq_true, Array.all_eq_true, Bool.or_eq_true, Bool.not_eq_true', decide_eq_true_eq] at hdn
       have : i ∈ Region.ready md (ops'.push o) (l.push false) := by
        refine mem_ready.2 ⟨by rw [getD_any (by rw [Array.size_push]; omega) true false]; exact hb, x, hx, fun e he hbe => ?_⟩
        obtain ⟨k, hk, rfl⟩ := Array.mem_iff_getElem.1 he
        rcases hdn.1 k hk with h1 | h1
        ·rw [h1] at hbe; cases hbe
        ·have := ih _ h1 (by omega)
         simpa using this
       rw [h0] at this
       cases this
  have := hlist ops'.size (by omega)
  rw [push_getD, Array.getD_eq_getD_getElem?, Array.getElem?_eq_none (by omega)] at this
  cases this
 intro fuel
 induction fuel with
 | zero =>
   intro l a w hl hcl h
   refine ⟨fun h0 => absurd h0 (hsome l hl), fun i hi => ?_⟩
   have hin : i = ops'.size := by
    have h1 : i < ops'.size + 1 := by
     have := (List.mem_filter.1 hi).1
     rw [List.mem_range, Array.size_push] at this; exact this
    rcases Nat.lt_or_ge i ops'.size with h2 | h2
    ·have := (ready_push hl h2).1 hi
     rw [h.1] at this; cases this
    ·omega
   subst hin
   have hal := hall l hl hcl hi
   exact wpOp_mono (fun a' w' hq => ⟨hdone l hl hal, hq⟩) h.2
 | succ fuel ih =>
   intro l a w hl hcl h
   refine ⟨fun h0 => absurd h0 (hsome l hl), fun i hi => ?_⟩
   have h1 : i < ops'.size + 1 := by
    have := (List.mem_filter.1 hi).1
    rw [List.mem_range, Array.size_push] at this; exact this
   rcases Nat.lt_or_ge i ops'.size with h2 | h2
   ·have hr := (ready_push hl h2).1 hi
    have hset : (l.push false).setIfInBounds i true = (l.setIfInBounds i true).push false := by
     refine Array.ext_getElem? fun k => ?_
     simp only [Array.getElem?_setIfInBounds, Array.getElem?_push, Array.size_push, Array.size_setIfInBounds]
     by_cases hik : i = k
     ·rw [if_pos hik, if_pos (by omega), if_neg (by omega), if_pos hik, if_pos (by omega)]
     ·rw [if_neg hik, if_neg hik]
    rw [hset]
    exact wpOp_push h2 hd (fun a' w' h3 => ih (l.setIfInBounds i true) a' w' (by rw [Array.size_setIfInBounds]; exact hl) (by rw [← hset]; exact closed_set hcl hi) h3) (h.2 i hr)
   ·have hin : i = ops'.size := by omega
    subst hin
    have hal := hall l hl hcl hi
    have hq := h.1 (ready_all hal)
    refine wpOp_mono (fun a' w' hq => ⟨fun _ => hq, ?_⟩) hq
    rw [hdone l hl hal]
    intro i hi; cases hi
theorem wp_region_last {id : Nat} {ops : Array Oper} {a : Act} {w : World} (hm : P.follows .mixedOrders = true) (ops' : Array Oper) (o : Oper) (ho : ops = ops'.push o) (hd : edgesDown .any (ops'.push o) = true)
 (hc : ((List.range ops'.size).all fun k => (aheadAll .any (ops'.push o) ops'.size (aheadOf .any (ops'.push o) [ops'.size])).contains k) = true)
 (h : wpAny P .any ops' (LastQ P (ops'.push o) ops'.size Q) ops'.size (Array.replicate ops'.size false) a w.drew) : (Code.region id ops true).wp P Q a w := by
 subst ho
 refine wp_region_any hm ?_
 have e : Array.replicate (ops'.push o).size false = (Array.replicate ops'.size false).push false := by
  rw [Array.size_push, ← Array.replicate_succ]
 rw [e, Array.size_push]
 refine wpAny_push hd hc ops'.size _ a _ (by simp) ?_ h
 intro j oj hj hl
 exfalso
 rw [push_getD, Array.getD_eq_getD_getElem?, Array.getElem?_replicate] at hl
 split at hl <;> cases hl
theorem wp_region_last_held {id n : Nat} {ops ops' : Array Oper} {S : World → Prop} {a : Act} {w : World} {Q : Exit → Act → World → Prop} (hm : P.follows .mixedOrders = true) (hn : ops.size = n + 1) (hp : ops.pop = ops') (hd : edgesDown .any ops = true)
 (hc : ((List.range n).all fun k => (aheadAll .any ops n (aheadOf .any ops [n])).contains k) = true) (hS : S w.drew)
 (h : S w.drew → wpAnyH P .any ops' (LastQ P ops n Q) S n (Array.replicate n false) a w.drew) : (Code.region id ops true).wp P Q a w := by
 have hne : 0 < ops.size := by omega
 have hs : ops'.size = n := by rw [← hp, Array.size_pop]; omega
 obtain ⟨o, ho⟩ : ∃ o, ops = ops'.push o := by
  subst hp
  refine ⟨ops[ops.size - 1], Array.ext_getElem? fun k => ?_⟩
  rw [Array.getElem?_push, Array.getElem?_pop, Array.size_pop]
  split
  ·rename_i h; rw [h, Array.getElem?_eq_getElem (by omega)]
  ·rename_i h
   split
   ·rfl
   ·rw [Array.getElem?_eq_none (by omega)]
 have h' := wpAny_of_held _ _ _ _ (h hS)
 rw [← hs] at h' hc
 exact wp_region_last hm ops' _ ho (by rw [← ho]; exact hd) (by rw [← ho]; exact hc) (by rw [← ho]; exact h')
theorem LastQ.step {ops : Array Oper} {n : Nat} {Q : Exit → Act → World → Prop} {o : Oper} {a : Act} {w : World} (hi : ops[n]? = some o) (hg : o.guard = none) (h : o.wp P a w (fun a w => Q .normal a w) Q) : LastQ P ops n Q .normal a w := by
 show wpOp P ops Q n _ a w
 unfold wpOp
 rw [hi]
 simp only [Region.wanted, hg, if_true]
 exact .inl h
theorem run_upto (w : World) {t : TypeId} (E k : Nat) (ht : P.underlying t = some (.slice E)) (hk : P.cellsOf E = k) (hinf : (P.info? E).isSome = true) (p : Option Addr) (n cap h : Nat) (hp : p = none ∨ ∃ b off, p = some ⟨b, off, none⟩) (hh : h ≤ cap) (hm : cap ≤ maxLen) :
 (Instr.sliceAt t (.slice p n cap) none (some (.int .i64 h)) none).run P w = .ok (.slice p h cap) w := by
 have hb : (Instr.sliceBounds true n cap none (some (.int .i64 h)) none).run P w = .ok (0, h, cap) w := bounds_h _ _ _ _ (by omega) (by unfold maxLen at hm; omega)
 rw [run_cut (P := P) w t E k ht hk hinf p n cap none (some (.int .i64 h)) none 0 h cap hb]
 have e : (if cap = 0 then p else p.map (·.add (0 * k))) = p := by
  split
  ·rfl
  ·rcases hp with rfl | ⟨b, off, rfl⟩
   ·rfl
   ·simp [add_none]
 rw [e, Nat.sub_zero, Nat.sub_zero]
theorem Sl.plain {w : World} {E k : Nat} {p : Option Addr} {n cap : Nat} {cs : List Value} (h : Sl w E k p n cap cs) : p = none ∨ ∃ b off, p = some ⟨b, off, none⟩ := by
 obtain ⟨_, _, _, ⟨rfl, _⟩ | ⟨b, off, _, rfl, _⟩⟩ := h
 ·exact .inl rfl
 ·exact .inr ⟨b, off, rfl⟩
end
theorem tk (i : Nat) (s : Option Nat) (v : Value) {P : Program} {ops : Array Oper} {Q : Exit → Act → World → Prop} {md : Region.Mode} {S : World → Prop} {op : Op} {ty : TypeId} {pos : String} {after : Array Edge} {gd : Option (Nat × Bool)} {fuel : Nat} {listed : Array Bool} {a : Act} {w : World}
 (hi : ops[i]? = some ⟨s, op, ty, pos, after, gd⟩) (hw : Region.wanted ⟨s, op, ty, pos, after, gd⟩ (yielded ops a.tmps) = true) (hS : S w)
 (hy : ∀ w, S w → (execOp a.eval ⟨s, op, ty, pos, after, gd⟩).run P w = .ok (.value v) w)
 (h : wpAnyH P md ops Q S fuel (listed.setIfInBounds i true) (a.put s v) w)
 (hs : Region.noSelect ops = true := by kernel_rfl) (hf : Region.free md ops listed i = true := by kernel_rfl) (hr : (Region.ready md ops listed).contains i = true := by kernel_rfl)
 (hQ : ∀ c a w, Q (.panic c) (a.put s v) w → Q (.panic c) a w := by exact fun _ _ _ h => h) : wpAnyH P md ops Q S (fuel + 1) listed a w :=
 wpAnyH_take hi hs hf hr hQ (Or.inl ⟨hw, hy⟩) hS h
end Go.Proofs.YtonnbkebjeoflaaGreatDoor
namespace Go.Proofs.YtonnbkebjeoflaaGreatDoor
open Go.RowKit Go.Maps
section
variable {P : Program}
theorem run_clip (w : World) {t : TypeId} (E k : Nat) (ht : P.underlying t = some (.slice E)) (hk : P.cellsOf E = k) (hinf : (P.info? E).isSome = true) (p : Option Addr) (n cap : Nat) (hp : p = none ∨ ∃ b off, p = some ⟨b, off, none⟩) (hh : n ≤ cap) (hm : cap ≤ maxLen) :
 (Instr.sliceAt t (.slice p n cap) none (some (.int .i64 n)) (some (.int .i64 n))).run P w = .ok (.slice p n n) w := by
 have hb : (Instr.sliceBounds true n cap none (some (.int .i64 n)) (some (.int .i64 n))).run P w = .ok (0, n, n) w := bounds_hm _ _ _ _ _ (by omega) (by omega) (by omega)
 rw [run_cut (P := P) w t E k ht hk hinf p n cap none (some (.int .i64 n)) (some (.int .i64 n)) 0 n n hb]
 have e : (if n = 0 then p else p.map (·.add (0 * k))) = p := by
  split
  ·rfl
  ·rcases hp with rfl | ⟨b, off, rfl⟩
   ·rfl
   ·simp [add_none]
 rw [e, Nat.sub_zero]
theorem wpList_clip {ops : Array Oper} {rest : List Oper} {dst : Option Tmp} {ty0 : TypeId} {pos : String} {after : Array Edge} {a : Act} {w : World} {Q : Exit → Act → World → Prop} {t : TypeId} {x y z : Operand} (E k : Nat) (ht : P.underlying t = some (.slice E)) (hk : P.cellsOf E = k) (hinf : (P.info? E).isSome = true)
 (p : Option Addr) (n cap : Nat) (hx : a.eval x = .slice p n cap) (hy : a.eval y = .int .i64 n) (hz : a.eval z = .int .i64 n) (hp : p = none ∨ ∃ b off, p = some ⟨b, off, none⟩) (hh : n ≤ cap) (hm : cap ≤ maxLen)
 (hn : wpList P ops Q rest (a.put dst (.slice p n n)) w) : wpList P ops Q (⟨dst, .slice t x none (some y) (some z), ty0, pos, after, none⟩ :: rest) a w :=
 wpList_plain rfl fun K hK => by
  unfold Oper.wp execOp
  simp only [Option.map_none, Option.map_some, hx, hy, hz, Sem.run_bind, Sem.run_pure, run_clip w E k ht hk hinf p n cap hp hh hm, Result.andThen_ok]
  exact hK _ _ hn
end
theorem Sl.clip {w : World} {E k : Nat} {p : Option Addr} {n cap : Nat} {cs : List Value} (h : Sl w E k p n cap cs) : Sl w E k p n n cs := by
 obtain ⟨hl, hn, hm, ⟨rfl, hc⟩ | ⟨b, off, c, rfl, h3, h4, h5⟩⟩ := h
 ·exact ⟨hl, Nat.le_refl _, Nat.le_trans hn hm, .inl ⟨rfl, by omega⟩⟩
 ·have : n * k ≤ cap * k := Nat.mul_le_mul_right _ hn
  exact ⟨hl, Nat.le_refl _, Nat.le_trans hn hm, .inr ⟨b, off, c, rfl, h3, by omega, h5⟩⟩
theorem clipAcl_any (a : Option Addr) (n cap : Nat) (w : World) (hp : a = none ∨ ∃ b off, a = some ⟨b, off, none⟩) (hn : n ≤ cap) (hm : cap ≤ maxLen) :
 Calls Tryz.prog 215 #[.slice a n cap] w (fun e w' => e = .returned (.slice a n n) ∧ w' = w) := by
 have h63 : n ≤ 9223372036854775807 := by unfold maxLen at hm; omega
 have HP := Lib.hid hp
 clear hp
 go_enter Tryz.func215, Tryz.ntmps215
 go_wp2_with ((with_reducible refine at_list ?_); refine wpList_clip 46 2 (by kernel_rfl) (by kernel_rfl) (by kernel_rfl) a n cap rfl rfl rfl HP.out hn hm ?_)
 go_ret
 exact ⟨rfl, rfl⟩
theorem arow_one {l : List ARow} : ∀ u ∈ l.flatMap ARow.cells, u.oneCell' = true := by
 intro u hu
 obtain ⟨x, _, hx⟩ := List.mem_flatMap.1 hu
 simp only [ARow.cells, List.mem_cons, List.not_mem_nil, or_false] at hx
 rcases hx with rfl | rfl <;> rfl
def AclPost (n : Option Nd) (w : World) (e : Ending) (w' : World) : Prop :=
 match n with
 | none => e = .returned (.tuple #[.slice none 0 0, .int .i64 60]) ∧ Mod (fun _ => False) w w'
 | some n => ∃ (a : Option Addr), e = .returned (.tuple #[.slice a n.acl.length n.acl.length, .int .i64 0]) ∧ Sl w' 46 2 a n.acl.length n.acl.length (n.acl.flatMap ARow.cells) ∧ (∀ b, own a = some b → w.heap.size ≤ b) ∧ Mod (fun _ => False) w w'
set_option maxHeartbeats 2000000 in
theorem acl_any (w : World) (tb : Nat) (T : Tree) (h : TreeAt w tb T) (p : ByteArray) (hp : p.size ≤ maxLen) (hl : ∀ n, T.node p = some n → n.acl.length ≤ 100000000) :
 Calls Tryz.prog 139 #[.pointer (some ⟨tb, 0, none⟩), .string p] w (AclPost (T.node p) w) := by
 obtain ⟨d, hd, ht, hm, _, hr⟩ := h.open
 have c0 : w.cell? ⟨tb, 0, none⟩ = some (.map (some d.mb)) := blk_cell ht 0 _ rfl
 have zt := heap_lt ht
 have HM := Lib.hid hm
 have HP := Lib.hid hp
 cases hg : getK d.recs p with
 | none =>
   rw [node_none hd hg]
   have HG := Lib.hid (ptr_none hg)
   clear hd ht hm hr hp hg hl h
   go_enter Tryz.func139, Tryz.ntmps139
   go_wp2_with ((with_reducible refine at_list ?_); refine wpList_lookL (B := kbP) mapNodes d.mb _ HM.out rfl (zeroNp w) p rfl HP.out _ HG.out ?_)
   go_ret2
   exact ⟨rfl, Mod.refl _ _⟩
 | some r =>
   rw [node_some hd hg]
   have hln := hl r.nd (node_some hd hg)
   obtain ⟨hb, hsl⟩ := hr (p, r) (getK_some_mem hg)
   have k1 := blk_cell hb 1 _ rfl
   have zb := heap_lt hb
   have HG := Lib.hid (ptr_some hg)
   have CC := Lib.hid (cloneAcl_any r.aa r.nd.acl.length r.ac (r.nd.acl.flatMap ARow.cells) w hsl.rd arow_one hln)
   clear hd ht hm hr hp hg hl h hb hsl
   go_enter Tryz.func139, Tryz.ntmps139
   go_wp2_with (first
    | ((with_reducible refine at_list ?_); refine wpList_lookL (B := kbP) mapNodes d.mb _ HM.out rfl (zeroNp w) p rfl HP.out _ HG.out ?_)
    | (go_at_call 84; refine CC.out.mono ?_; rintro e w2 ⟨a2, cap2, rfl, hs2, hf2, hM2⟩; have HS2 := Lib.hid (And.intro hs2 (And.intro hf2 hM2)); clear hs2 hf2 hM2)
    | (go_at_call 215; refine (clipAcl_any a2 r.nd.acl.length cap2 w2 HS2.out.1.plain HS2.out.1.2.1 HS2.out.1.2.2.1).mono ?_; rintro e w3 ⟨rfl, rfl⟩))
   go_ret2
   exact ⟨a2, rfl, HS2.out.1.clip, HS2.out.2.1, HS2.out.2.2⟩
end Go.Proofs.YtonnbkebjeoflaaGreatDoor
namespace Go.Proofs.YtonnbkebjeoflaaGreatDoor
open Go.RowKit
def dec (n : Nat) : UInt8 := UInt8.ofNat (48 + n)
def lowT : Nat → Nat → List UInt8
 | _, 0 => []
 | n, j + 1 => lowT (n / 10) j ++ [dec (n % 10)]
theorem lowT_length : ∀ (n j : Nat), (lowT n j).length = j
 | _, 0 => rfl
 | n, j + 1 => by rw [lowT, List.length_append, lowT_length]; rfl
theorem lowT_front : ∀ (n j : Nat), lowT n (j + 1) = dec (n / 10 ^ j % 10) :: lowT n j
 | n, 0 => by simp [lowT]
 | n, j + 1 => by
   rw [lowT, lowT_front (n / 10) j, lowT, Nat.div_div_eq_div_mul, Nat.pow_succ, Nat.mul_comm (10 ^ j) 10]
   rfl
def numL (p : List UInt8) (n : Int) : List UInt8 := p ++ lowT (max n 0).toNat 10
end Go.Proofs.YtonnbkebjeoflaaGreatDoor
namespace Go.Proofs.YtonnbkebjeoflaaGreatDoor
open Go.RowKit
abbrev Old (w w' : World) : Prop := Mod (fun _ => False) w w'
theorem Old.of {w w' : World} (h : Below w.heap.size w w') : Old w w' := ⟨h.os, h.tape, h.output, h.size, fun b hb _ => h.block b hb⟩
theorem Old.join {a b c : World} (h : Old a b) (k : Old b c) : Old a c := h.trans k (fun _ _ h => h) (fun _ _ h => h)
theorem Old.rfl' (w : World) : Old w w := Mod.refl _ w
def CopyPost (v : Value) (w : World) (e : Ending) (w' : World) : Prop := e = .returned v ∧ Old w w'
def bs (l : List UInt8) : ByteArray := ⟨l.toArray⟩
theorem bs_list (l : List UInt8) : (bs l).data.toList = l := by simp [bs]
theorem bs_of {s : ByteArray} {l : List UInt8} (h : s.data.toList = l) : s = bs l := ByteArray.ext (by rw [bs, ← h])
theorem size_list (s : ByteArray) : s.size = s.data.toList.length := by rw [Array.length_toList]; rfl
theorem toList_beq {s : ByteArray} {l : List UInt8} (h : ¬ s.data.toList = l) : (s.toList == l) = false := by
 rw [ByteArray.toList_eq, Bool.eq_false_iff]; simpa using h
theorem toList_beq' {s : ByteArray} {l : List UInt8} (h : s.data.toList = l) : (s.toList == l) = true := by
 rw [ByteArray.toList_eq]; simpa using h
theorem get_bang (s : ByteArray) (j : Nat) (h : j < s.size) : s.data[j]! = s.data.toList[j]'(by rw [Array.length_toList]; exact h) := by
 rw [getElem!_pos s.data j h]; simp
theorem last_cases (s : ByteArray) : (Lib.lastIndexByte s 47 = -1 ∧ lastCut s.data.toList = none) ∨
 ∃ x y, s.data.toList = x ++ 47 :: y ∧ (47 : UInt8) ∉ y ∧ Lib.lastIndexByte s 47 = (x.length : Int) ∧ lastCut s.data.toList = some (x, y) := by
 have key : ∀ j (h : j < s.size), ((s.data[j]!).toNat : Int) = 47 ↔ s.data.toList[j]'(by rw [Array.length_toList]; exact h) = 47 := fun j h => by
  rw [get_bang s j h]
  constructor
  ·intro e; exact UInt8.toNat_inj.1 (by show _ = 47; omega)
  ·intro e; rw [e]; rfl
 have hl : s.data.toList.length = s.size := (size_list s).symm
 rcases Lib.lastIndexByte_spec s 47 with ⟨h1, h2⟩ | ⟨i, hi, h1, h2, h3⟩
 ·refine .inl ⟨h1, lastCut_none.2 fun hm => ?_⟩
  obtain ⟨j, hj, he⟩ := List.mem_iff_getElem.1 hm
  exact h2 j (by omega) ((key j (by omega)).2 he)
 ·have e : s.data.toList = s.data.toList.take i ++ 47 :: s.data.toList.drop (i + 1) := by
   have : s.data.toList[i]'(by omega) = 47 := (key i hi).1 h2
   rw [← this, List.getElem_cons_drop, List.take_append_drop]
  have hn : (47 : UInt8) ∉ s.data.toList.drop (i + 1) := by
   intro hm
   obtain ⟨j, hj, he⟩ := List.mem_iff_getElem.1 hm
   rw [List.length_drop] at hj
   rw [List.getElem_drop] at he
   exact h3 (i + 1 + j) (by omega) (by omega) ((key _ (by omega)).2 he)
  refine .inr ⟨_, _, e, hn, by rw [h1, List.length_take]; omega, ?_⟩
  have := lastCut_mk (s.data.toList.take i) _ hn
  rw [← e] at this
  exact this
theorem Parent_any (s : ByteArray) (hs : s.size < 4611686018427387904) (w : World) : Calls Tryz.prog 115 #[.string s] w (CopyPost (.string (bs (parentL s.data.toList))) w) := by
 have cL := Tryz.strings_LastIndexByte s 47 hs w
 have hs' : s.size ≤ 9223372036854775807 := by omega
 rcases last_cases s with ⟨h1, h2⟩ | ⟨x, y, h0, hy, h1, h2⟩
 ·rw [h1] at cL
  have hv : parentL s.data.toList = [] := by rw [parentL, h2]
  rw [hv]
  go_enter Tryz.func115, Tryz.ntmps115
  go_wp2_with (go_at_call 184; refine cL.mono ?_; rintro e w' ⟨rfl, rfl⟩)
  go_ret
  exact ⟨rfl, Old.rfl' _⟩
 ·rw [h1] at cL
  have hsz : s.size = x.length + 1 + y.length := by rw [size_list, h0]; simp; omega
  by_cases hr : s.data.toList = [47]
  ·have hv : parentL s.data.toList = [] := by rw [parentL, h2]; simp [hr]
   have hq := toList_beq' hr
   rw [hv]
   have z0 : ¬ ((x.length : Nat) : Int) < 0 := by omega
   go_enter Tryz.func115, Tryz.ntmps115
   go_wp2_with (go_at_call 184; refine cL.mono ?_; rintro e w' ⟨rfl, rfl⟩)
   go_ret
   exact ⟨rfl, Old.rfl' _⟩
  ·have hq := toList_beq hr
   obtain ⟨n, hn⟩ : ∃ n, x.length = n := ⟨_, rfl⟩
   rw [hn] at cL hsz
   by_cases hx : x = []
   ·have hv : parentL s.data.toList = [47] := by rw [parentL, h2]; simp [hr, hx]
    have hn0 : n = 0 := by rw [← hn, hx]; rfl
    subst hn0
    rw [hv]
    go_enter Tryz.func115, Tryz.ntmps115
    go_wp2_with (go_at_call 184; refine cL.mono ?_; rintro e w' ⟨rfl, rfl⟩)
    go_ret
    exact ⟨rfl, Old.rfl' _⟩
   ·have hv : parentL s.data.toList = x := by rw [parentL, h2]; simp [hr, hx]
    have hn1 : 1 ≤ n := by rw [← hn]; exact List.length_pos_iff.2 hx
    have zq : ((n : Int) == 0) = false := by simpa using (show ¬ (n : Int) = 0 by omega)
    have hE : s.extract 0 n = bs x := by
     apply bs_of
     rw [Lib.extract_data, h0, ← hn]; simp
    rw [hv]
    clear h0 h1 h2 hx hv
    go_enter Tryz.func115, Tryz.ntmps115
    go_wp2_with (go_at_call 184; refine cL.mono ?_; rintro e w' ⟨rfl, rfl⟩)
    go_ret
    exact ⟨rfl, Old.rfl' _⟩
theorem Base_any (s : ByteArray) (hs : s.size < 4611686018427387904) (w : World) : Calls Tryz.prog 238 #[.string s] w (CopyPost (.string (bs (baseL s.data.toList))) w) := by
 have cL := Tryz.strings_LastIndexByte s 47 hs w
 have hs' : s.size ≤ 9223372036854775807 := by omega
 obtain ⟨n, hn, hns, hE⟩ : ∃ n : Nat, Lib.lastIndexByte s 47 + 1 = (n : Int) ∧ n ≤ s.size ∧ s.extract n s.size = bs (baseL s.data.toList) := by
  rcases last_cases s with ⟨h1, h2⟩ | ⟨x, y, h0, hy, h1, h2⟩
  ·refine ⟨0, by rw [h1]; rfl, Nat.zero_le _, ?_⟩
   rw [baseL, h2]
   apply bs_of
   rw [Lib.extract_data, size_list, List.drop_zero, Nat.sub_zero, List.take_length]
  ·refine ⟨x.length + 1, by rw [h1]; omega, by rw [size_list, h0]; simp, ?_⟩
   rw [baseL, h2]
   apply bs_of
   rw [Lib.extract_data, size_list, h0, ← List.drop_drop, List.drop_left]
   exact List.take_of_length_le (by simp; omega)
 generalize Lib.lastIndexByte s 47 = K at cL hn
 have zK : K = (n : Int) - 1 := by omega
 subst zK
 have zn : (n : Int) - 1 + 1 = (n : Int) := by omega
 have zns : (n : Int) ≤ (s.size : Int) := by omega
 clear hn
 go_enter Tryz.func238, Tryz.ntmps238
 go_wp2_with (go_at_call 184; refine cL.mono ?_; rintro e w' ⟨rfl, rfl⟩)
 all_goals
  go_ret
  exact ⟨by first | rfl | (rw [← hE] <;> rfl), Old.rfl' _⟩
theorem slashOf_any (s : ByteArray) (w : World) : Calls Tryz.prog 267 #[.string s] w (CopyPost (.string (bs (if s.data.toList = [47] then [47] else []))) w) := by
 by_cases hr : s.data.toList = [47]
 ·have hq := toList_beq' hr
  rw [if_pos hr]
  go_enter Tryz.func267, Tryz.ntmps267
  go_wp2
  go_ret
  exact ⟨rfl, Old.rfl' _⟩
 ·have hq := toList_beq hr
  rw [if_neg hr]
  go_enter Tryz.func267, Tryz.ntmps267
  go_wp2
  go_ret
  exact ⟨rfl, Old.rfl' _⟩
theorem trim_slash (l : List UInt8) : Lib.trimSuffix l (if l = [47] then [47] else []) = if l = [47] then [] else l := by
 by_cases h : l = [47]
 ·rw [if_pos h, if_pos h, h]; decide
 ·rw [if_neg h, if_neg h, Lib.trimSuffix]
  split <;> simp
theorem Kid_any (p n : ByteArray) (hp : p.size ≤ 4611686018427387903) (hn : n.size ≤ 4611686018427387902) (w : World) : Calls Tryz.prog 236 #[.string p, .string n] w (CopyPost (.string (bs (kidL p.data.toList n.data.toList))) w) := by
 have cS := slashOf_any p w
 have cT := fun w => Tryz.strings_TrimSuffix p (bs (if p.data.toList = [47] then [47] else [])) w (by omega)
 rw [bs_list, trim_slash] at cT
 obtain ⟨Z, hZ⟩ : ∃ Z, (⟨(if p.data.toList = [47] then [] else p.data.toList).toArray⟩ : ByteArray) = Z := ⟨_, rfl⟩
 have hZs : Z.size ≤ p.size := by
  rw [← hZ]
  show (List.toArray _).size ≤ _
  rw [List.size_toArray]
  split
  ·simp
  ·rw [← size_list]; exact Nat.le_refl _
 have hE : bs (kidL p.data.toList n.data.toList) = Z ++ ⟨#[47]⟩ ++ n := by
  rw [← hZ]
  apply ByteArray.ext
  apply Array.toList_inj.1
  simp [bs, kidL, ByteArray.data_append]
 rw [hZ] at cT
 rw [hE]
 clear hZ hE
 generalize bs (if p.data.toList = [47] then [47] else []) = Y at cS cT
 go_enter Tryz.func236, Tryz.ntmps236
 go_wp2_with (first | (go_at_call 267; refine cS.mono ?_; rintro e w1 ⟨rfl, hO⟩; clear cS) | (go_at_call 266; refine (cT _).mono ?_; rintro e w2 ⟨rfl, rfl⟩))
 go_ret
 exact ⟨rfl, hO⟩
theorem Under_any (p q : ByteArray) (hp : p.size ≤ 4611686018427387903) (hq : q.size ≤ 4611686018427387903) (w : World) : Calls Tryz.prog 162 #[.string p, .string q] w (CopyPost (.bool (underL p.data.toList q.data.toList)) w) := by
 have cK := Kid_any q ByteArray.empty hq (by simp) w
 have cH := fun w => Tryz.strings_HasPrefix p (bs (kidL q.data.toList [])) w
 rw [bs_list] at cH
 rw [show (ByteArray.empty.data.toList : List UInt8) = [] from rfl] at cK
 have hv : underL p.data.toList q.data.toList = (Lib.hasPrefix p.data.toList (kidL q.data.toList []) && (p.toList != (bs (kidL q.data.toList [])).toList)) := by
  rw [underL, Lib.hasPrefix, ByteArray.toList_eq, ByteArray.toList_eq, bs_list]
  congr 1
  by_cases h : p.data.toList = kidL q.data.toList [] <;> simp [h]
 rw [hv]
 clear hv
 generalize bs (kidL q.data.toList []) = Y at cK cH ⊢
 generalize Lib.hasPrefix p.data.toList (kidL q.data.toList []) = b at cH ⊢
 cases b
 all_goals
  go_enter Tryz.func162, Tryz.ntmps162
  go_wp2_with (first | (go_at_call 236; refine cK.mono ?_; rintro e w1 ⟨rfl, hO⟩; clear cK) | (go_at_call 73; refine (cH _).mono ?_; rintro e w2 ⟨rfl, rfl⟩))
  go_ret
  exact ⟨by first | rfl | simp, hO⟩
end Go.Proofs.YtonnbkebjeoflaaGreatDoor
