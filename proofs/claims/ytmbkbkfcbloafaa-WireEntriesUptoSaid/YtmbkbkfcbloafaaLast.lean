/-
  A region that draws its order and ends with one operation behind all others: the last one is taken out of the region, and stands behind it. So what only the last one writes may be held in all the others.
  No condition: every law states its own.
-/
import Derived.Test.YtmbkbkfcbloafaaLib
import Derived.Deep.RegionHeld3
namespace Go.Proofs.Ytmbkbkfcbloafaa
open Go.RowKit
set_option linter.unusedSectionVars false
set_option linter.unusedSimpArgs false
set_option linter.unusedVariables false

section
variable {P : Program} {md : Region.Mode}

/-- The post while the last operation is still to come. -/
def LastQ (P : Program) (ops : Array Oper) (n : Nat) (Q : Exit → Act → World → Prop) : Exit → Act → World → Prop
  | .normal, a, w => wpOp P ops Q n (fun a w => Q .normal a w) a w
  | e, a, w => Q e a w

theorem LastQ.outs {ops : Array Oper} {n : Nat} {Q : Exit → Act → World → Prop} (h : LetsOut (LastQ P ops n Q)) : LetsOut Q := h

theorem LastQ.oper {ops : Array Oper} {n : Nat} {Q : Exit → Act → World → Prop} {o : Oper} {a : Act} {w : World} {K : Act → World → Prop} (h : o.wp P a w K (LastQ P ops n Q)) : o.wp P a w K Q := by
  unfold Oper.wp at *
  generalize (execOp a.eval o).run P w = r at *
  cases r with
  | ok x w' =>
    cases x <;> simp only [Oper.upon] at h ⊢ <;> first | exact h | exact Calls.mono h (fun e w'' he => by cases e <;> exact he)
  | halt x w' => cases x <;> simp only [Oper.upon] at h ⊢ <;> exact h

/-- Do all edges lead down, and do all guards stand ahead? -/
def edgesDown (md : Region.Mode) (ops : Array Oper) : Bool :=
  (List.range ops.size).all fun i => ((ops[i]?).map fun o => (o.after.all fun e => !Region.binds md e || decide (e.on < i)) && (match o.guard with | none => true | some (j, _) => decide (j < i))).getD true

/-- Those that stand ahead of these. -/
def aheadOf (md : Region.Mode) (ops : Array Oper) (l : List Nat) : List Nat :=
  (List.range ops.size).filter fun k => l.contains k || l.any fun j => ((ops[j]?).map fun o => o.after.any fun e => Region.binds md e && e.on == k).getD false
def aheadAll (md : Region.Mode) (ops : Array Oper) : Nat → List Nat → List Nat
  | 0, l => l
  | m + 1, l => aheadAll md ops m (aheadOf md ops l)

/-- Whatever is listed has its edges listed. -/
def Closed (md : Region.Mode) (ops : Array Oper) (l : Array Bool) : Prop :=
  ∀ j o, ops[j]? = some o → l.getD j false = true → ∀ e ∈ o.after, Region.binds md e = true → l.getD e.on false = true

theorem Closed.ahead {ops : Array Oper} {l : Array Bool} (h : Closed md ops l) {s : List Nat} (hs : ∀ j ∈ s, l.getD j false = true) : ∀ j ∈ aheadOf md ops s, l.getD j false = true := by
  intro j hj
  simp only [aheadOf, List.mem_filter, Bool.or_eq_true, List.contains_eq_mem, decide_eq_true_eq, List.any_eq_true] at hj
  rcases hj.2 with h1 | ⟨k, hk, h1⟩
  · exact hs j h1
  · cases ho : ops[k]? with
    | none => simp [ho] at h1
    | some o =>
      simp only [ho, Option.map_some, Option.getD_some, Array.any_eq_true, Bool.and_eq_true, beq_iff_eq] at h1
      obtain ⟨i, hi, hb, he⟩ := h1
      have := h k o ho (hs k hk) o.after[i] (Array.getElem_mem hi) hb
      rw [he] at this
      exact this
theorem Closed.aheadAll {ops : Array Oper} {l : Array Bool} (h : Closed md ops l) : ∀ (m : Nat) {s : List Nat}, (∀ j ∈ s, l.getD j false = true) → ∀ j ∈ aheadAll md ops m s, l.getD j false = true
  | 0, _, hs => hs
  | m + 1, _, hs => Closed.aheadAll h m (h.ahead hs)

theorem push_getD (l : Array Bool) (k : Nat) : (l.push false).getD k false = l.getD k false := by
  simp only [Array.getD_eq_getD_getElem?, Array.getElem?_push]
  split
  · rename_i h; subst h; simp
  · rfl
theorem push_getD_true {l : Array Bool} {k : Nat} (h : k < l.size) (b : Bool) : (l.push false).getD k b = l.getD k b := by
  simp only [Array.getD_eq_getD_getElem?, Array.getElem?_push]
  rw [if_neg (by omega)]
theorem getD_any {l : Array Bool} {k : Nat} (h : k < l.size) (b c : Bool) : l.getD k b = l.getD k c := by
  simp only [Array.getD_eq_getD_getElem?, Array.getElem?_eq_getElem h, Option.getD_some]

theorem closed_set {ops : Array Oper} {l : Array Bool} (h : Closed md ops l) {i : Nat} (hi : i ∈ Region.ready md ops l) : Closed md ops (l.setIfInBounds i true) := by
  obtain ⟨hun, o, ho, hall⟩ := mem_ready.1 hi
  have mono : ∀ k, l.getD k false = true → (l.setIfInBounds i true).getD k false = true := fun k hk => by
    simp only [Array.getD_eq_getD_getElem?, Array.getElem?_setIfInBounds] at hk ⊢
    split
    · rename_i he; subst he
      split
      · rfl
      · rename_i hn; rw [Array.getElem?_eq_none (by omega)] at hk; simp at hk
    · exact hk
  intro j oj hj hl e he hb
  by_cases hij : i = j
  · subst hij
    rw [ho] at hj; cases hj
    exact mono _ (by simpa using hall e he hb)
  · refine mono _ (h j oj hj ?_ e he hb)
    simp only [Array.getD_eq_getD_getElem?, Array.getElem?_setIfInBounds, if_neg hij] at hl ⊢
    exact hl

variable {ops' : Array Oper} {o : Oper} {Q : Exit → Act → World → Prop}

theorem ready_push {l : Array Bool} (hl : l.size = ops'.size) {i : Nat} (hi : i < ops'.size) : i ∈ Region.ready md (ops'.push o) (l.push false) ↔ i ∈ Region.ready md ops' l := by
  simp only [Region.ready, List.mem_filter, List.mem_range, Array.size_push, Array.getElem?_push, if_neg (show ¬ i = ops'.size by omega), push_getD, push_getD_true (l := l) (k := i) (by omega)]
  constructor
  · rintro ⟨_, h⟩; exact ⟨hi, h⟩
  · rintro ⟨_, h⟩; exact ⟨by omega, h⟩

theorem wpOp_push {i : Nat} (hi : i < ops'.size) (hd : edgesDown md (ops'.push o) = true) {K K' : Act → World → Prop} (hK : ∀ a w, K a w → K' a w) {a : Act} {w : World}
    (h : wpOp P ops' (LastQ P (ops'.push o) ops'.size Q) i K a w) : wpOp P (ops'.push o) Q i K' a w := by
  have hg : (ops'.push o)[i]? = ops'[i]? := by rw [Array.getElem?_push, if_neg (by omega)]
  refine wpOp_mono hK ?_
  unfold wpOp at *
  rw [hg]
  cases ho : ops'[i]? with
  | none => rw [ho] at h; exact h
  | some x =>
    rw [ho] at h
    simp only at h ⊢
    have hw : Region.wanted x (yielded (ops'.push o) a.tmps) = Region.wanted x (yielded ops' a.tmps) := by
      unfold Region.wanted
      cases hgd : x.guard with
      | none => rfl
      | some p =>
        obtain ⟨j, b⟩ := p
        have hji : j < i := by
          have := (List.all_eq_true.1 hd) i (List.mem_range.2 (by rw [Array.size_push]; omega))
          rw [hg, ho] at this
          simp only [Option.map_some, Option.getD_some, Bool.and_eq_true, hgd, decide_eq_true_eq] at this
          exact this.2
        simp only [yielded]
        rw [Array.getElem?_push, if_neg (by omega)]
    rw [hw]
    split
    · rename_i hx; rw [if_pos hx] at h; exact h.imp LastQ.oper (fun h => ⟨h.1, LastQ.outs h.2⟩)
    · rename_i hx; rw [if_neg hx] at h; exact h

/-- All ahead of the last one are listed: none of them is ready. -/
theorem ready_all {ops : Array Oper} {l : Array Bool} (h : ∀ j, j < ops.size → l.getD j false = true) : Region.ready md ops l = [] := by
  refine List.filter_eq_nil_iff.2 fun i hi => ?_
  have hi' := List.mem_range.1 hi
  have h1 := h i hi'
  have h2 : i < l.size := by
    rcases Nat.lt_or_ge i l.size with h | h
    · exact h
    · simp [Array.getElem?_eq_none h] at h1
  rw [getD_any h2 true false, h1]
  simp

theorem wpAny_push (hd : edgesDown md (ops'.push o) = true) (hc : ((List.range ops'.size).all fun k => (aheadAll md (ops'.push o) ops'.size (aheadOf md (ops'.push o) [ops'.size])).contains k) = true) :
    ∀ (fuel : Nat) (l : Array Bool) (a : Act) (w : World), l.size = ops'.size → Closed md (ops'.push o) (l.push false) →
      wpAny P md ops' (LastQ P (ops'.push o) ops'.size Q) fuel l a w → wpAny P md (ops'.push o) Q (fuel + 1) (l.push false) a w := by
  have hn : (ops'.push o)[ops'.size]? = some o := by simp
  -- the last one is ready: all others are listed
  have hall : ∀ (l : Array Bool), l.size = ops'.size → Closed md (ops'.push o) (l.push false) → ops'.size ∈ Region.ready md (ops'.push o) (l.push false) → ∀ j, j < ops'.size → l.getD j false = true := by
    intro l hl hcl hr j hj
    obtain ⟨_, x, hx, hal⟩ := mem_ready.1 hr
    rw [hn] at hx; cases hx
    have hs : ∀ j ∈ aheadOf md (ops'.push o) [ops'.size], j ≠ ops'.size → (l.push false).getD j false = true := by
      intro j hj hne
      simp only [aheadOf, List.mem_filter, Bool.or_eq_true, List.contains_eq_mem, decide_eq_true_eq, List.any_eq_true, List.mem_singleton] at hj
      rcases hj.2 with h1 | ⟨k, rfl, h1⟩
      · exact absurd h1 hne
      · simp only [hn, Option.map_some, Option.getD_some, Array.any_eq_true, Bool.and_eq_true, beq_iff_eq] at h1
        obtain ⟨i, hi, hb, he⟩ := h1
        have := hal o.after[i] (Array.getElem_mem hi) hb
        rw [he] at this
        simpa using this
    -- a closed list that has the last one besides
    have hcl2 : Closed md (ops'.push o) (l.push true) := by
      have hset : (l.push false).setIfInBounds ops'.size true = l.push true := by
        refine Array.ext_getElem? fun k => ?_
        simp only [Array.getElem?_setIfInBounds, Array.getElem?_push, Array.size_push]
        by_cases hk : ops'.size = k
        · rw [if_pos hk, if_pos (by omega), if_pos (by omega)]
        · rw [if_neg hk, if_neg (by omega), if_neg (by omega)]
      rw [← hset]
      exact closed_set hcl hr
    have hmem : ∀ j ∈ aheadOf md (ops'.push o) [ops'.size], (l.push true).getD j false = true := by
      intro j hj
      by_cases hne : j = ops'.size
      · subst hne; rw [← hl]; simp
      · have := hs j hj hne
        rw [push_getD] at this
        simp only [Array.getD_eq_getD_getElem?, Array.getElem?_push] at this ⊢
        split
        · rfl
        · exact this
    have hjm : j ∈ aheadAll md (ops'.push o) ops'.size (aheadOf md (ops'.push o) [ops'.size]) := by
      have := (List.all_eq_true.1 hc) j (List.mem_range.2 hj)
      simpa using this
    have := hcl2.aheadAll _ hmem j hjm
    simp only [Array.getD_eq_getD_getElem?, Array.getElem?_push, if_neg (show ¬ j = l.size by omega)] at this ⊢
    exact this
  -- behind the last one nothing is ready
  have hdone : ∀ (l : Array Bool), l.size = ops'.size → (∀ j, j < ops'.size → l.getD j false = true) → Region.ready md (ops'.push o) ((l.push false).setIfInBounds ops'.size true) = [] := by
    intro l hl h
    refine ready_all fun j hj => ?_
    rw [Array.size_push] at hj
    simp only [Array.getD_eq_getD_getElem?, Array.getElem?_setIfInBounds, Array.getElem?_push, Array.size_push]
    by_cases hjn : ops'.size = j
    · rw [if_pos hjn, if_pos (by omega)]; rfl
    · rw [if_neg hjn, if_neg (by omega)]
      have := h j (by omega)
      rw [Array.getD_eq_getD_getElem?] at this
      exact this
  -- somebody is ready while the last one is not listed
  have hsome : ∀ (l : Array Bool), l.size = ops'.size → Region.ready md (ops'.push o) (l.push false) ≠ [] := by
    intro l hl h0
    have hlist : ∀ i, i < ops'.size + 1 → (l.push false).getD i false = true := by
      intro i
      induction i using Nat.strongRecOn with
      | _ i ih =>
        intro hi
        cases hb : (l.push false).getD i false with
        | true => rfl
        | false =>
          exfalso
          have hxi : ∃ x, (ops'.push o)[i]? = some x := ⟨_, Array.getElem?_eq_getElem (by rw [Array.size_push]; exact hi)⟩
          obtain ⟨x, hx⟩ := hxi
          have hdn := (List.all_eq_true.1 hd) i (List.mem_range.2 (by rw [Array.size_push]; exact hi))
          rw [hx] at hdn
          simp only [Option.map_some, Option.getD_some, Bool.and_eq_true, Array.all_eq_true, Bool.or_eq_true, Bool.not_eq_true', decide_eq_true_eq] at hdn
          have : i ∈ Region.ready md (ops'.push o) (l.push false) := by
            refine mem_ready.2 ⟨by rw [getD_any (by rw [Array.size_push]; omega) true false]; exact hb, x, hx, fun e he hbe => ?_⟩
            obtain ⟨k, hk, rfl⟩ := Array.mem_iff_getElem.1 he
            rcases hdn.1 k hk with h1 | h1
            · rw [h1] at hbe; cases hbe
            · have := ih _ h1 (by omega)
              simpa using this
          rw [h0] at this
          cases this
    have := hlist ops'.size (by omega)
    rw [push_getD, Array.getD_eq_getD_getElem?, Array.getElem?_eq_none (by omega)] at this
    cases this
  intro fuel
  induction fuel with
  | zero =>
    intro l a w hl hcl h
    refine ⟨fun h0 => absurd h0 (hsome l hl), fun i hi => ?_⟩
    have hin : i = ops'.size := by
      have h1 : i < ops'.size + 1 := by
        have := (List.mem_filter.1 hi).1
        rw [List.mem_range, Array.size_push] at this; exact this
      rcases Nat.lt_or_ge i ops'.size with h2 | h2
      · have := (ready_push hl h2).1 hi
        rw [h.1] at this; cases this
      · omega
    subst hin
    have hal := hall l hl hcl hi
    exact wpOp_mono (fun a' w' hq => ⟨hdone l hl hal, hq⟩) h.2
  | succ fuel ih =>
    intro l a w hl hcl h
    refine ⟨fun h0 => absurd h0 (hsome l hl), fun i hi => ?_⟩
    have h1 : i < ops'.size + 1 := by
      have := (List.mem_filter.1 hi).1
      rw [List.mem_range, Array.size_push] at this; exact this
    rcases Nat.lt_or_ge i ops'.size with h2 | h2
    · have hr := (ready_push hl h2).1 hi
      have hset : (l.push false).setIfInBounds i true = (l.setIfInBounds i true).push false := by
        refine Array.ext_getElem? fun k => ?_
        simp only [Array.getElem?_setIfInBounds, Array.getElem?_push, Array.size_push, Array.size_setIfInBounds]
        by_cases hik : i = k
        · rw [if_pos hik, if_pos (by omega), if_neg (by omega), if_pos hik, if_pos (by omega)]
        · rw [if_neg hik, if_neg hik]
      rw [hset]
      exact wpOp_push h2 hd (fun a' w' h3 => ih (l.setIfInBounds i true) a' w' (by rw [Array.size_setIfInBounds]; exact hl) (by rw [← hset]; exact closed_set hcl hi) h3) (h.2 i hr)
    · have hin : i = ops'.size := by omega
      subst hin
      have hal := hall l hl hcl hi
      have hq := h.1 (ready_all hal)
      refine wpOp_mono (fun a' w' hq => ⟨fun _ => hq, ?_⟩) hq
      rw [hdone l hl hal]
      intro i hi; cases hi

/-- **The last operation of a region that draws its order is taken out**, if all others stand ahead of it: the others are a region by themselves, and the last one stands behind. -/
theorem wp_region_last {id : Nat} {ops : Array Oper} {a : Act} {w : World} (hm : P.follows .mixedOrders = true) (ops' : Array Oper) (o : Oper) (ho : ops = ops'.push o) (hd : edgesDown .any (ops'.push o) = true)
    (hc : ((List.range ops'.size).all fun k => (aheadAll .any (ops'.push o) ops'.size (aheadOf .any (ops'.push o) [ops'.size])).contains k) = true)
    (h : wpAny P .any ops' (LastQ P (ops'.push o) ops'.size Q) ops'.size (Array.replicate ops'.size false) a w.drew) : (Code.region id ops true).wp P Q a w := by
  subst ho
  refine wp_region_any hm ?_
  have e : Array.replicate (ops'.push o).size false = (Array.replicate ops'.size false).push false := by
    rw [Array.size_push, ← Array.replicate_succ]
  rw [e, Array.size_push]
  refine wpAny_push hd hc ops'.size _ a _ (by simp) ?_ h
  intro j oj hj hl
  exfalso
  rw [push_getD, Array.getD_eq_getD_getElem?, Array.getElem?_replicate] at hl
  split at hl <;> cases hl

/-- The same, held by S: the walk goes on at 'wpAnyH' over the region without its last operation. -/
theorem wp_region_last_held {id n : Nat} {ops ops' : Array Oper} {S : World → Prop} {a : Act} {w : World} {Q : Exit → Act → World → Prop} (hm : P.follows .mixedOrders = true) (hn : ops.size = n + 1) (hp : ops.pop = ops') (hd : edgesDown .any ops = true)
    (hc : ((List.range n).all fun k => (aheadAll .any ops n (aheadOf .any ops [n])).contains k) = true) (hS : S w.drew)
    (h : S w.drew → wpAnyH P .any ops' (LastQ P ops n Q) S n (Array.replicate n false) a w.drew) : (Code.region id ops true).wp P Q a w := by
  have hne : 0 < ops.size := by omega
  have hs : ops'.size = n := by rw [← hp, Array.size_pop]; omega
  obtain ⟨o, ho⟩ : ∃ o, ops = ops'.push o := by
    subst hp
    refine ⟨ops[ops.size - 1], Array.ext_getElem? fun k => ?_⟩
    rw [Array.getElem?_push, Array.getElem?_pop, Array.size_pop]
    split
    · rename_i h; rw [h, Array.getElem?_eq_getElem (by omega)]
    · rename_i h
      split
      · rfl
      · rw [Array.getElem?_eq_none (by omega)]
  have h' := wpAny_of_held _ _ _ _ (h hS)
  rw [← hs] at h' hc
  exact wp_region_last hm ops' _ ho (by rw [← ho]; exact hd) (by rw [← ho]; exact hc) (by rw [← ho]; exact h')

/-- The last operation itself. -/
theorem LastQ.step {ops : Array Oper} {n : Nat} {Q : Exit → Act → World → Prop} {o : Oper} {a : Act} {w : World} (hi : ops[n]? = some o) (hg : o.guard = none) (h : o.wp P a w (fun a w => Q .normal a w) Q) : LastQ P ops n Q .normal a w := by
  show wpOp P ops Q n _ a w
  unfold wpOp
  rw [hi]
  simp only [Region.wanted, hg, if_true]
  exact .inl h

/-- A slice cut at its end (of what it may hold). -/
theorem run_upto (w : World) {t : TypeId} (E k : Nat) (ht : P.underlying t = some (.slice E)) (hk : P.cellsOf E = k) (hinf : (P.info? E).isSome = true) (p : Option Addr) (n cap h : Nat) (hp : p = none ∨ ∃ b off, p = some ⟨b, off, none⟩) (hh : h ≤ cap) (hm : cap ≤ maxLen) :
    (Instr.sliceAt t (.slice p n cap) none (some (.int .i64 h)) none).run P w = .ok (.slice p h cap) w := by
  have hb : (Instr.sliceBounds true n cap none (some (.int .i64 h)) none).run P w = .ok (0, h, cap) w := bounds_h _ _ _ _ (by omega) (by unfold maxLen at hm; omega)
  rw [run_cut (P := P) w t E k ht hk hinf p n cap none (some (.int .i64 h)) none 0 h cap hb]
  have e : (if cap = 0 then p else p.map (·.add (0 * k))) = p := by
    split
    · rfl
    · rcases hp with rfl | ⟨b, off, rfl⟩
      · rfl
      · simp [add_none]
  rw [e, Nat.sub_zero, Nat.sub_zero]

theorem step_upto {ops : Array Oper} {o : Oper} {a : Act} {w : World} {K : Act → World → Prop} {Q : Exit → Act → World → Prop} {G : Prop} (hgd : o.guard = none) {x y : Operand} {t : TypeId} (ho : o.op = .slice t x none (some y) none)
    (E k : Nat) (ht : P.underlying t = some (.slice E)) (hk : P.cellsOf E = k) (hinf : (P.info? E).isSome = true) (p : Option Addr) (n cap h : Nat) (hx : a.eval x = .slice p n cap) (hy : a.eval y = .int .i64 h) (hp : p = none ∨ ∃ b off, p = some ⟨b, off, none⟩) (hh : h ≤ cap) (hm : cap ≤ maxLen)
    (hK : K (a.put o.dst (.slice p h cap)) w) : if Region.wanted o (yielded ops a.tmps) = true then Oper.wp P o a w K Q else G := by
  have hw : Region.wanted o (yielded ops a.tmps) = true := by simp [Region.wanted, hgd]
  rw [if_pos hw]
  unfold Oper.wp execOp
  simp only [ho, Option.map_none, Option.map_some, hx, hy, Sem.run_bind, Sem.run_pure, run_upto w E k ht hk hinf p n cap h hp hh hm, Result.andThen_ok]
  exact hK

theorem wpList_upto {ops : Array Oper} {rest : List Oper} {dst : Option Tmp} {ty0 : TypeId} {pos : String} {after : Array Edge} {a : Act} {w : World} {Q : Exit → Act → World → Prop} {t : TypeId} {x y : Operand} (E k : Nat) (ht : P.underlying t = some (.slice E)) (hk : P.cellsOf E = k) (hinf : (P.info? E).isSome = true)
    (p : Option Addr) (n cap h : Nat) (hx : a.eval x = .slice p n cap) (hy : a.eval y = .int .i64 h) (hp : p = none ∨ ∃ b off, p = some ⟨b, off, none⟩) (hh : h ≤ cap) (hm : cap ≤ maxLen)
    (hn : wpList P ops Q rest (a.put dst (.slice p h cap)) w) : wpList P ops Q (⟨dst, .slice t x none (some y) none, ty0, pos, after, none⟩ :: rest) a w :=
  wpList_plain rfl fun K hK => by
    unfold Oper.wp execOp
    simp only [Option.map_none, Option.map_some, hx, hy, Sem.run_bind, Sem.run_pure, run_upto w E k ht hk hinf p n cap h hp hh hm, Result.andThen_ok]
    exact hK _ _ hn

theorem Sl.plain {w : World} {E k : Nat} {p : Option Addr} {n cap : Nat} {cs : List Value} (h : Sl w E k p n cap cs) : p = none ∨ ∃ b off, p = some ⟨b, off, none⟩ := by
  obtain ⟨_, _, _, ⟨rfl, _⟩ | ⟨b, off, _, rfl, _⟩⟩ := h
  · exact .inl rfl
  · exact .inr ⟨b, off, rfl⟩
end
end Go.Proofs.Ytmbkbkfcbloafaa
