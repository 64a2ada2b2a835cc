/-
  What everybody may: the plain law of AclAnyone; slices that grow side by side.
  No condition.
-/
import Derived.Test.YtamacndbkjpkaaaDoorAclRightsC
import Derived.Test.YtamacndbkjpkaaaDoorSt
namespace Go.Proofs.YtamacndbkjpkaaaDoor
open Go.RowKit
set_option linter.unusedSectionVars false
set_option linter.unusedSimpArgs false
set_option linter.unusedVariables false

/-- A slice that has grown, into its own block or into a new one. -/
theorem St.regrow {w0 w w' : World} {l : List Thing} (h : St w0 w l) (i : Nat) {E k n cap n' cap' : Nat} {a a' : Option Addr} {cs cs' : List Value} (hi : l[i]? = some (sl E k a n cap cs)) (hs : Sl w' E k a' n' cap' cs') (hm : Mod (fun x => own a = some x) w w')
    (hF : ∀ b, own a' = some b → own a = some b ∨ (w.heap.size ≤ b ∧ b < w'.heap.size)) : St w0 w' (l.set i (sl E k a' n' cap' cs')) := by
  obtain ⟨F1, ⟨hh, hF1⟩, hz, hk⟩ := h.at i hi
  exact hk w' (sl E k a' n' cap' cs') (fun x => own a' = some x) (hm.mono (fun x _ hx => (hF1 x).2 hx)) ⟨hs, fun _ => Iff.rfl⟩ (fun x hx => (hF x hx).imp (fun h => (hF1 x).2 h) (·.1))
theorem St.newSlice {w0 w w' : World} {l : List Thing} (h : St w0 w l) {E k n cap : Nat} {a : Option Addr} {cs : List Value} (hm : Mod (fun _ => False) w w') (hs : Sl w' E k a n cap cs) (hF : ∀ b, own a = some b → w.heap.size ≤ b) : St w0 w' (sl E k a n cap cs :: l) :=
  h.cons (F := fun x => own a = some x) hm ⟨hs, fun _ => Iff.rfl⟩ hF
theorem St.nilSlice {w0 w : World} {l : List Thing} (h : St w0 w l) (E k : Nat) : St w0 w (sl E k none 0 0 [] :: l) :=
  h.newSlice (Mod.refl _ _) (Sl.nil _ _ _) (fun b hb => by simp [own] at hb)

theorem infoStr : (Tryd.prog.info? 9).map (fun i => (i.zero, i.size, i.bytes)) = some (some (.string .empty), 1, 16) := by kernel_rfl
theorem infoAcl : (Tryd.prog.info? 27).map (fun i => (i.zero, i.size, i.bytes)) = some (some (.agg #[.int .i64 0, .string .empty]), 2, 24) := by kernel_rfl
theorem parts_of {P : Program} {t : TypeId} {z : Value} {k b : Nat} (h : (P.info? t).map (fun i => (i.zero, i.size, i.bytes)) = some (some z, k, b)) : ∃ i : TypeInfo, P.info? t = some i ∧ i.zero = some z ∧ i.size = k ∧ i.bytes = b := by
  obtain ⟨i, hi, he⟩ := Option.map_eq_some_iff.1 h
  simp only [Prod.mk.injEq] at he
  exact ⟨i, hi, he.1, he.2.1, he.2.2⟩
theorem flat_snoc {α : Type} (f : α → List Value) {L : List α} {k : Nat} {t : α} (h : L[k]? = some t) : (L.take (k + 1)).flatMap f = (L.take k).flatMap f ++ f t := by
  obtain ⟨hk, rfl⟩ := List.getElem?_eq_some_iff.1 h
  rw [List.take_succ_eq_append_getElem hk, List.flatMap_append]
  congr 1
  simp
theorem arow_one (l : List ARow) : ∀ u ∈ l.flatMap ARow.cells, u.oneCell' = true := by
  intro u hu
  obtain ⟨x, _, hx⟩ := List.mem_flatMap.1 hu
  simp only [ARow.cells, List.mem_cons, List.not_mem_nil, or_false] at hx
  rcases hx with rfl | rfl <;> rfl
theorem str_one (l : List ByteArray) : ∀ u ∈ l.flatMap strC, u.oneCell' = true := by
  intro u hu
  obtain ⟨x, _, hx⟩ := List.mem_flatMap.1 hu
  simp only [strC, List.mem_singleton] at hx
  subst hx; rfl

/-! ### The plain law -/

def orStep (g : Int) (r : ARow) : Int := bits .or .i64 g r.1
def orAll (l : List ARow) : Int := l.foldl orStep 0
def toAll (r : ARow) : ARow := (r.1, world)

theorem given_hits (ids : List ByteArray) (l : List ARow) (h : ∀ r ∈ l, hits ids r = true) : given ids l = orAll l := by
  have key : ∀ (l : List ARow) (g : Int), (∀ r ∈ l, hits ids r = true) → l.foldl (gives ids) g = l.foldl orStep g := by
    intro l
    induction l with
    | nil => exact fun g _ => rfl
    | cons x l ih =>
      intro g h
      rw [List.foldl_cons, List.foldl_cons, ih _ (fun r hr => h r (List.mem_cons_of_mem _ hr))]
      congr 1
      rw [gives, if_pos (h x List.mem_cons_self)]; rfl
  exact key l 0 h
theorem orAll_map (l : List ARow) : orAll (l.map toAll) = orAll l := by
  rw [orAll, List.foldl_map]; rfl

theorem inside_and {p g : Int} (hp : 0 ≤ p ∧ p ≤ 31) : inside p g ↔ bits .and .i64 p g = p := by
  constructor
  · intro h
    have hw := bits_wf .and p g
    refine V_inj hw.1 hw.2 (by omega) (by omega) ?_
    rw [V_and]
    apply BitVec.eq_of_getLsbD_eq
    intro i hi
    rw [BitVec.getLsbD_and]
    by_cases hpi : (V p).getLsbD i = true
    · simp [hpi, h i hpi]
    · simp only [Bool.not_eq_true] at hpi; simp [hpi]
  · intro h i hi
    have := congrArg (fun z => (V z).getLsbD i) h
    simp only [V_and, BitVec.getLsbD_and, hi, Bool.true_and] at this
    exact this

/-- What everybody, or whoever has all IDs, may. -/
def mayAll (G p : Int) : Bool := decide (0 ≤ p) && decide (p ≤ 31) && decide (bits .and .i64 p G = p)
theorem may_hits (l : List ARow) (p : Int) (ids : List ByteArray) (h : ∀ r ∈ l, hits ids r = true) : may l p ids = mayAll (orAll l) p := by
  rw [Bool.eq_iff_iff, may_iff, mayAll, given_hits ids l h]
  simp only [Bool.and_eq_true, decide_eq_true_eq]
  constructor
  · rintro ⟨h1, h2⟩; exact ⟨h1, (inside_and h1).1 h2⟩
  · rintro ⟨h1, h2⟩; exact ⟨h1, (inside_and h1).2 h2⟩
theorem may_own (l : List ARow) (p : Int) : may l p (l.map (·.2)) = mayAll (orAll l) p :=
  may_hits l p _ fun r hr => (hits_iff _ _).2 (.inr (List.mem_map.2 ⟨r, hr, rfl⟩))
theorem may_everybody (l : List ARow) (p : Int) (ids : List ByteArray) : may (l.map toAll) p ids = mayAll (orAll l) p := by
  rw [may_hits _ p ids ?_, orAll_map]
  intro r hr
  obtain ⟨x, _, rfl⟩ := List.mem_map.1 hr
  exact (hits_iff _ _).2 (.inl rfl)
theorem may_nobody (p : Int) (ids : List ByteArray) : may [] p ids = (p == 0) := by
  rw [Bool.eq_iff_iff, may_iff]
  simp only [beq_iff_eq]
  constructor
  · rintro ⟨h1, h2⟩
    have hw := (inside_and h1).1 h2
    rw [show given ids [] = 0 from rfl] at hw
    have h0 : bits .and .i64 p 0 = 0 := by
      have hw := bits_wf .and p 0
      refine V_inj hw.1 hw.2 (by omega) (by omega) ?_
      rw [V_and, show V 0 = 0#64 from rfl]; simp
    rw [← hw, h0]
  · rintro rfl
    refine ⟨by omega, fun i hi => ?_⟩
    rw [V_zero_bit] at hi; cases hi
end Go.Proofs.YtamacndbkjpkaaaDoor
