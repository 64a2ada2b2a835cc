/-
  Numbers taken up into variables; events, hellos, notes taken up.
  No condition: every law states its own.
-/
import Derived.Test.YtmbkbkfcbloafaaWireD
namespace Go.Proofs.Ytmbkbkfcbloafaa
open Go.RowKit
set_option linter.unusedSectionVars false
set_option linter.unusedSimpArgs false
set_option linter.unusedVariables false
set_option maxRecDepth 100000

/-- The reader after k numbers; the k-th number. -/
def rs (bs : List UInt8) (s : RS) : Nat → RS
  | 0 => s
  | k + 1 => (rnum bs (rs bs s k)).2
def rv (bs : List UInt8) (s : RS) (k : Nat) : Int := (rnum bs (rs bs s k)).1

/-- Variables that lie in blocks of their own. -/
structure Var where
  pb : Nat
  cells : Array Value
  ty : TypeId
def Var.thing (x : Var) : Thing := bx x.pb x.cells x.ty
def vset (B : List Var) (m o : Nat) (v : Value) : List Var :=
  match B[m]? with
  | some x => B.set m ⟨x.pb, x.cells.setIfInBounds o v, x.ty⟩
  | none => B
def vptr (B : List Var) (p : Nat × Nat) : Value := .pointer (some ⟨(B[p.1]?.map (·.pb)).getD 0, p.2, none⟩)
/-- k of the variables ps have got their values. -/
def vfill (B : List Var) (ps : List (Nat × Nat)) (f : Nat → Value) : Nat → List Var
  | 0 => B
  | k + 1 => vset (vfill B ps f k) (ps.getD k (0, 0)).1 (ps.getD k (0, 0)).2 (f k)

theorem vset_pb (B : List Var) (m o : Nat) (v : Value) (i : Nat) : ((vset B m o v)[i]?.map (·.pb)) = (B[i]?.map (·.pb)) := by
  unfold vset
  split
  · next x hx =>
    rw [List.getElem?_set]
    split
    · next h => subst h; rw [hx]; simp [(List.getElem?_eq_some_iff.1 hx).1]
    · rfl
  · rfl
theorem vset_size (B : List Var) (m o : Nat) (v : Value) (i : Nat) : ((vset B m o v)[i]?.map (·.cells.size)) = (B[i]?.map (·.cells.size)) := by
  unfold vset
  split
  · next x hx =>
    rw [List.getElem?_set]
    split
    · next h => subst h; rw [hx]; simp [(List.getElem?_eq_some_iff.1 hx).1]
    · rfl
  · rfl
theorem vfill_pb (B : List Var) (ps : List (Nat × Nat)) (f : Nat → Value) (i : Nat) : ∀ k, ((vfill B ps f k)[i]?.map (·.pb)) = (B[i]?.map (·.pb))
  | 0 => rfl
  | k + 1 => (vset_pb _ _ _ _ i).trans (vfill_pb B ps f i k)
theorem vfill_size (B : List Var) (ps : List (Nat × Nat)) (f : Nat → Value) (i : Nat) : ∀ k, ((vfill B ps f k)[i]?.map (·.cells.size)) = (B[i]?.map (·.cells.size))
  | 0 => rfl
  | k + 1 => (vset_size _ _ _ _ i).trans (vfill_size B ps f i k)

/-- A place of a variable. -/
def Place (B : List Var) (p : Nat × Nat) : Prop := ∃ x, B[p.1]? = some x ∧ p.2 < x.cells.size

theorem Rd.val {w : World} {a : Option Addr} {n cap : Nat} {vs : List Value} (h : Rd w 1 a n cap vs) {k : Nat} {t : Value} (ht : vs[k]? = some t) :
    ∃ b o, a = some ⟨b, o, none⟩ ∧ b < w.heap.size ∧ w.cell? ⟨b, o + k, none⟩ = some t := by
  have h' : Rd w 1 a n cap (vs.flatMap (fun t => [t])) := by
    have e : vs.flatMap (fun t => [t]) = vs := by simp
    rw [e]; exact h
  obtain ⟨b, o, rfl, hb, hc⟩ := h'.elem (k := 1) (fun t => [t]) (fun _ => rfl) (by omega) ht
  exact ⟨b, o, rfl, hb, by have := hc 0 _ rfl; simpa using this⟩

theorem set_self {α : Type} {l : List α} {i : Nat} {x : α} (h : l[i]? = some x) : l.set i x = l := by
  apply List.ext_getElem?
  intro j
  rw [List.getElem?_set]
  split
  · next hx => subst hx; rw [h]; simp [(List.getElem?_eq_some_iff.1 h).1]
  · rfl

/-- Numbers taken up into variables: the reader, the slice of the pointers, the variables. -/
theorem into_st {w0 w : World} {l : List Thing} {pb : Nat} {bs : List UInt8} {s : RS} {T : TypeId} {a : Option Addr} {n cap : Nat} (B : List Var) (ps : List (Nat × Nat))
    (h : St w0 w (rdt pb bs s :: sl T 1 a n cap (ps.map (vptr B)) :: (B.map Var.thing ++ l))) (hn : ps.length = n) (hp : ∀ p ∈ ps, Place B p) (hl : n ≤ 2 ^ 63 - 1) :
    Calls Try.prog 104 #[.pointer (some ⟨pb, 0, none⟩), .slice a n cap] w
      (StPost (.tuple #[]) w0 (rdt pb bs (rs bs s n) :: sl T 1 a n cap (ps.map (vptr B)) :: ((vfill B ps (fun k => .int .i64 (rv bs s k)) n).map Var.thing ++ l))) := by
  have HS := Lib.hid h
  have HN := Lib.hid hn
  have HP := Lib.hid hp
  clear h hn hp
  go_enter Try.func104, Try.ntmps104
  go_wp2
  go_loopg [5, 8] n (fun g x y wr => ∃ k : Nat, k + g = n ∧ y = .int .i64 k ∧ St w0 wr (rdt pb bs (rs bs s k) :: sl T 1 a n cap (ps.map (vptr B)) :: ((vfill B ps (fun k => .int .i64 (rv bs s k)) k).map Var.thing ++ l)))
  case atStart => exact ⟨0, by omega, rfl, HS.out⟩
  case round =>
    obtain ⟨k, hkg, rfl, hS⟩ := hrel
    by_cases hlt : k < n
    · have hx : ps[k]? = some (ps[k]'(HN.out ▸ hlt)) := List.getElem?_eq_getElem _
      obtain ⟨p, hxx⟩ : ∃ x, ps[k]'(HN.out ▸ hlt) = x := ⟨_, rfl⟩
      rw [hxx] at hx
      obtain ⟨b, o, rfl, hbl, hc⟩ := (hS.slice 1 rfl).rd.val (t := vptr B p) (by rw [List.getElem?_map, hx]; rfl)
      obtain ⟨x, hx1, hx2⟩ := HP.out p (List.mem_of_getElem? hx)
      have e1 : vptr B p = .pointer (some ⟨x.pb, p.2, none⟩) := by unfold vptr; rw [hx1]; rfl
      rw [e1] at hc
      have hq := vfill_pb B ps (fun k => .int .i64 (rv bs s k)) p.1 k
      have hz := vfill_size B ps (fun k => .int .i64 (rv bs s k)) p.1 k
      rw [hx1] at hq hz
      obtain ⟨y, hy⟩ : ∃ y, (vfill B ps (fun k => .int .i64 (rv bs s k)) k)[p.1]? = some y := by
        cases h : (vfill B ps (fun k => .int .i64 (rv bs s k)) k)[p.1]? with
        | none => rw [h] at hq; simp at hq
        | some y => exact ⟨y, rfl⟩
      rw [hy] at hq hz
      simp only [Option.map_some, Option.some.injEq] at hq hz
      have HX := Lib.hid hx
      have HY := Lib.hid hy
      have HQ := Lib.hid hq
      have HZ := Lib.hid hz
      clear hx hxx hx1 e1 hy hq hz
      go_wp2_with fail
      refine (rnum_st hS 0 rfl).mono ?_
      clear hS
      rintro e w1 ⟨rfl, hS⟩
      simp only [List.set_cons_zero] at hS
      have hi : (rdt pb bs (rnum bs (rs bs s k)).2 :: sl T 1 (some ⟨b, o, none⟩) n cap (ps.map (vptr B)) :: ((vfill B ps (fun k => .int .i64 (rv bs s k)) k).map Var.thing ++ l))[p.1 + 2]? = some (bx x.pb y.cells y.ty) := by
        simp only [List.getElem?_cons_succ]
        rw [List.getElem?_append_left (by rw [List.length_map]; exact (List.getElem?_eq_some_iff.1 HY.out).1), List.getElem?_map, HY.out, ← HQ.out]
        rfl
      have hcell := blk_cell (hS.box _ hi) p.2 _ (Array.getElem?_eq_getElem (xs := y.cells) (i := p.2) (by rw [HZ.out]; exact hx2))
      have hlt2 := heap_lt (hS.box _ hi)
      have hfr := blk_free (hS.box _ hi) p.2
      have HI := Lib.hid hi
      clear hi
      go_wp2
      go_roundg (gk - 1)
      case measure => omega
      case rel =>
        refine ⟨k + 1, by omega, by simp, ?_⟩
        have hS2 := hS.set (p.1 + 2) HI.out p.2 (.int .i64 (rv bs s k))
        simp only [List.set_cons_succ] at hS2
        rw [List.set_append_left _ _ (by rw [List.length_map]; exact (List.getElem?_eq_some_iff.1 HY.out).1)] at hS2
        have e : vfill B ps (fun k => .int .i64 (rv bs s k)) (k + 1) = (vfill B ps (fun k => .int .i64 (rv bs s k)) k).set p.1 ⟨x.pb, y.cells.setIfInBounds p.2 (.int .i64 (rv bs s k)), y.ty⟩ := by
          show vset _ _ _ _ = _
          have e2 : ps.getD k (0, 0) = p := by rw [List.getD_eq_getElem?_getD, HX.out]; rfl
          rw [e2, ← HQ.out]
          unfold vset
          rw [HY.out]
        rw [e, List.map_set]
        exact hS2
    · have hk : k = n := by omega
      clear hkg hlt
      rw [hk] at hS
      go_wp2
      go_end0
      exact ⟨rfl, hS⟩

theorem wtxt_st {w0 w : World} {l : List Thing} {pb : Nat} {bs : List UInt8} {s : RS} (h : St w0 w l) (i : Nat) (hi : l[i]? = some (rdt pb bs s)) :
    Calls Try.prog 100 #[.pointer (some ⟨pb, 0, none⟩)] w (StPost (.string ⟨(rtext bs 4096 s).1.toArray⟩) w0 (l.set i (rdt pb bs (rtext bs 4096 s).2))) := by
  go_enter Try.func100, Try.ntmps100
  go_wp2_with fail
  refine (rtext_st h i hi 4096 (by omega)).mono ?_
  rintro e w1 ⟨rfl, hS⟩
  go_wp2
  go_ret
  exact ⟨rfl, hS⟩

theorem results_cell {P : Program} {fn : Func} {p : Tmp} {ty : TypeId} (h : fn.results = #[.cell p ty]) (tmps : Array Value) (w : World) (g : Nat) (T : TypeId) (cs : Array Value) (fr : Nat × Nat) (d : TypeDesc)
    (hp : tmps.getD p undef = .pointer (some ⟨g, 0, none⟩)) (hg : w.heap[g]? = some (.cells cs T fr))
    (hu : P.underlying ty = some d) (hd : (match d with | .struct _ | .array _ _ => true | _ => false) = true) (hi : (P.info? ty).map (·.size) = some cs.size) :
    (results fn tmps).run P w = .ok (.agg cs) w := by
  have hp' : tmps[p]?.getD undef = .pointer (some ⟨g, 0, none⟩) := by simpa using hp
  simp [results, h, hp', asAddr, run_loadVar_row w g T ty cs fr d hg hu hd hi]
end Go.Proofs.Ytmbkbkfcbloafaa
