/-
  The document's take: so many numbers.
  No condition: every law states its own.
-/
import Derived.Test.YtmbkbkfcbloafaaWireF
import Derived.Deep.OwnRows
namespace Go.Proofs.Ytmbkbkfcbloafaa
open Go.RowKit
set_option linter.unusedSectionVars false
set_option linter.unusedSimpArgs false
set_option linter.unusedVariables false
set_option maxRecDepth 100000

theorem infoInt : (Try.prog.info? 3).map (fun i => (i.zero, i.size, i.bytes)) = some (some (.int .i64 0), 1, 8) := by kernel_rfl

def numsR (bs : List UInt8) (s : RS) (n : Nat) : List Int := (List.range n).map (rv bs s)
/-- The row while it is filled: k of n. -/
def tk (bs : List UInt8) (s : RS) (n k : Nat) : Array Value := ((List.range n).map fun i => Value.int .i64 (if i < k then rv bs s i else 0)).toArray
theorem tk_size (bs : List UInt8) (s : RS) (n k : Nat) : (tk bs s n k).size = n := by simp [tk]
theorem tk_get (bs : List UInt8) (s : RS) (n k i : Nat) (h : i < n) : (tk bs s n k)[i]? = some (.int .i64 (if i < k then rv bs s i else 0)) := by
  simp [tk, h]
theorem tk_set (bs : List UInt8) (s : RS) (n k : Nat) : (tk bs s n k).setIfInBounds k (.int .i64 (rv bs s k)) = tk bs s n (k + 1) := by
  apply Array.ext_getElem?
  intro i
  rw [Array.getElem?_setIfInBounds]
  by_cases hi : i < n
  · rw [tk_get bs s n (k + 1) i hi, tk_get bs s n k i hi, tk_size]
    by_cases h : k = i
    · subst h; rw [if_pos rfl, if_pos hi, if_pos (Nat.lt_succ_self k)]
    · rw [if_neg h]
      by_cases h2 : i < k
      · rw [if_pos h2, if_pos (by omega)]
      · rw [if_neg h2, if_neg (by omega)]
  · have e : ∀ k, (tk bs s n k)[i]? = none := fun k => Array.getElem?_eq_none (by rw [tk_size]; omega)
    rw [e, e, tk_size]
    by_cases h : k = i
    · subst h; rw [if_pos rfl, if_neg hi]
    · rw [if_neg h]
theorem tk_zero (bs : List UInt8) (s : RS) (n : Nat) : madeCells #[.int .i64 0] n = tk bs s n 0 := by
  apply Array.ext_getElem?
  intro i
  by_cases hi : i < n
  · rw [tk_get bs s n 0 i hi]
    simp [madeCells, hi, Nat.mod_one]
  · rw [Array.getElem?_eq_none (by rw [size_madeCells]; omega), Array.getElem?_eq_none (by rw [tk_size]; omega)]
theorem tk_full (bs : List UInt8) (s : RS) (n : Nat) : (tk bs s n n).toList = ic (numsR bs s n) := by
  unfold tk ic numsR
  rw [List.map_map]
  simp only [List.map_inj_left]
  intro i hi
  rw [if_pos (List.mem_range.1 hi)]
  rfl

/-- A box of single cells is a slice. -/
theorem St.asSlice {w0 w : World} {l : List Thing} (h : St w0 w l) (i : Nat) {pb : Nat} {c : Array Value} {T : TypeId} (hi : l[i]? = some (bx pb c T)) (n k : Nat) (hn : c.size = n * k) (hm : n ≤ maxLen) :
    St w0 w (l.set i (sl T k (some ⟨pb, 0, none⟩) n n c.toList)) := by
  obtain ⟨F1, ⟨hh, hF⟩, hz, hk⟩ := h.at i hi
  refine hk w _ F1 (Mod.refl _ _) ⟨Sl.new hh hn hm, fun x => ?_⟩ (fun x hx => .inl hx)
  rw [hF]
  simp only [own, Option.map_some, Option.some.injEq]
  exact eq_comm

/-- What take answers. -/
def Took (w0 : World) (bs : List UInt8) (s : RS) (n : Nat) (l : List Thing) (e : Ending) (w' : World) : Prop :=
  ∃ sb, e = .returned (.slice (some ⟨sb, 0, none⟩) n n) ∧ St w0 w' (sl 3 1 (some ⟨sb, 0, none⟩) n n (ic (numsR bs s n)) :: l)

theorem rtake_st {w0 w : World} {l : List Thing} {pb : Nat} {B : ByteArray} {s : RS} (h : St w0 w l) (i : Nat) (hi : l[i]? = some (drt pb B s)) (N : Int) (n : Nat) (hN : N = n) (hn : n ≤ 1000000) :
    Calls Try.prog 74 #[.pointer (some ⟨pb, 0, none⟩), .int .i64 N] w (Took w0 B.data.toList s n (l.set i (drt pb B (rs B.data.toList s n)))) := by
  subst hN
  have hil : i < l.length := (List.getElem?_eq_some_iff.1 hi).1
  obtain ⟨inf, hi1, hi2, hi3, hi4⟩ := info_parts infoInt
  have HI := Lib.hid hi
  have HS := Lib.hid h
  have hS := h.box1 (tk B.data.toList s n 0) 3
  rw [← tk_zero B.data.toList s n] at hS
  have HS := Lib.hid hS
  clear h hi hS
  go_enter Try.func74, Try.ntmps74
  go_wp2_with ((at_make; refine wpList_make_row _ rfl _ _ 70 rfl 3 inf (.int .i64 0) Try.underlying70 hi1 hi2 hi3 rfl .i64 .i64 n rfl rfl (by rw [hi4]; omega) (by omega) ?_))
  generalize w.alloc (.cells (madeCells #[.int .i64 0] n) 3) = W at *
  generalize w.heap.size = sb at *
  go_loopg [6] n (fun g y wr => ∃ k : Nat, k + g = n ∧ y = .int .i64 k ∧ St w0 wr (bx sb (tk B.data.toList s n k) 3 :: l.set i (drt pb B (rs B.data.toList s k))))
  case atStart =>
    refine ⟨0, by omega, rfl, ?_⟩
    have e : l.set i (drt pb B (rs B.data.toList s 0)) = l := set_self HI.out
    rw [e, ← tk_zero]; exact HS.out
  case round =>
    obtain ⟨k, hkg, rfl, hS⟩ := hrel
    by_cases hlt : k < n
    · go_wp2_with fail
      refine (dnum_st hS (i + 1) (by rw [List.getElem?_cons_succ, List.getElem?_set_self hil])).mono ?_
      clear hS
      rintro e w1 ⟨rfl, hS⟩
      simp only [List.set_cons_succ, List.set_set] at hS
      have c0 := blk_cell (hS.box 0 rfl) k _ (tk_get B.data.toList s n k k hlt)
      have f0 := blk_free (hS.box 0 rfl) k
      have z0 := heap_lt (hS.box 0 rfl)
      go_wp2
      go_roundg (gk - 1)
      case measure => omega
      case rel =>
        refine ⟨k + 1, by omega, by simp, ?_⟩
        have hS2 := hS.set 0 rfl k (.int .i64 (rv B.data.toList s k))
        simp only [List.set_cons_zero] at hS2
        rw [tk_set] at hS2
        exact hS2
    · have hk : k = n := by omega
      clear hkg hlt
      rw [hk] at hS
      go_wp2
      go_ret
      refine ⟨sb, rfl, ?_⟩
      have hS2 := hS.asSlice 0 rfl n 1 (by rw [tk_size]; omega) (by unfold maxLen; omega)
      simp only [List.set_cons_zero] at hS2
      rw [tk_full] at hS2
      exact hS2
end Go.Proofs.Ytmbkbkfcbloafaa
