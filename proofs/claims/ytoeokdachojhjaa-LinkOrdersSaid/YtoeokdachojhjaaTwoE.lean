/-
  Two ends: anew, at the start.
  No condition.
-/
import Derived.Test.YtoeokdachojhjaaTwoC
import Derived.Deep.RegionLaw
namespace Go.Proofs.Ytoeokdachojhjaa
open Go.RowKit
set_option linter.unusedSectionVars false
set_option linter.unusedSimpArgs false
set_option linter.unusedVariables false

/-- The cells of two, anew at k. -/
def anewc (c : Array Value) (k pb : Nat) : Array Value := (((c.setIfInBounds (2 + k) (.int .i64 1)).setIfInBounds k (.pointer (some ⟨pb, 0, none⟩))).setIfInBounds (4 + k) (.slice none 0 0)).setIfInBounds (6 + k) (.slice none 0 0)

set_option maxRecDepth 100000 in
set_option maxHeartbeats 4000000 in
theorem anew_two {W w : World} {tb : Nat} {c : Array Value} {l : List Thing} (h : St W w (bx tb c 32 :: l)) {k : Nat} (hk : k < 2) (hc9 : c.size = 9) {v0 v4 v6 : Value} (h0 : c[k]? = some v0) (h2 : c[2 + k]? = some (.int .i64 0)) (h4 : c[4 + k]? = some v4) (h6 : c[6 + k]? = some v6) :
    Calls Try.prog 7 #[.pointer (some ⟨tb, 0, none⟩), .int .i64 (k : Int)] w (fun e w' => e = .returned (.tuple #[]) ∧ ∃ pb, St W w' (lk pb (Lk.new ((k : Int) + 1) (2 - (k : Int)) 1) :: bx tb (anewc c k pb) 32 :: l)) := by
  have hb := h.box 0 rfl
  have c2 := blk_cell hb (2 + k) _ h2
  have f2 := blk_free hb (2 + k)
  have htb := heap_lt hb
  have hk0 : (0 : Int) ≤ (k : Int) := by omega
  have hk2 : (k : Int) < 2 := by omega
  have hw1 : IntKind.i64.wrap ((k : Int) + 1) = (k : Int) + 1 := IntWalk.i64_in _ (by omega)
  have hw2 : IntKind.i64.wrap (2 - (k : Int)) = 2 - (k : Int) := IntWalk.i64_in _ (by omega)
  have H1 := Lib.hid ((h.drew).set 0 rfl (2 + k) (.int .i64 1))
  clear h hb
  go_enter Try.func7, Try.ntmps7
  go_upto_region 0 with (fail)
  go_cut [] (fun wx => St W wx (bx tb (c.setIfInBounds (2 + k) (.int .i64 1)) 32 :: l))
  case first =>
    go_region
    all_goals
      (try go_wp2_with fail)
      go_meet
      exact H1.out
  case rest =>
    clear H1 c2 f2 htb
    have e0 : (c.setIfInBounds (2 + k) (.int .i64 1))[k]? = some v0 := by
      rw [Array.getElem?_setIfInBounds_ne (by omega)]; exact h0
    have e2 : (c.setIfInBounds (2 + k) (.int .i64 1))[2 + k]? = some (.int .i64 1) := by
      rw [Array.getElem?_setIfInBounds_self_of_lt (by omega)]
    have hS := hcut
    have hb := hS.box 0 rfl
    have c0 := blk_cell hb k _ e0
    have c2 := blk_cell hb (2 + k) _ e2
    have htb := heap_lt hb
    have HS := Lib.hid hS
    clear hS hb hcut
    go_upto_region 1 with (fail)
    go_cut [] (fun wx => ∃ pb, St W wx (lk pb (Lk.new ((k : Int) + 1) (2 - (k : Int)) 1) :: bx tb ((c.setIfInBounds (2 + k) (.int .i64 1)).setIfInBounds k (.pointer (some ⟨pb, 0, none⟩))) 32 :: l))
    case first =>
      go_region_law (first
          | (go_simp; go_at_call 15; refine (lnew_st (HS.out.mod (by first | exact Mod.refl _ _ | exact (Mod.refl _ _).drew | exact (Mod.refl _ _).drewN _)) ((k : Int) + 1) (2 - (k : Int)) 1).mono ?_; rintro e w3 ⟨pb, rfl, hS3⟩; have d0 := blk_cell (hS3.box 1 rfl) k _ e0; have df := blk_free (hS3.box 1 rfl) k; have dt := heap_lt (hS3.box 1 rfl); have HS3 := Lib.hid hS3; clear hS3))
      all_goals
        (try go_wp2_with fail)
        go_meet
        exact ⟨pb, HS3.out.set 1 rfl k (.pointer (some ⟨pb, 0, none⟩))⟩
    case rest =>
      clear HS c0 c2 htb
      obtain ⟨pb, hS⟩ := hcut
      have e4 : ((c.setIfInBounds (2 + k) (.int .i64 1)).setIfInBounds k (.pointer (some ⟨pb, 0, none⟩)))[4 + k]? = some v4 := by
        rw [Array.getElem?_setIfInBounds_ne (by omega), Array.getElem?_setIfInBounds_ne (by omega)]; exact h4
      have e6 : ((((c.setIfInBounds (2 + k) (.int .i64 1)).setIfInBounds k (.pointer (some ⟨pb, 0, none⟩)))).setIfInBounds (4 + k) (.slice none 0 0))[6 + k]? = some v6 := by
        rw [Array.getElem?_setIfInBounds_ne (by omega), Array.getElem?_setIfInBounds_ne (by omega), Array.getElem?_setIfInBounds_ne (by omega)]; exact h6
      have hb := hS.box 1 rfl
      have c4 := blk_cell hb (4 + k) _ e4
      have f4 := blk_free hb (4 + k)
      have htb := heap_lt hb
      have h2 := hS.set 1 rfl (4 + k) (.slice none 0 0)
      have hb2 := h2.box 1 rfl
      have c6 := blk_cell hb2 (6 + k) _ e6
      have f6 := blk_free hb2 (6 + k)
      have htb2 := heap_lt hb2
      have HZ := Lib.hid (h2.set 1 rfl (6 + k) (.slice none 0 0))
      clear hb hb2 h2 hS e0 e2 e4 e6 h0 h4 h6
      go_wp2
      go_end0
      exact ⟨rfl, pb, HZ.out⟩
end Go.Proofs.Ytoeokdachojhjaa
