/-
  The document's post: Drop.
  Conditions: the post lies in a block of its own ('PostAt').
-/
import Derived.Test.YtnggolgpnbdghaaPostR
namespace Go.Proofs.Ytnggolgpnbdghaa
open Go.RowKit
set_option linter.unusedSectionVars false
set_option linter.unusedSimpArgs false
set_option linter.unusedVariables false

/-- Is a packet neither from nor to an address? -/
def stays (ad : Int) (p : Pk) : Bool := p.a != ad && p.b != ad

def DropRel (w : World) (pb : Nat) (a : Option Addr) (cap : Nat) (xs ys : List Pk) (v : Value) (wr : World) : Prop :=
  ∃ a' cap', v = .slice a' ys.length cap' ∧ Sl wr 32 8 a' ys.length cap' (flat ys) ∧ Mod (fun _ => False) w wr ∧ ∀ b, own a' = some b → w.heap.size ≤ b

set_option maxHeartbeats 1000000 in
theorem rDrop_any (pb : Nat) (a : Option Addr) (cap n : Nat) (xs : List Pk) (hn : xs.length = n) (w : World) (h : PostAt 51 w pb a cap xs) (ad : Int) :
    Calls Try.prog 24 #[.pointer (some ⟨pb, 0, none⟩), .int .i64 ad] w (ToPost 51 (.int .i64 ((n : Int) - (xs.filter (stays ad)).length)) w pb a (xs.filter (stays ad))) := by
  have hl := h.2.2.2.le
  rw [hn] at hl
  have HP := Lib.hid h
  have HN := Lib.hid hn
  have HF : Hid (fits n) := Lib.hid (hn ▸ h.2.2.2)
  have hpb0 := heap_lt h.1
  have hlt0 := h.lt
  clear h hn
  obtain ⟨ip, hip1, hip2, hip3⟩ := info_parts infoP
  have HI := Lib.hid (And.intro hip1 (And.intro hip2 hip3))
  clear hip1 hip2 hip3
  go_enter Try.func24, Try.ntmps24
  go_wp2
  go_loopw [5, 6] (fun v i wr => ∃ k : Nat, k ≤ n ∧ i = .int .i64 k ∧ DropRel w pb a cap xs ((xs.take k).filter (stays ad)) v wr) (fun _ i _ => n - (intOf i).toNat)
  case atStart => exact ⟨0, by omega, rfl, none, 0, rfl, Sl.nil _ _ _, Mod.refl _ _, fun b hb => by simp [own] at hb⟩
  case round =>
    obtain ⟨k, hk, rfl, a5, cap5, rfl, hS, hM, hY⟩ := hrel
    obtain ⟨ys, hys⟩ : ∃ ys, (xs.take k).filter (stays ad) = ys := ⟨_, rfl⟩
    rw [hys] at hS ⊢
    have hyl : ys.length ≤ k := by rw [← hys]; exact Nat.le_trans (List.length_filter_le _ _) (List.length_take_le _ _)
    have HYS := Lib.hid hys
    obtain ⟨m, hm⟩ : ∃ m, ys.length = m := ⟨_, rfl⟩
    rw [hm] at hyl hS ⊢
    have HM := Lib.hid hm
    have hPr := HP.out.mod hM id (fun _ _ => id)
    have hc := blk_cell hPr.1 0 _ rfl
    rw [HN.out] at hc
    have hpr := heap_lt hPr.1
    have HPR := Lib.hid hPr
    have HS := Lib.hid hS
    have hHm := Lib.hid hM
    have HY := Lib.hid hY
    have hz := hM.size
    clear hPr hm hys hS hM hY
    by_cases hlt : k < n
    · have hp : xs[k]? = some (xs[k]'(HN.out ▸ hlt)) := List.getElem?_eq_getElem _
      obtain ⟨p, hpp⟩ : ∃ p, xs[k]'(HN.out ▸ hlt) = p := ⟨_, rfl⟩
      rw [hpp] at hp
      have HT : Hid ((xs.take (k + 1)).filter (stays ad) = if stays ad p then ys ++ [p] else ys) := by
        show _ = _
        rw [List.take_succ_eq_append_getElem (HN.out ▸ hlt), hpp, List.filter_append, HYS.out]
        by_cases hs : stays ad p = true
        · rw [if_pos hs]; simp [hs]
        · rw [if_neg hs]; simp [hs]
      obtain ⟨b, o, rfl, h8⟩ := HPR.out.2.1.rd.at8 hp
      have hbl := HPR.out.2.1.lt b rfl
      obtain ⟨c0, c1, c2, c3, c4, c5, c6, c7⟩ := h8
      clear hpp hp
      by_cases ha : p.a = ad
      · have g : (p.a != ad) = false := by simpa using ha
        have HE : Hid (stays ad p = false) := by show _ = _; unfold stays; rw [g]; rfl
        clear ha
        go_wp2
        refine ⟨⟨k + 1, by omega, by simp, a5, cap5, ?_⟩, by simp only [intOf]; omega⟩
        rw [HT.out, HE.out]
        simp only [Bool.false_eq_true, if_false]
        rw [HM.out]
        exact ⟨rfl, HS.out, hHm.out, HY.out⟩
      · by_cases hb : p.b = ad
        · have g : (p.a != ad) = true := by simpa using ha
          have g2 : (p.b != ad) = false := by simpa using hb
          have HE : Hid (stays ad p = false) := by show _ = _; unfold stays; rw [g, g2]; rfl
          clear ha hb
          go_wp2
          refine ⟨⟨k + 1, by omega, by simp, a5, cap5, ?_⟩, by simp only [intOf]; omega⟩
          rw [HT.out, HE.out]
          simp only [Bool.false_eq_true, if_false]
          rw [HM.out]
          exact ⟨rfl, HS.out, hHm.out, HY.out⟩
        · have g : (p.a != ad) = true := by simpa using ha
          have g2 : (p.b != ad) = true := by simpa using hb
          have HE : Hid (stays ad p = true) := by show _ = _; unfold stays; rw [g, g2]; rfl
          clear ha hb
          have hS1 : Sl (wr.alloc (.cells p.cells.toArray 32)) 32 8 a5 m cap5 (flat ys) := HS.out.mod (S := fun _ => False) ((Mod.refl _ _).alloc _) (fun _ _ => id)
          have hR1 : Rd (wr.alloc (.cells p.cells.toArray 32)) 8 (some ⟨wr.heap.size, 0, none⟩) 1 1 p.cells := (Sl.new (c := p.cells.toArray) (heap_alloc_new wr _) rfl (by unfold maxLen; omega)).rd
          have HS1 := Lib.hid hS1
          have HR1 := Lib.hid hR1
          have hfm : fits (m + 1) := HF.out.mono (by omega)
          have HFM := Lib.hid hfm
          clear hS1 hR1 hfm
          go_wp2_with (at_builtin; refine wpList_append 32 ip _ 8 72 (by kernel_rfl) HI.out.1 HI.out.2.1 HI.out.2.2.1 HI.out.2.2.2 rfl a5 m cap5 (flat ys) rfl HS1.out (some ⟨wr.heap.size, 0, none⟩) 1 1 p.cells rfl HR1.out (fun u hu => flat_one [p] u (by simpa [flat] using hu)) HFM.out.maxLen HFM.out.room ?_; intro a6 cap6 w6 hS6 hM6 hF6 hN6 hR6; clear hN6 hR6)
          have hm6 : (ys ++ [p]).length = m + 1 := by rw [List.length_append, HM.out]; rfl
          refine ⟨⟨k + 1, by omega, by simp, a6, cap6, ?_⟩, by simp only [intOf]; omega⟩
          rw [HT.out, HE.out]
          simp only [if_true]
          rw [hm6]
          refine ⟨rfl, ?_, (hHm.out.alloc _).then hM6 (fun x hx h => by have := HY.out x h; omega), fun x hx => ?_⟩
          · rw [flat_append]; exact hS6
          · rcases hF6 x hx with h | h
            · exact HY.out x h
            · simp at h; omega
    · obtain rfl : k = n := by omega
      have hfull : (xs.take k) = xs := List.take_of_length_le (by rw [HN.out]; exact Nat.le_refl _)
      have HX : Hid (xs.filter (stays ad) = ys) := by show _ = _; rw [← HYS.out, hfull]
      have hf0 := blk_free HPR.out.1 0
      have e1 : IntKind.i64.wrap ((k : Int) - m) = (k : Int) - m := IntWalk.i64_in _ (by omega)
      clear hlt hfull
      go_wp2
      go_ret
      rw [HX.out]
      rw [HM.out]
      have hn5 : ∀ x, own a5 = some x → x ≠ pb := fun x hx e => by have := HY.out x hx; omega
      refine ⟨rfl, a5, cap5, ⟨?_, ?_, fun h => hn5 pb h rfl, ?_⟩, (hHm.out.mono (fun _ _ h => h.elim)).setCell ⟨pb, 0, none⟩ _ (fun _ => .inl rfl), fun x hx => ?_⟩
      · rw [HM.out]; exact blk_set _ HPR.out.1
      · rw [HM.out]; exact HS.out.mod (S := fun b => b = pb) ((Mod.refl _ _).setCell ⟨pb, 0, none⟩ _ (fun _ => rfl)) hn5
      · rw [HM.out]; exact HF.out.mono (by omega)
      · have := HS.out.lt x hx
        simp only [World.size_setCell]
        exact .inr ⟨HY.out x hx, this⟩
end Go.Proofs.Ytnggolgpnbdghaa
