/-
  Drop of a post (package post).
  Conditions: the post lies in a block of its own ('PostAt').
-/
import Derived.Test.YtnggolgpnbdghaaPostW
namespace Go.Proofs.Ytnggolgpnbdghaa
open Go.RowKit
set_option linter.unusedSectionVars false
set_option linter.unusedSimpArgs false
set_option linter.unusedVariables false

theorem Drop_any (pb : Nat) (a : Option Addr) (cap n : Nat) (xs : List Pk) (hn : xs.length = n) (w : World) (h : PostAt 47 w pb a cap xs) (ad : Int) :
    Calls Try.prog 23 #[.pointer (some ⟨pb, 0, none⟩), .int .i64 ad] w (ToPost 47 (.int .i64 ((n : Int) - (xs.filter (stays ad)).length)) w pb a (xs.filter (stays ad))) := by
  have hl := h.2.2.2.le
  have hlt0 := h.lt
  rw [hn] at hl
  have HP := Lib.hid h
  have HN := Lib.hid hn
  have hc := blk_cell h.1 0 _ rfl
  rw [hn] at hc
  have hpb := heap_lt h.1
  have hmf : ∀ (fn : Fn) (first cap : Array Value) (w : World), (Instr.makeFunc fn first cap).run Try.prog w = .ok (.func fn first cap) w := fun _ _ _ _ => rfl
  clear h hn
  go_enter Try.func23, Try.ntmps23
  go_wp2_with fail
  have hS : Sl (w.alloc (.cells #[.int .i64 ad] 3)) 32 8 a n cap (flat xs) := by
    have := HP.out.2.1.mod (S := fun _ => False) ((Mod.refl _ w).alloc (.cells #[.int .i64 ad] 3)) (fun _ _ => id)
    rw [HN.out] at this; exact this
  refine (DeleteFunc_any w.heap.size ad a cap n xs HN.out _ hS (blk_cell (heap_alloc_new w (.cells #[.int .i64 ad] 3)) 0 _ rfl) hl (fun h => by have := hlt0.2 _ h; omega)).mono ?_
  rintro e w1 ⟨a1, cap1, rfl, hS1, hM1, ho1⟩
  obtain ⟨ys, hys⟩ : ∃ ys, xs.filter (stays ad) = ys := ⟨_, rfl⟩
  have hyl : ys.length ≤ n := by rw [← hys, ← HN.out]; exact List.length_filter_le _ _
  have HYS := Lib.hid hys
  rw [hys] at hS1 ⊢
  obtain ⟨m, hm⟩ : ∃ m, ys.length = m := ⟨_, rfl⟩
  rw [hm] at hS1 hyl ⊢
  have HM := Lib.hid hm
  have hT : Mod (fun b => own a = some b) w w1 := ((Mod.refl _ w).alloc _).then hM1 (fun _ _ h => h)
  have hb1 := hT.heap HP.out.1 (fun h => HP.out.2.2.1 h)
  have hc1 := blk_cell hb1 0 _ rfl
  have hf1 := blk_free hb1 0
  have hp1 := heap_lt hb1
  have HB1 := Lib.hid hb1
  have HS1 := Lib.hid hS1
  have HT := Lib.hid hT
  have HO := Lib.hid ho1
  have e1 : IntKind.i64.wrap ((n : Int) - m) = (n : Int) - m := IntWalk.i64_in _ (by omega)
  clear hc hys hm hS hS1 hM1 hT hb1 ho1
  go_wp2
  go_ret
  rw [HYS.out, HM.out]
  have hn1 : ∀ x, own a1 = some x → x ≠ pb := fun x hx e => HP.out.2.2.1 (by rw [← HO.out, hx, e])
  refine ⟨rfl, a1, cap1, ⟨?_, ?_, fun h => hn1 pb h rfl, HP.out.2.2.2.mono (by rw [HM.out, HN.out]; exact hyl)⟩, (HT.out.mono (fun _ _ h => .inr h)).setCell ⟨pb, 0, none⟩ _ (fun _ => .inl rfl), fun x hx => .inl (HO.out ▸ hx)⟩
  · rw [HM.out]; exact blk_set _ HB1.out
  · rw [HM.out]; exact HS1.out.mod (S := fun b => b = pb) ((Mod.refl _ _).setCell ⟨pb, 0, none⟩ _ (fun _ => rfl)) hn1
end Go.Proofs.Ytnggolgpnbdghaa
