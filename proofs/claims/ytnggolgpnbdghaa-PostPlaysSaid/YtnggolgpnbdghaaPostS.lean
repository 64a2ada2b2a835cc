/-
  The document's post: Take, Drop.
  Conditions: the post lies in a block of its own ('PostAt'); the lists fit append's room.
-/
import Derived.Test.YtnggolgpnbdghaaPostR
namespace Go.Proofs.Ytnggolgpnbdghaa
open Go.RowKit
set_option linter.unusedSectionVars false
set_option linter.unusedSimpArgs false
set_option linter.unusedVariables false

set_option maxHeartbeats 1000000 in
theorem rTake_yes (pb : Nat) (a : Option Addr) (cap : Nat) (xs : List Pk) (w : World) (h : PostAt 51 w pb a cap xs) (k : Nat) (p : Pk) (hp : xs[k]? = some p) :
    Calls Try.prog 21 #[.pointer (some ⟨pb, 0, none⟩), .int .i64 k] w (ToPost 51 (.tuple #[p.agg, .bool true]) w pb a (xs.eraseIdx k)) := by
  have hlt := h.lt
  have hk : k < xs.length := (List.getElem?_eq_some_iff.1 hp).1
  have hl := h.2.2.2.le
  have hnc := h.2.1.2.1
  have HP := Lib.hid h
  have HX := Lib.hid hp
  have HF := Lib.hid h.2.2.2
  clear h hp
  obtain ⟨ip, hip1, hip2, hip3⟩ := info_parts infoP
  have HI := Lib.hid (And.intro hip1 (And.intro hip2 hip3))
  clear hip1 hip2 hip3
  go_enter Try.func21, Try.ntmps21
  go_wp2_with fail
  refine (rCopy_yes pb a cap xs _ (HP.out.mod (S := fun _ => False) ((Mod.refl _ _).alloc _) id (fun _ _ => id)) k p HX.out).mono ?_
  rintro e w1 ⟨rfl, hM⟩
  have hz1 : w.heap.size < w1.heap.size := by have := hM.size; simp at this; omega
  have hg := hM.heap (heap_alloc_new w _) id
  have hT1 : Mod (fun _ => False) w w1 := ((Mod.refl _ w).alloc _).then hM (fun _ _ h => h)
  have HP1 := Lib.hid (HP.out.mod hT1 id (fun _ _ => id))
  have hc := blk_cell HP1.out.1 0 _ rfl
  have hpb1 := heap_lt HP1.out.1
  obtain ⟨n, hn⟩ : ∃ n, xs.length = n := ⟨_, rfl⟩
  rw [hn] at hk hl hnc hc
  have HN := Lib.hid hn
  clear hn
  have hSw : Sl (w1.alloc (.cells p.cells.toArray 32)) 32 8 a n cap (flat xs) := by
    have := HP1.out.2.1.mod (S := fun _ => False) ((Mod.refl _ w1).alloc (.cells p.cells.toArray 32)) (fun _ _ => id)
    rw [HN.out] at this; exact this
  have HSW := Lib.hid hSw
  clear hSw
  have hfk : fits (n - 1) := HF.out.mono (by rw [HN.out]; omega)
  have HFK := Lib.hid hfk
  have hk63 : k + 1 ≤ 2 ^ 63 - 1 := by omega
  obtain ⟨p7, hp7, hrd7, hown7⟩ : ∃ p', (if cap = k + 1 then a else Option.map (fun x => x.add ((k + 1) * 8)) a) = p' ∧ Rd (w1.alloc (.cells p.cells.toArray 32)) 8 p' (n - (k + 1)) (cap - (k + 1)) (((flat xs).drop ((k + 1) * 8)).take ((n - (k + 1)) * 8)) ∧ own p' = own a :=
    ⟨_, rfl, (HSW.out.rd.cut (k + 1) n cap (by omega) (Nat.le_refl _) hnc (Nat.le_refl _)).1, (HSW.out.rd.cut (k + 1) n cap (by omega) (Nat.le_refl _) hnc (Nat.le_refl _)).2⟩
  rw [List.take_of_length_le (by rw [List.length_drop, flat_length, HN.out]; omega)] at hrd7
  have hru := HSW.out.rd.cut 0 k cap (by omega) (by omega) (by omega) (Nat.le_refl _)
  have hrd5 : Rd (w1.alloc (.cells p.cells.toArray 32)) 8 a k cap ((flat xs).take (k * 8)) := (HSW.out.upto k (by omega)).rd
  have HR7 := Lib.hid hrd7
  have HR5 := Lib.hid hrd5
  have hlk : k ≤ cap := by omega
  have hlk2 : k + 1 ≤ cap := by omega
  have tok1 : True := trivial
  have hne : w.heap.size ≠ pb := by omega
  clear hrd7 hru hrd5 hfk
  go_wp2_with (first
    | (at_builtin; have _t := tok1; refine wpList_append (xs := .tmp 18) 32 ip _ 8 72 (by kernel_rfl) HI.out.1 HI.out.2.1 HI.out.2.2.1 HI.out.2.2.2 rfl none 0 0 [] rfl (Sl.nil _ _ _) a k cap ((flat xs).take (k * 8)) rfl HR5.out ?h12 ?h22 ?h32 ?_; (case h12 => exact fun u hu => flat_one xs u (List.mem_of_mem_take hu)); (case h22 => (rw [Nat.zero_add]; exact (HFK.out.mono (by omega)).maxLen)); (case h32 => (rw [Nat.zero_add]; exact (HFK.out.mono (by omega)).room)); rw [Nat.zero_add, List.nil_append]; intro a6 cap6 w6 hS6 hM6 hF6 hN6 hR6; clear hN6 hR6 tok1; have HP6 := Lib.hid ((HP1.out.mod (S := fun _ => False) ((Mod.refl _ w1).alloc (.cells p.cells.toArray 32)) id (fun _ _ => id)).mod hM6 (by simp [own]) (by intro b _; simp [own])); have hc6' := blk_cell HP6.out.1 0 _ rfl; rw [HN.out] at hc6'; have hc6 : w6.cell? ⟨pb, 0, none⟩ = some (.slice a n cap) := hc6'; clear hc6'; have hp6 := heap_lt HP6.out.1; have HR76 := Lib.hid (HR7.out.mod hM6 (by intro b _; simp [own])); have HQ6 := Lib.hid (hM6.heap (heap_alloc_new w1 (.cells p.cells.toArray 32)) (by simp [own])); have HG6 := Lib.hid (hM6.heap (Mod.heap (S := fun _ => False) ((Mod.refl _ w1).alloc (.cells p.cells.toArray 32)) hg id) (by simp [own])); have HN6 : Hid (∀ x, own a6 = some x → w1.heap.size + 1 ≤ x) := Lib.hid (fun x hx => by rcases hF6 x hx with h | h; (simp [own] at h); (simp at h; omega)); have hz6 : w1.heap.size + 1 ≤ w6.heap.size := (by have := hM6.size; simp at this; omega); have HM6 := Lib.hid hM6; have HF6 := Lib.hid hF6; have HS6 := Lib.hid hS6; clear hM6 hF6 hS6; have tok2 : True := trivial)
    | (at_builtin; have _t := tok2; refine wpList_append (xs := .tmp 27) 32 ip _ 8 72 (by kernel_rfl) HI.out.1 HI.out.2.1 HI.out.2.2.1 HI.out.2.2.2 rfl a6 k cap6 ((flat xs).take (k * 8)) rfl HS6.out p7 (n - (k + 1)) (cap - (k + 1)) ((flat xs).drop ((k + 1) * 8)) rfl HR76.out ?h18 ?h28 ?h38 ?_; (case h18 => exact fun u hu => flat_one xs u (List.mem_of_mem_drop hu)); (case h28 => exact (HFK.out.mono (by omega)).maxLen); (case h38 => exact (HFK.out.mono (by omega)).room); intro a8 cap8 w8 hS8 hM8 hF8 hN8 hR8; clear hN8 hR8 tok2 hc6; have HB8 := Lib.hid (hM8.heap HP6.out.1 (fun h => by have := HN6.out _ h; omega)); have hq8 := hM8.heap HQ6.out (fun h => by have := HN6.out _ h; omega); have HG8 := Lib.hid (hM8.heap HG6.out (fun h => by have := HN6.out _ h; omega)); obtain ⟨⟨q0, q1, q2, q3, q4, q5, q6, q7⟩, qf⟩ := res8 (p := p) hq8; have hc8 := blk_cell HB8.out 0 _ rfl; have hf8 := blk_free HB8.out 0; have hp8 := heap_lt HB8.out; have hzq8 := heap_lt hq8; have HS8 := Lib.hid hS8; have HM8 := Lib.hid hM8; have HF8 := Lib.hid hF8; clear hS8 hM8 hF8 hq8; have tok3 : True := trivial)
    | (have _t := tok3; refine wpList_store_whole 8 sizeP w.heap.size rfl Pk.zero.cells.toArray _ ((heap_setCell_other _ _ _ _ hne).trans HG8.out) rfl _ rfl rfl (by kernel_rfl) ?_; intro w9 hg9 hM9 hz9; clear tok3))
  have hlen : (xs.eraseIdx k).length = k + (n - (k + 1)) := by rw [List.length_eraseIdx_of_lt (by rw [HN.out]; exact hk), HN.out]; omega
  have hflat : flat (xs.eraseIdx k) = (flat xs).take (k * 8) ++ (flat xs).drop ((k + 1) * 8) := by
    rw [flat_take, flat_drop, ← flat_append, List.eraseIdx_eq_take_drop_succ]
  have hn8 : ∀ x, own a8 = some x → w1.heap.size + 1 ≤ x ∧ x < w8.heap.size := fun x hx => by
    rcases HF8.out x hx with h | h
    · have h2 := HF6.out x h
      have h3 := HM8.out.size
      have h4 := HN6.out x h
      refine ⟨h4, ?_⟩
      rcases h2 with h2 | h2
      · simp [own] at h2
      · omega
    · omega
  have hT8 : Mod (fun b => b = pb) w w9 := ((((hT1.mono (T := fun b => b = pb) (fun _ _ h => h.elim)).alloc (.cells p.cells.toArray 32)).then HM6.out (fun x _ h => by simp [own] at h)).then HM8.out (fun x hx h => by have := HN6.out x h; omega)).setCell ⟨pb, 0, none⟩ _ (fun _ => rfl) |>.then hM9 (fun x hx h => by omega)
  refine bodyPost_ret (results_cell_tmp rfl _ w9 w.heap.size _ _ _ _ rfl hg9 Try.underlying32 rfl sizeP) rfl ?_
  refine ⟨rfl, a8, cap8, ⟨?_, ?_, fun h => by have := (hn8 pb h).1; omega, ?_⟩, hT8.mono (fun _ _ h => .inl h), fun b hb => ?_⟩
  · rw [hlen]
    exact hM9.heap (blk_set _ HB8.out) (fun h => by omega)
  · rw [hlen, hflat]
    exact (HS8.out.mod (S := fun b => b = pb) ((Mod.refl _ w8).setCell ⟨pb, 0, none⟩ _ (fun _ => rfl)) (fun b hb => by have := (hn8 b hb).1; omega)).mod hM9 (fun b hb => by have := (hn8 b hb).1; omega)
  · rw [hlen]; exact HFK.out.mono (by omega)
  · have h3 := hM9.size
    simp at h3
    have := hn8 b hb
    exact .inr ⟨by omega, by omega⟩
end Go.Proofs.Ytnggolgpnbdghaa
