/-
  The methods of a post (package post): what each returns and how it leaves the list, for every list of at most so many packets as append's room takes.
  Conditions: the post lies in a block of its own ('PostAt').
-/
import Derived.Test.YtnggolgpnbdghaaPostA
namespace Go.Proofs.Ytnggolgpnbdghaa
open Go.RowKit
set_option linter.unusedSectionVars false
set_option linter.unusedSimpArgs false
set_option linter.unusedVariables false

theorem Copy_yes (pb : Nat) (a : Option Addr) (cap : Nat) (xs : List Pk) (w : World) (h : PostAt 47 w pb a cap xs) (k : Nat) (p : Pk) (hp : xs[k]? = some p) :
    Calls Try.prog 20 #[.pointer (some ⟨pb, 0, none⟩), .int .i64 k] w (CopyPost (.tuple #[p.agg, .bool true]) w) := by
  have hc := blk_cell h.1 0 _ rfl
  have hpb := heap_lt h.1
  have hk : k < xs.length := (List.getElem?_eq_some_iff.1 hp).1
  have hl := h.2.2.2.le
  obtain ⟨b, o, rfl, h8⟩ := h.2.1.rd.at8 hp
  have hbl := h.2.1.lt b rfl
  obtain ⟨c0, c1, c2, c3, c4, c5, c6, c7⟩ := h8
  have hk2 : decide ((xs.length : Int) ≤ (k : Int)) = false := by simp; omega
  have hk3 : ¬ xs.length ≤ k := by omega
  clear h hp
  go_enter Try.func20, Try.ntmps20
  go_wp2
  exact bodyPost_ret (v := .tuple #[p.agg, .bool true]) (by simp [results, Try.results20, go_sem, Pk.agg]) rfl ⟨rfl, (Mod.refl _ _).alloc _⟩

theorem Copy_no (pb : Nat) (a : Option Addr) (cap : Nat) (xs : List Pk) (w : World) (h : PostAt 47 w pb a cap xs) (k : Int) (hk : k < 0 ∨ (xs.length : Int) ≤ k) :
    Calls Try.prog 20 #[.pointer (some ⟨pb, 0, none⟩), .int .i64 k] w (CopyPost (.tuple #[Pk.zero.agg, .bool false]) w) := by
  have hc := blk_cell h.1 0 _ rfl
  have hpb := heap_lt h.1
  have hl := h.2.2.2.le
  by_cases h0 : k < 0
  · have hk1 : decide (k < 0) = true := by simpa using h0
    clear h hk
    go_enter Try.func20, Try.ntmps20
    go_wp2
    exact bodyPost_ret (v := .tuple #[Pk.zero.agg, .bool false]) (by simp [results, Try.results20, go_sem, Pk.agg, Pk.zero]; rfl) rfl ⟨rfl, (Mod.refl _ _).alloc _⟩
  · have hk1 : decide (k < 0) = false := by simpa using h0
    have hk2 : decide ((xs.length : Int) ≤ k) = true := by simp; omega
    clear h hk
    go_enter Try.func20, Try.ntmps20
    go_wp2
    exact bodyPost_ret (v := .tuple #[Pk.zero.agg, .bool false]) (by simp [results, Try.results20, go_sem, Pk.agg, Pk.zero]; rfl) rfl ⟨rfl, (Mod.refl _ _).alloc _⟩

/-- What is told, and how the post is left. -/
def ToPost (T : TypeId) (v : Value) (w : World) (pb : Nat) (a : Option Addr) (xs : List Pk) (e : Ending) (w' : World) : Prop := e = .returned v ∧ PostTo T w pb a xs w'

theorem Take_no (pb : Nat) (a : Option Addr) (cap : Nat) (xs : List Pk) (w : World) (h : PostAt 47 w pb a cap xs) (k : Int) (hk : k < 0 ∨ (xs.length : Int) ≤ k) :
    Calls Try.prog 11 #[.pointer (some ⟨pb, 0, none⟩), .int .i64 k] w (ToPost 47 (.tuple #[Pk.zero.agg, .bool false]) w pb a xs) := by
  have hlt := h.lt
  have HP := Lib.hid h
  clear h
  go_enter Try.func11, Try.ntmps11
  go_wp2_with fail
  refine (Copy_no pb a cap xs _ (HP.out.mod (S := fun _ => False) ((Mod.refl _ _).alloc _) id (fun _ _ => id)) k hk).mono ?_
  rintro e w1 ⟨rfl, hM⟩
  have hz1 : w.heap.size < w1.heap.size := by have := hM.size; simp at this; omega
  have hg := hM.heap (heap_alloc_new w _) id
  go_wp2_with (refine wpList_store_whole 8 sizeP w.heap.size rfl _ _ ((Mod.refl (fun _ => False) w1).alloc _ |>.heap hg id) rfl _ rfl rfl (by kernel_rfl) ?_; intro w2 hg2 hM2 hz2)
  have hT : Mod (fun _ => False) w w2 := ((((Mod.refl _ w).alloc _).then hM (fun _ _ h => h)).alloc _).then hM2 (fun x hx h => by omega)
  refine bodyPost_ret (results_cell_tmp rfl _ w2 w.heap.size _ _ _ _ rfl hg2 Try.underlying32 rfl sizeP) rfl ?_
  exact
    ⟨rfl, a, cap, HP.out.mod hT id (fun _ _ => id), hT.mono (fun _ _ h => h.elim), fun b hb => .inl hb⟩

theorem Take_yes (pb : Nat) (a : Option Addr) (cap : Nat) (xs : List Pk) (w : World) (h : PostAt 47 w pb a cap xs) (k : Nat) (p : Pk) (hp : xs[k]? = some p) :
    Calls Try.prog 11 #[.pointer (some ⟨pb, 0, none⟩), .int .i64 k] w (ToPost 47 (.tuple #[p.agg, .bool true]) w pb a (xs.eraseIdx k)) := by
  have hlt := h.lt
  have hk : k < xs.length := (List.getElem?_eq_some_iff.1 hp).1
  have hl := h.2.2.2.le
  have HP := Lib.hid h
  have HX := Lib.hid hp
  clear h hp
  go_enter Try.func11, Try.ntmps11
  go_wp2_with fail
  refine (Copy_yes pb a cap xs _ (HP.out.mod (S := fun _ => False) ((Mod.refl _ _).alloc _) id (fun _ _ => id)) k p HX.out).mono ?_
  rintro e w1 ⟨rfl, hM⟩
  have hz1 : w.heap.size < w1.heap.size := by have := hM.size; simp at this; omega
  have hg := hM.heap (heap_alloc_new w _) id
  have hT1 : Mod (fun _ => False) w w1 := ((Mod.refl _ w).alloc _).then hM (fun _ _ h => h)
  have HP1 := Lib.hid (HP.out.mod hT1 id (fun _ _ => id))
  have hc := blk_cell HP1.out.1 0 _ rfl
  have hpb1 := heap_lt HP1.out.1
  go_wp2_with fail
  refine calls_named fun wA hA => ?_
  have hTA : Mod (fun _ => False) w wA := by rw [hA]; exact hT1.alloc _
  have hgA : wA.heap[w.heap.size]? = some (.cells Pk.zero.cells.toArray 32 (0, 0)) := by rw [hA]; exact ((Mod.refl (fun _ => False) w1).alloc _).heap hg id
  have hq : wA.heap[w1.heap.size]? = some (.cells p.cells.toArray 32 (0, 0)) := by rw [hA]; exact heap_alloc_new w1 _
  have hzA := heap_lt hq
  clear hA
  have HPA := Lib.hid (HP.out.mod hTA id (fun _ _ => id))
  refine (Delete_int a xs.length cap (flat xs) k (k + 1) (k : Int) ((k : Int) + 1) rfl (by omega) wA HPA.out.2.1 (by omega) (by omega) HPA.out.2.2.2 (flat_one xs)).mono ?_
  rintro e w2 ⟨a2, cap2, rfl, hS2, hM2, hF2⟩
  have hb2 := hM2.heap HPA.out.1 (fun h => HPA.out.2.2.1 h)
  have hg2 := hM2.heap hgA (fun h => by have := hlt.2 _ h; omega)
  have hq2 := hM2.heap hq (fun h => by have := hlt.2 _ h; omega)
  have hpb2 := heap_lt hb2
  have hc2 := blk_cell hb2 0 _ rfl
  have hf2 := blk_free hb2 0
  have HB2 := Lib.hid hb2
  have HG2 := Lib.hid hg2
  obtain ⟨⟨q0, q1, q2, q3, q4, q5, q6, q7⟩, qf⟩ := res8 (p := p) hq2
  clear hb2 hc hg2 hq2 hq hgA
  have hne : w.heap.size ≠ pb := by omega
  go_wp2_with (refine wpList_store_whole 8 sizeP w.heap.size rfl Pk.zero.cells.toArray _ ((heap_setCell_other _ _ _ _ hne).trans HG2.out) rfl _ rfl rfl (by kernel_rfl) ?_; intro w3 hg3 hM3 hz3)
  have hT3 : Mod (fun b => b = pb ∨ own a = some b) w w3 := (((hTA.mono (fun _ _ h => h.elim)).then hM2 (fun _ _ h => .inr h)).setCell ⟨pb, 0, none⟩ _ (fun _ => .inl rfl)).then hM3 (fun x hx h => by omega)
  refine bodyPost_ret (results_cell_tmp rfl _ w3 w.heap.size _ _ _ _ rfl hg3 Try.underlying32 rfl sizeP) rfl ?_
  have hlen : (xs.eraseIdx k).length = xs.length - 1 := by rw [List.length_eraseIdx_of_lt hk]
  rw [show k + 1 - k = 1 from by omega] at hS2
  have hflat : flat (xs.eraseIdx k) = (flat xs).take (k * 8) ++ (flat xs).drop ((k + 1) * 8) := by
    rw [flat_take, flat_drop, ← flat_append, List.eraseIdx_eq_take_drop_succ]
  have hn2 : ∀ b, own a2 = some b → b ≠ pb ∧ b ≠ w.heap.size := fun b hb => by
    have hA := hTA.size
    have h0 := HP.out.2.2.1
    rcases hF2 b hb with h | h
    · have := hlt.2 b h
      exact ⟨fun e => h0 (e ▸ h), by omega⟩
    · omega
  refine ⟨rfl, a2, cap2, ⟨?_, ?_, fun h => (hn2 pb h).1 rfl, HP.out.2.2.2.mono (by omega)⟩, hT3, fun b hb => ?_⟩
  · rw [hlen]
    exact hM3.heap (blk_set _ HB2.out) (fun h => by omega)
  · rw [hlen, hflat]
    exact (hS2.mod (S := fun b => b = pb) ((Mod.refl _ w2).setCell ⟨pb, 0, none⟩ _ (fun _ => rfl)) (fun b hb => (hn2 b hb).1)).mod hM3 (fun b hb => (hn2 b hb).2)
  · have h3 := hM3.size
    rcases hF2 b hb with h | h
    · exact .inl h
    · have := hTA.size
      simp at h3
      exact .inr ⟨by omega, by omega⟩

end Go.Proofs.Ytnggolgpnbdghaa
