/-
  The first calls of every law; an ID that was digested is an ID.
  Conditions: the table of math/bits lies in the world.
-/
import Derived.Test.YtamacndbkjpkaaaDoorAclRef
namespace Go.Proofs.YtamacndbkjpkaaaDoor
open Go.RowKit
set_option linter.unusedSectionVars false
set_option linter.unusedSimpArgs false
set_option linter.unusedVariables false
set_option maxRecDepth 100000

theorem dgt_hex (n : Nat) (h : n < 16) : hex (dgt n).toNat = true := by
  have : ∀ n : Fin 16, hex (dgt n.1).toNat = true := by decide
  exact this ⟨n, h⟩
theorem lowD_hex : ∀ (n j : Nat), onlyB hex (lowD n j) = true
  | _, 0 => rfl
  | n, j + 1 => by
    rw [lowD, onlyB, List.all_append, Bool.and_eq_true]
    refine ⟨lowD_hex (n / 16) j, ?_⟩
    simp only [List.all_cons, List.all_nil, Bool.and_true]
    exact dgt_hex _ (Nat.mod_lt _ (by omega))
theorem no_colon (l : List UInt8) (h : isUserL l = true) : (58 : UInt8) ∉ l := by
  intro hm
  simp only [isUserL, Bool.and_eq_true] at h
  have := (onlyB_mem _ _).1 h.2 58 hm
  exact absurd this (by decide)
theorem idOf_list (name secret : ByteArray) : (idOf name secret).data.toList = name.data.toList ++ 58 :: lowD (hshN (saltL name secret)) 16 := by simp [idOf]
theorem idOf_id (name secret : ByteArray) (h : isUserL name.data.toList = true) : isIDL (idOf name secret) = true := by
  rw [isIDL, idOf_list, longIDL_pair _ _ (no_colon _ h), pairL, h, lowD_length, lowD_hex]
  simp
theorem idOf_size (name secret : ByteArray) : (idOf name secret).size = name.size + 17 := by
  have h1 : (idOf name secret).data.toList.length = (idOf name secret).size := by rw [Array.length_toList]; rfl
  have h2 : name.data.toList.length = name.size := by rw [Array.length_toList]; rfl
  rw [← h1, idOf_list, List.length_append, List.length_cons, lowD_length, h2]

theorem Rd.rows {w : World} {b : Nat} {c : Array Value} {E : TypeId} (l : List ARow) (h : w.heap[b]? = some (.cells c E (0, 0))) (hc : c.toList = l.flatMap ARow.cells) (hm : l.length ≤ maxLen) :
    Rd w 2 (some ⟨b, 0, none⟩) l.length l.length (l.flatMap ARow.cells) := by
  refine ⟨by rw [flatk_length ARow.cells (k := 2) (fun _ => rfl)], Nat.le_refl _, hm, .inr ⟨_, rfl, fun i u hu => ?_⟩⟩
  rw [add_none, Nat.zero_add]
  refine blk_cell h i u ?_
  rw [← Array.getElem?_toList, hc]; exact hu
theorem Rd.strs {w : World} {b : Nat} {c : Array Value} {E : TypeId} (l : List ByteArray) (h : w.heap[b]? = some (.cells c E (0, 0))) (hc : c.toList = l.flatMap strC) (hm : l.length ≤ maxLen) :
    Rd w 1 (some ⟨b, 0, none⟩) l.length l.length (l.flatMap strC) := by
  refine ⟨by rw [flatk_length strC (k := 1) (fun _ => rfl)], Nat.le_refl _, hm, .inr ⟨_, rfl, fun i u hu => ?_⟩⟩
  rw [add_none, Nat.zero_add]
  refine blk_cell h i u ?_
  rw [← Array.getElem?_toList, hc]; exact hu

theorem rows_awake (I : ByteArray) (w : World) : Rd (w.alloc (.cells #[.int .i64 1, .string ⟨#[119, 111, 114, 108, 100]⟩, .int .i64 6, .string I] 27)) 2 (some ⟨w.heap.size, 0, none⟩) 2 2 ([((1 : Int), world), (6, I)].flatMap ARow.cells) :=
  Rd.rows [((1 : Int), world), (6, I)] (heap_alloc_new w _) rfl (by simp [maxLen])
theorem strs_awake (I : ByteArray) (w : World) : Rd (w.alloc (.cells #[.string ⟨#[98, 111, 98]⟩, .string I] 9)) 1 (some ⟨w.heap.size, 0, none⟩) 2 2 ([(⟨#[98, 111, 98]⟩ : ByteArray), I].flatMap strC) :=
  Rd.strs [(⟨#[98, 111, 98]⟩ : ByteArray), I] (heap_alloc_new w _) rfl (by simp [maxLen])

/-- The list of the first calls lies at a block. -/
def AR (I : ByteArray) (b : Nat) (W : World) : Prop := Rd W 2 (some ⟨b, 0, none⟩) 2 2 ([((1 : Int), world), (6, I)].flatMap ARow.cells)
theorem AR.old {I : ByteArray} {b : Nat} {w w' : World} (h : AR I b w) (k : Old w w') : AR I b w' := h.mod k (fun _ _ h => h)

theorem right_awake (I : ByteArray) (hid : isIDL I = true) (hsz : I.size = 20) (w : World) : Calls Tryd.prog 9 #[.slice (some ⟨w.heap.size, 0, none⟩) 2 2] (w.alloc (.cells #[.int .i64 1, .string ⟨#[119, 111, 114, 108, 100]⟩, .int .i64 6, .string I] 27))
    fun e w' => e = .returned (.bool true) ∧ Old w w' ∧ AR I w.heap.size w' := by
  have hne : ¬ I = world := by intro h; rw [h] at hsz; exact absurd hsz (by decide)
  have hr : rightL [(1, world), (6, I)] = true := by
    simp [rightL, okR, hid]; decide
  have hfit : ∀ r ∈ [((1 : Int), world), (6, I)], ARow.fit r := by
    intro r hr
    simp only [List.mem_cons, List.not_mem_nil, or_false] at hr
    rcases hr with rfl | rfl
    · exact ⟨by decide, by decide⟩
    · exact ⟨⟨by show (-9223372036854775808 : Int) ≤ 6; omega, by show (6 : Int) ≤ 9223372036854775807; omega⟩, by show I.size ≤ maxLen; rw [hsz]; unfold maxLen; omega⟩
  have h := right_any _ 2 2 _ _ (rows_awake I w) rfl hfit
  rw [hr] at h
  exact h.mono fun e w' ⟨h1, h2⟩ => ⟨h1, Old.join ((Old.rfl' w).alloc _) h2, (show AR I w.heap.size _ from rows_awake I w).old h2⟩

theorem may1_awake (I : ByteArray) (hsz : I.size = 20) (b : Nat) (w : World) (h : AR I b w) : Calls Tryd.prog 11 #[.slice (some ⟨b, 0, none⟩) 2 2, .int .i64 1, .slice none 0 0] w (CopyPost (.bool true) w) := by
  have hne : ¬ I = world := by intro h; rw [h] at hsz; exact absurd hsz (by decide)
  have hm : may [(1, world), (6, I)] 1 [] = true := by simp [may, given, gives, hits, hne]; decide
  have := may_any _ 2 2 _ 1 none 0 0 [] w h rfl (Rd.nil _ 1) rfl
  rw [hm] at this
  exact this
theorem may3_awake (I : ByteArray) (hsz : I.size = 20) (b : Nat) (w : World) (h : AR I b w) : Calls Tryd.prog 11 #[.slice (some ⟨b, 0, none⟩) 2 2, .int .i64 3, .slice none 0 0] w (CopyPost (.bool false) w) := by
  have hne : ¬ I = world := by intro h; rw [h] at hsz; exact absurd hsz (by decide)
  have hm : may [(1, world), (6, I)] 3 [] = false := by simp [may, given, gives, hits, hne]; decide
  have := may_any _ 2 2 _ 3 none 0 0 [] w h rfl (Rd.nil _ 1) rfl
  rw [hm] at this
  exact this
theorem may4_awake (I : ByteArray) (hsz : I.size = 20) (b : Nat) (w : World) (h : AR I b w) : Calls Tryd.prog 11 #[.slice (some ⟨b, 0, none⟩) 2 2, .int .i64 3, .slice (some ⟨w.heap.size, 0, none⟩) 2 2] (w.alloc (.cells #[.string ⟨#[98, 111, 98]⟩, .string I] 9)) (CopyPost (.bool true) w) := by
  have hne : ¬ I = world := by intro h; rw [h] at hsz; exact absurd hsz (by decide)
  have hm : may [(1, world), (6, I)] 3 [⟨#[98, 111, 98]⟩, I] = true := by simp [may, given, gives, hits, hne]; decide
  have := may_any _ 2 2 _ 3 _ 2 2 _ _ (h.old ((Old.rfl' w).alloc _)) rfl (strs_awake I w) rfl
  rw [hm] at this
  exact this.mono fun e w' ⟨h1, h2⟩ => ⟨h1, Old.join ((Old.rfl' w).alloc _) h2⟩

set_option maxHeartbeats 1000000 in
theorem awake_any (w : World) (hT : Tab w) : Calls Tryd.prog 8 #[] w (CopyPost (.bool true) w) := by
  have cD := digest_yes ⟨#[97, 110, 110]⟩ ⟨#[120]⟩ (by decide) (by decide) w hT
  have hid := idOf_id ⟨#[97, 110, 110]⟩ ⟨#[120]⟩ (by decide)
  have hsz : (idOf ⟨#[97, 110, 110]⟩ ⟨#[120]⟩).size = 20 := idOf_size _ _
  generalize idOf ⟨#[97, 110, 110]⟩ ⟨#[120]⟩ = I at cD hid hsz
  have cN := fun w => digest_no ⟨#[65, 110, 110]⟩ ⟨#[120]⟩ (by decide) (by decide) w
  have zsz : (I.size : Int) = 20 := by omega
  have HI := Lib.hid hid
  have HZ := Lib.hid hsz
  clear hid hsz hT
  go_enter Tryd.func8, Tryd.ntmps8
  go_wp2_with (first
    | (go_at_call 13; refine cD.mono ?_; rintro e w1 ⟨rfl, hO1⟩; clear cD)
    | (go_at_call 13; refine (cN _).mono ?_; rintro e w2 ⟨rfl, hO2⟩; clear cN)
    | (go_at_call 9; refine (right_awake I HI.out HZ.out w2).mono ?_; rintro e w3 ⟨rfl, hO3, hA⟩; have HA3 := Lib.hid hA; clear hA; clear HI)
    | (go_at_call 11; refine (may1_awake I HZ.out _ w3 HA3.out).mono ?_; rintro e w4 ⟨rfl, hO4⟩; have HA4 := Lib.hid (HA3.out.old hO4); clear HA3)
    | (go_at_call 11; refine (may3_awake I HZ.out _ w4 HA4.out).mono ?_; rintro e w5 ⟨rfl, hO5⟩; have HA5 := Lib.hid (HA4.out.old hO5); clear HA4)
    | (go_at_call 11; refine (may4_awake I HZ.out _ w5 HA5.out).mono ?_; rintro e w6 ⟨rfl, hO6⟩; clear HA5))
  go_ret
  exact ⟨rfl, ((((hO1.join hO2).join hO3).join hO4).join hO5).join hO6⟩
end Go.Proofs.YtamacndbkjpkaaaDoor
