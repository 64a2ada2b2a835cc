/-
  AclDigests, walked, and for arguments as they come in.
  Conditions: the table of math/bits lies in the world.
-/
import Derived.Test.YtamacndbkjpkaaaDoorAclRightsC
namespace Go.Proofs.YtamacndbkjpkaaaDoor
open Go.ChangeShapes Go.WideShapes Go.ChangeAt Go.RowKit
set_option linter.unusedSectionVars false
set_option linter.unusedSimpArgs false
set_option linter.unusedVariables false
set_option maxRecDepth 100000

theorem right_one (I : ByteArray) (hI : I.size ≤ maxLen) (w : World) : Calls Tryd.prog 9 #[.slice (some ⟨w.heap.size, 0, none⟩) 1 1] (w.alloc (.cells #[.int .i64 31, .string I] 27)) (CopyPost (.bool (isIDL I)) w) := by
  have hr : rightL [(31, I)] = isIDL I := by simp [rightL, okR]
  have h0 : Rd (w.alloc (.cells #[.int .i64 31, .string I] 27)) 2 (some ⟨w.heap.size, 0, none⟩) 1 1 ([((31 : Int), I)].flatMap ARow.cells) :=
    Rd.rows [((31 : Int), I)] (heap_alloc_new w _) rfl (by simp [maxLen])
  have hfit : ∀ r ∈ [((31 : Int), I)], ARow.fit r := by
    intro r hr
    simp only [List.mem_singleton] at hr
    subst hr
    exact ⟨⟨by show (-9223372036854775808 : Int) ≤ 31; omega, by show (31 : Int) ≤ 9223372036854775807; omega⟩, hI⟩
  have h := right_any _ 1 1 _ _ h0 rfl hfit
  rw [hr] at h
  exact h.mono fun e w' ⟨h1, h2⟩ => ⟨h1, Old.join ((Old.rfl' w).alloc _) h2⟩

theorem digests_any (name secret I : ByteArray) (E : Int) (w : World) (hT : Tab w) (hI : I.size ≤ maxLen) (hE : (E == 0) = isIDL I)
    (hD : ∀ W, Old w W → Calls Tryd.prog 13 #[.string name, .string secret] W (CopyPost (.tuple #[.string I, .int .i64 E]) W))
    (hR : ∀ W, Old w W → Calls Tryd.prog 14 #[.string name, .string secret] W (CopyPost (.tuple #[.string I, .int .i64 E]) W)) :
    Calls Tryd.prog 5 #[.string name, .string secret] w (CopyPost (.bool true) w) := by
  have cA := awake_any w hT
  have cO := fun w => right_one I hI w
  have hII : (I.toList == I.toList) = true := by simp
  have hEE : (E == E) = true := by simp
  generalize hV : isIDL I = V at hE cO
  have HD := Lib.hid hD
  have HR := Lib.hid hR
  clear hD hR hT hI hV
  go_enter Tryd.func5, Tryd.ntmps5
  go_wp2_with (first
    | (go_at_call 8; refine cA.mono ?_; rintro e w1 ⟨rfl, hO1⟩; clear cA)
    | (go_at_call 13; refine (HD.out w1 hO1).mono ?_; rintro e w2 ⟨rfl, hO2⟩; have hO2' := hO1.join hO2; clear HD)
    | (go_at_call 14; refine (HR.out w2 hO2').mono ?_; rintro e w3 ⟨rfl, hO3⟩; have hO3' := hO2'.join hO3; clear HR)
    | (go_at_call 9; refine (cO w3).mono ?_; rintro e w4 ⟨rfl, hO4⟩; have hO4' := hO3'.join hO4; clear cO))
  go_ret
  exact ⟨by cases V <;> rfl, hO4'⟩

theorem each2 {P : Program} {H : Type} {t0 t1 : TypeId} {d0 d1 : DataW H} (h : (DataW.weightsEach P [t0, t1] [d0, d1]).all (· ≤ reachBytes) = true) : (∀ x ∈ d0.weights P t0, x ≤ reachBytes) ∧ (∀ x ∈ d1.weights P t1, x ≤ reachBytes) := by
  constructor
  · intro x hx
    have := List.all_eq_true.1 h x (by simp only [DataW.weightsEach, List.mem_append]; exact .inl hx)
    exact of_decide_eq_true this
  · intro x hx
    have := List.all_eq_true.1 h x (by simp only [DataW.weightsEach, List.mem_append]; exact .inr (.inl hx))
    exact of_decide_eq_true this

theorem aclDigests_contract {H : Type} {enc : TypeId × Value → H} (W : World) (base : Nat) (v0 : Value) (d0 : DataW H) (p0 : List MemPlace) (v1 : Value) (d1 : DataW H) (p1 : List MemPlace)
    (k0 : DataW.Trod enc Tryd.prog W 0 (fun _ => true) true 9 v0 d0 p0) (k1 : DataW.Trod enc Tryd.prog W 0 (fun _ => true) true 9 v1 d1 p1)
    (o0 : Value.okWide Tryd.prog W .any base 9 v0) (o1 : Value.okWide Tryd.prog W .any base 9 v1) (hT : Tab W)
    (hsz : (DataW.weightsEach Tryd.prog [9, 9] [d0, d1]).all (· ≤ reachBytes) = true) :
    Calls Tryd.prog 5 #[v0, v1] W (CopyPost (.bool true) W) := by
  obtain ⟨name, rfl, hn⟩ := open_str k0 o0 (each2 hsz).1
  obtain ⟨secret, rfl, hs⟩ := open_str k1 o1 (each2 hsz).2
  have hnm : name.size ≤ maxLen := by unfold maxLen; omega
  have hsm : secret.size + 100 ≤ maxLen := by unfold maxLen; omega
  cases hu : isUserL name.data.toList
  · exact digests_any name secret ByteArray.empty 50 W hT (by simp [maxLen]) (by decide) (fun W' _ => digest_no name secret hu hnm W') (fun W' _ => refDigest_no name secret hu hnm W')
  · refine digests_any name secret (idOf name secret) 0 W hT ?_ (by rw [idOf_id _ _ hu]; rfl) (fun W' h => digest_yes name secret hu hsm W' (hT.old h)) (fun W' _ => refDigest_yes name secret hu hsm W')
    rw [idOf_size]; unfold maxLen; omega
end Go.Proofs.YtamacndbkjpkaaaDoor
