/-
  PathParts, walked, and for arguments as they come in.
  Conditions: the texts are not longer than 4000000000; what is asked of the world.
-/
import Derived.Test.YtfdlllpjempjoaaDoorPathOpen
namespace Go.Proofs.YtfdlllpjempjoaaDoor
open Go.ChangeShapes Go.WideShapes Go.ChangeAt Go.RowKit
set_option linter.unusedSectionVars false
set_option linter.unusedSimpArgs false
set_option linter.unusedVariables false
set_option maxRecDepth 100000

set_option maxHeartbeats 2000000 in
theorem parts_any (p q : ByteArray) (n : Int) (hp : p.size ≤ 140737488351232) (hq : q.size ≤ 140737488351232) (h0 : -9223372036854775808 ≤ n) (h1 : n ≤ 9223372036854775807) (w : World) (hR : Ready w) :
    Calls Tryd.prog 4 #[.string p, .string q, .int .i64 n] w (CopyPost (.bool true) w) := by
  have cA := awake_any w hR
  have c1 := fun W => Parent_any p (by omega) W
  have c2 := fun W => refParent_any p (by omega) W
  have c3 := fun W => Base_any p (by omega) W
  have c4 := fun W => refBase_any p (by omega) W
  have c5 := fun W => Kid_any p q (by omega) (by omega) W
  have c6 := fun W => refKid_any p q (by omega) (by omega) W
  have c7 := fun W => Under_any p q (by omega) (by omega) W
  have c8 := fun W => refUnder_any p q (by omega) (by omega) W
  have c9 := fun W => Under_any q p (by omega) (by omega) W
  have c10 := fun W => refUnder_any q p (by omega) (by omega) W
  have c11 := fun W (h : Old w W) => Numbered_any p n (by omega) h0 h1 W (hR.old h).2
  have c12 := fun W => refNumbered_any p n (by omega) h0 h1 W
  generalize bs (parentL p.data.toList) = V1 at c1 c2
  generalize bs (baseL p.data.toList) = V2 at c3 c4
  generalize bs (kidL p.data.toList q.data.toList) = V3 at c5 c6
  generalize underL p.data.toList q.data.toList = V4 at c7 c8
  generalize underL q.data.toList p.data.toList = V5 at c9 c10
  generalize bs (numL p.data.toList n) = V6 at c11 c12
  have C1 := Lib.hid c1
  have C2 := Lib.hid c2
  have C3 := Lib.hid c3
  have C4 := Lib.hid c4
  have C5 := Lib.hid c5
  have C6 := Lib.hid c6
  have C7 := Lib.hid c7
  have C8 := Lib.hid c8
  have C9 := Lib.hid c9
  have C10 := Lib.hid c10
  have C11 := Lib.hid c11
  have C12 := Lib.hid c12
  clear c1 c2 c3 c4 c5 c6 c7 c8 c9 c10 c11 c12 hR
  go_enter Tryd.func4, Tryd.ntmps4
  go_wp2_with (first
    | (go_at_call 8; refine cA.mono ?_; rintro e w0 ⟨rfl, hO⟩; have T0 := Lib.hid hO; clear cA hO)
    | (go_at_call 11; refine (C1.out w0).mono ?_; rintro e w1 ⟨rfl, hO⟩; have T1 := Lib.hid (T0.out.join hO); clear C1 T0 hO)
    | (go_at_call 12; refine (C2.out w1).mono ?_; rintro e w2 ⟨rfl, hO⟩; have T2 := Lib.hid (T1.out.join hO); clear C2 T1 hO)
    | (go_at_call 13; refine (C3.out w2).mono ?_; rintro e w3 ⟨rfl, hO⟩; have T3 := Lib.hid (T2.out.join hO); clear C3 T2 hO)
    | (go_at_call 14; refine (C4.out w3).mono ?_; rintro e w4 ⟨rfl, hO⟩; have T4 := Lib.hid (T3.out.join hO); clear C4 T3 hO)
    | (go_at_call 15; refine (C5.out w4).mono ?_; rintro e w5 ⟨rfl, hO⟩; have T5 := Lib.hid (T4.out.join hO); clear C5 T4 hO)
    | (go_at_call 16; refine (C6.out w5).mono ?_; rintro e w6 ⟨rfl, hO⟩; have T6 := Lib.hid (T5.out.join hO); clear C6 T5 hO)
    | (go_at_call 17; refine (C7.out w6).mono ?_; rintro e w7 ⟨rfl, hO⟩; have T7 := Lib.hid (T6.out.join hO); clear C7 T6 hO)
    | (go_at_call 18; refine (C8.out w7).mono ?_; rintro e w8 ⟨rfl, hO⟩; have T8 := Lib.hid (T7.out.join hO); clear C8 T7 hO)
    | (go_at_call 17; refine (C9.out w8).mono ?_; rintro e w9 ⟨rfl, hO⟩; have T9 := Lib.hid (T8.out.join hO); clear C9 T8 hO)
    | (go_at_call 18; refine (C10.out w9).mono ?_; rintro e w10 ⟨rfl, hO⟩; have T10 := Lib.hid (T9.out.join hO); clear C10 T9 hO)
    | (go_at_call 19; refine (C11.out w10 T10.out).mono ?_; rintro e w11 ⟨rfl, hO⟩; have T11 := Lib.hid (T10.out.join hO); clear C11 T10 hO)
    | (go_at_call 20; refine (C12.out w11).mono ?_; rintro e w12 ⟨rfl, hO⟩; have T12 := Lib.hid (T11.out.join hO); clear C12 T11 hO))
  all_goals
    go_ret
    exact ⟨by first | rfl | (simp; done), T12.out⟩

theorem open_str_reach {H : Type} {enc : TypeId × Value → H} {w : World} {base' : Nat} {spare : Nat → Bool} {held : Bool} {base : Nat} {v : Value} {d : DataW H} {p : List MemPlace} (k : DataW.Trod enc Tryd.prog w base spare held 9 v d p) (o : Value.okWide Tryd.prog w .any base' 9 v)
    (hw : ∀ x ∈ d.weights Tryd.prog 9, x ≤ reachBytes) : ∃ s : ByteArray, v = .string s ∧ s.size ≤ 140737488351232 := by
  obtain ⟨f, k⟩ := k
  obtain ⟨s, rfl⟩ := okWide_string Tryd.underlying9 o
  obtain ⟨x, h1, h3, h2⟩ := DataW.trod_string Tryd.underlying9 k
  simp only [Value.cells, List.cons.injEq, Value.string.injEq, and_true] at h1
  subst h1
  refine ⟨s, rfl, ?_⟩
  obtain ⟨rfl, -⟩ := Prod.mk.inj h3
  have := hw s.data.toList.length (by simp [DataW.weights])
  rw [Array.length_toList] at this
  unfold reachBytes at this
  show s.data.size ≤ _
  omega
theorem each3 {P : Program} {H : Type} {t0 t1 t2 : TypeId} {d0 d1 d2 : DataW H} (h : (DataW.weightsEach P [t0, t1, t2] [d0, d1, d2]).all (· ≤ reachBytes) = true) :
    (∀ x ∈ d0.weights P t0, x ≤ reachBytes) ∧ (∀ x ∈ d1.weights P t1, x ≤ reachBytes) := by
  refine ⟨fun x hx => ?_, fun x hx => ?_⟩
  · exact of_decide_eq_true (List.all_eq_true.1 h x (by simp only [DataW.weightsEach, List.mem_append]; exact .inl hx))
  · exact of_decide_eq_true (List.all_eq_true.1 h x (by simp only [DataW.weightsEach, List.mem_append]; exact .inr (.inl hx)))

theorem pathParts_contract {H : Type} {enc : TypeId × Value → H} (W : World) (base : Nat) (v0 : Value) (d0 : DataW H) (p0 : List MemPlace) (v1 : Value) (d1 : DataW H) (p1 : List MemPlace) (v2 : Value) (d2 : DataW H) (p2 : List MemPlace)
    (k0 : DataW.Trod enc Tryd.prog W 0 (fun _ => true) true 9 v0 d0 p0) (k1 : DataW.Trod enc Tryd.prog W 0 (fun _ => true) true 9 v1 d1 p1) (k2 : DataW.Trod enc Tryd.prog W 0 (fun _ => true) true 3 v2 d2 p2)
    (o0 : Value.okWide Tryd.prog W .any base 9 v0) (o1 : Value.okWide Tryd.prog W .any base 9 v1) (o2 : Value.okWide Tryd.prog W .any base 3 v2) (hT : Ready W)
    (hsz : (DataW.weightsEach Tryd.prog [9, 9, 3] [d0, d1, d2]).all (· ≤ reachBytes) = true) :
    Calls Tryd.prog 4 #[v0, v1, v2] W (CopyPost (.bool true) W) := by
  obtain ⟨p, rfl, hp⟩ := open_str_reach k0 o0 (each3 hsz).1
  obtain ⟨q, rfl, hq⟩ := open_str_reach k1 o1 (each3 hsz).2
  obtain ⟨n, rfl, hn⟩ := open_int k2 o2
  exact parts_any p q n (by omega) (by omega) hn.1 hn.2 W hT
end Go.Proofs.YtfdlllpjempjoaaDoor
