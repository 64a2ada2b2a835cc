/-
  Lists as bytes: the document's Acls, texts.
  Conditions: the lists lie in the world; the bytes fit.
-/
import Derived.Test.YtmbkbkfcbloafaaGreatWireL
namespace Go.Proofs.YtmbkbkfcbloafaaGreat
open Go.RowKit
set_option linter.unusedSectionVars false
set_option linter.unusedSimpArgs false
set_option linter.unusedVariables false
set_option maxRecDepth 100000

set_option maxHeartbeats 2000000 in
theorem rtexts_any (a : Option Addr) (cap : Nat) (L : List ByteArray) (w : World) (hr : Rd w 1 a L.length cap (L.flatMap strC)) (hf : bfits ((listB txtB L).length + 100)) :
    Calls Tryz.prog 41 #[.slice a L.length cap] w (TextPost (listB txtB L) w) := by
  obtain ⟨n, hn⟩ : ∃ n, L.length = n := ⟨_, rfl⟩
  rw [hn] at hr ⊢
  have hl63 : n ≤ 2 ^ 63 - 1 := by have := hr.2.1; have := hr.2.2.1; unfold maxLen at this; omega
  have HN := Lib.hid hn
  have HR := Lib.hid hr
  have HF := Lib.hid hf
  clear hn hr hf
  go_enter Tryz.func41, Tryz.ntmps41
  go_wp2_with fail
  refine (rwcount_any (n : Int) (by omega) (by omega) w).mono ?_
  rintro e w1 ⟨rfl, hM⟩
  rw [Int.toNat_natCast]
  have HM := Lib.hid hM
  clear hM
  go_wp2
  go_loopg [3, 4] n (fun g x y wr => ∃ k : Nat, k + g = n ∧ y = .int .i64 k ∧ x = .string ⟨(sevens n ++ (L.take k).flatMap txtB).toArray⟩ ∧ Mod (fun _ => False) w wr)
  case atStart => exact ⟨0, by omega, rfl, by rw [List.take_zero, List.flatMap_nil, List.append_nil], HM.out⟩
  case round =>
    obtain ⟨k, hkg, rfl, rfl, hM⟩ := hrel
    obtain ⟨A, hA⟩ : ∃ A, ByteArray.mk (sevens n ++ (L.take k).flatMap txtB).toArray = A := ⟨_, rfl⟩
    rw [hA]
    have HA := Lib.hid hA
    by_cases hlt : k < n
    · have hx : L[k]? = some (L[k]'(HN.out ▸ hlt)) := List.getElem?_eq_getElem _
      obtain ⟨t, hxx⟩ : ∃ x, L[k]'(HN.out ▸ hlt) = x := ⟨_, rfl⟩
      rw [hxx] at hx
      obtain ⟨b, o, rfl, hbl, hc⟩ := (HR.out.mod hM (fun _ _ => id)).elem (k := 1) strC (fun _ => rfl) (by omega) hx
      have h1 := flat_take_le txtB hx
      have hft := HF.out
      unfold bfits listB at hft
      rw [List.length_append, HN.out] at hft
      have hAs : A.size = (sevens n).length + ((L.take k).flatMap txtB).length := by rw [← hA, mk_size, List.length_append]
      have hts : (txtB t).length = (sevens t.size).length + t.size := by unfold txtB; rw [List.length_append, toList_size]
      have hbt : bfits (t.size + 10) := by unfold bfits; omega
      have HX := Lib.hid hx
      have HBT := Lib.hid hbt
      have c0 : wr.cell? ⟨b, o + k, none⟩ = some (.string t) := by have := hc 0 _ rfl; simpa using this
      obtain ⟨B, hB⟩ : ∃ B, ByteArray.mk (sevens t.size ++ t.data.toList).toArray = B := ⟨_, rfl⟩
      have hBs : B.size = (txtB t).length := by rw [← hB, mk_size]; rfl
      have hbound : ¬ 9223372036854775807 < A.size + B.size := by omega
      have HB := Lib.hid hB
      clear hx hxx hc h1 hft hAs hts hbt hBs hB hA
      go_wp2_with fail
      refine (rwtext_any t HBT.out wr).mono ?_
      rintro e w2 ⟨rfl, hM2⟩
      rw [HB.out]
      go_wp2
      go_roundg (gk - 1)
      case measure => omega
      case rel =>
        refine ⟨k + 1, by omega, by simp, ?_, hM.then hM2 (fun _ _ h => h)⟩
        rw [flat_take_snoc txtB HX.out, ← List.append_assoc, ← mk_append, HA.out, ← HB.out]
        rfl
    · have hk : k = n := by omega
      clear hkg hlt
      rw [hk, List.take_of_length_le (by rw [HN.out]; exact Nat.le_refl _)] at HA
      go_wp2
      go_ret
      refine ⟨?_, hM⟩
      unfold listB
      rw [HN.out, HA.out]
      rfl

/-! ### What stays, whatever the order -/

theorem Mod.back {a b c : World} (k : Mod (fun _ => False) b c) (h : Mod (fun _ => False) a b) : Mod (fun _ => False) a c := h.then k (fun _ _ h => h)
theorem heap_back {b c : World} (k : Mod (fun _ => False) b c) {n : Nat} {o : Obj} (h : b.heap[n]? = some o) : c.heap[n]? = some o := k.heap h id

set_option maxHeartbeats 2000000 in
theorem rAcls_any (a : Option Addr) (cap : Nat) (L : List Acl) (w : World) (hr : Rd w 2 a L.length cap (L.flatMap Acl.cells)) (hok : ∀ x ∈ L, Acl.ok w x) (hf : bfits ((listB Acl.bytes L).length + 100)) :
    Calls Tryz.prog 103 #[.slice a L.length cap] w (TextPost (listB Acl.bytes L) w) := by
  obtain ⟨n, hn⟩ : ∃ n, L.length = n := ⟨_, rfl⟩
  rw [hn] at hr ⊢
  have hl63 : n ≤ 2 ^ 63 - 1 := by have := hr.2.1; have := hr.2.2.1; unfold maxLen at this; omega
  have HN := Lib.hid hn
  have HR := Lib.hid hr
  have HF := Lib.hid hf
  have HO := Lib.hid hok
  clear hn hr hf hok
  go_enter Tryz.func103, Tryz.ntmps103
  go_wp2_with fail
  refine (rwcount_any (n : Int) (by omega) (by omega) w).mono ?_
  rintro e w1 ⟨rfl, hM⟩
  rw [Int.toNat_natCast]
  have HM := Lib.hid hM
  clear hM
  go_wp2
  go_loopg [3, 4] n (fun g x y wr => ∃ k : Nat, k + g = n ∧ y = .int .i64 k ∧ x = .string ⟨(sevens n ++ (L.take k).flatMap Acl.bytes).toArray⟩ ∧ Mod (fun _ => False) w wr)
  case atStart => exact ⟨0, by omega, rfl, by rw [List.take_zero, List.flatMap_nil, List.append_nil], HM.out⟩
  case round =>
    obtain ⟨k, hkg, rfl, rfl, hM⟩ := hrel
    obtain ⟨A, hA⟩ : ∃ A, ByteArray.mk (sevens n ++ (L.take k).flatMap Acl.bytes).toArray = A := ⟨_, rfl⟩
    rw [hA]
    have HA := Lib.hid hA
    have HMM := Lib.hid hM
    by_cases hlt : k < n
    · have hx : L[k]? = some (L[k]'(HN.out ▸ hlt)) := List.getElem?_eq_getElem _
      obtain ⟨t, hxx⟩ : ∃ x, L[k]'(HN.out ▸ hlt) = x := ⟨_, rfl⟩
      rw [hxx] at hx
      obtain ⟨b, o, rfl, hbl, hc⟩ := (HR.out.mod hM (fun _ _ => id)).elem (k := 2) Acl.cells (fun _ => rfl) (by omega) hx
      have h1 := flat_take_le Acl.bytes hx
      have hft := HF.out
      unfold bfits listB at hft
      rw [List.length_append, HN.out] at hft
      have hAs : A.size = (sevens n).length + ((L.take k).flatMap Acl.bytes).length := by rw [← hA, mk_size, List.length_append]
      have hto := HO.out t (List.mem_of_getElem? hx)
      obtain ⟨p, i⟩ := t
      have hts : (Acl.bytes ⟨p, i⟩).length = (numB p).length + (txtB i).length := by unfold Acl.bytes; rw [List.length_append]
      have htx : (txtB i).length = (sevens i.size).length + i.size := by unfold txtB; rw [List.length_append, toList_size]
      have hbt : bfits (i.size + 10) := by unfold bfits; omega
      have HX := Lib.hid hx
      have c0 : wr.cell? ⟨b, o + k * 2, none⟩ = some (.int .i64 p) := hc 0 _ rfl
      have c1 : wr.cell? ⟨b, o + k * 2 + 1, none⟩ = some (.string i) := hc 1 _ rfl
      obtain ⟨B, hB⟩ : ∃ B, ByteArray.mk (sevens (zig p)).toArray = B := ⟨_, rfl⟩
      obtain ⟨C, hC⟩ : ∃ C, ByteArray.mk (sevens i.size ++ i.data.toList).toArray = C := ⟨_, rfl⟩
      have hBs : B.size = (numB p).length := by rw [← hB, mk_size]; rfl
      have hCs : C.size = (txtB i).length := by rw [← hC, mk_size]; rfl
      have hbd1 : ¬ 9223372036854775807 < A.size + B.size := by omega
      have hbd2 : ¬ 9223372036854775807 < A.size + B.size + C.size := by omega
      have cB : Hid (∀ w', Calls Tryz.prog 59 #[.int .i64 p] w' (fun e w'' => e = .returned (.string B) ∧ Mod (fun _ => False) w' w'')) := Lib.hid fun w' => by
        rw [← hB]; exact rwnum_any p hto.1 hto.2 w'
      have cC : Hid (∀ w', Calls Tryz.prog 40 #[.string i] w' (fun e w'' => e = .returned (.string C) ∧ Mod (fun _ => False) w' w'')) := Lib.hid fun w' => by
        rw [← hC]; exact rwtext_any i hbt w'
      have HB := Lib.hid hB
      have HC := Lib.hid hC
      have KP : ∀ w', Mod (fun _ => False) wr w' → w'.cell? ⟨b, o + k * 2, none⟩ = some (.int .i64 p) ∧ w'.cell? ⟨b, o + k * 2 + 1, none⟩ = some (.string i) := fun w' h => ⟨h.cell c0 id, h.cell c1 id⟩
      have KP := Lib.hid KP
      clear hx hxx hc h1 hft hAs hts htx hbt hBs hCs hB hC hA hto hM
      go_wp2_with fail
      go_region_held3 (fun w' => w'.cell? ⟨b, o + k * 2, none⟩ = some (.int .i64 p) ∧ w'.cell? ⟨b, o + k * 2 + 1, none⟩ = some (.string i))
        (first | (refine KP.out _ ?_; repeat (first | exact Mod.refl _ _ | refine Mod.drew ?_ | refine Mod.drewN ?_ _ | refine Mod.alloc ?_ _ | refine Mod.back (by assumption) ?_)))
        ((first
          | (go_at_call 59; refine (cB.out _).mono ?_; rintro e w1 ⟨rfl, hM1⟩)
          | (go_at_call 40; refine (cC.out _).mono ?_; rintro e w2 ⟨rfl, hM2⟩)))
      go_wp2
      go_roundg (gk - 1)
      case measure => omega
      case rel =>
        refine ⟨k + 1, by omega, by simp, ?_, HMM.out.then (by repeat (first | exact Mod.refl _ _ | refine Mod.drew ?_ | refine Mod.drewN ?_ _ | refine Mod.alloc ?_ _ | refine Mod.back (by assumption) ?_)) (fun _ _ h => h)⟩
        rw [flat_take_snoc Acl.bytes HX.out]
        show Value.string (A ++ B ++ C) = _
        rw [← HA.out, ← HB.out, ← HC.out, mk_append, mk_append]
        unfold Acl.bytes
        simp only [List.append_assoc]
        rfl
    · have hk : k = n := by omega
      clear hkg hlt
      rw [hk, List.take_of_length_le (by rw [HN.out]; exact Nat.le_refl _)] at HA
      go_wp2
      go_ret
      refine ⟨?_, HMM.out⟩
      unfold listB
      rw [HN.out, HA.out]
      rfl
end Go.Proofs.YtmbkbkfcbloafaaGreat
