/-
  Things with lists as bytes: the document's part, op, answer.
  Conditions: the lists lie in the world; the bytes fit.
-/
import Derived.Test.YtmbkbkfcbloafaaGreatWireQ2
import Derived.Test.YtmbkbkfcbloafaaGreatWireR
import Derived.Test.YtmbkbkfcbloafaaGreatWireO2
namespace Go.Proofs.YtmbkbkfcbloafaaGreat
open Go.RowKit
set_option linter.unusedSectionVars false
set_option linter.unusedSimpArgs false
set_option linter.unusedVariables false
set_option maxRecDepth 100000
theorem Ans.okmod {w w' : World} {x : Ans} (hx : x.ok w) (h : Mod (fun _ => False) w w') : x.ok w' := ⟨hx.1, hx.2.1, hx.2.2.1, hx.2.2.2.1, hx.2.2.2.2.1, hx.2.2.2.2.2.1, hx.2.2.2.2.2.2.1, hx.2.2.2.2.2.2.2.1, hx.2.2.2.2.2.2.2.2.1, hx.2.2.2.2.2.2.2.2.2.1, hx.2.2.2.2.2.2.2.2.2.2.1, hx.2.2.2.2.2.2.2.2.2.2.2.1, (hx.2.2.2.2.2.2.2.2.2.2.2.2.1).mod h (fun _ _ h => h), fun a ha => hx.2.2.2.2.2.2.2.2.2.2.2.2.2.1 a ha, (hx.2.2.2.2.2.2.2.2.2.2.2.2.2.2).mod h (fun _ _ h => h)⟩

set_option maxHeartbeats 4000000 in
theorem rPutReply_any (x : Ans) (subs : List Ans) (w : World) (hx : x.ok w) (hn : x.subsN = subs.length) (hr : Rd w 17 x.subsA subs.length x.subsC (subs.flatMap Ans.cells)) (hall : ∀ a ∈ subs, Ans.ok w a) (hf : bfits ((x.bytes ++ listB Ans.bytes subs).length + 100)) :
    Calls Tryz.prog 28 #[.agg x.cells.toArray] w (TextPost (x.bytes ++ listB Ans.bytes subs) w) := by
  obtain ⟨n, hnn⟩ : ∃ n, subs.length = n := ⟨_, rfl⟩
  rw [hnn] at hr hn
  have hl63 : n ≤ 2 ^ 63 - 1 := by have := hr.2.1; have := hr.2.2.1; unfold maxLen at this; omega
  have HF := Lib.hid hf
  have HN := Lib.hid hnn
  obtain ⟨A, hA⟩ : ∃ A, ByteArray.mk x.bytes.toArray = A := ⟨_, rfl⟩
  obtain ⟨B, hB⟩ : ∃ B, ByteArray.mk (sevens n).toArray = B := ⟨_, rfl⟩
  have hAs : A.size = x.bytes.length := by rw [← hA, mk_size]
  have hBs : B.size = (sevens n).length := by rw [← hB, mk_size]
  have hbd1 : ¬ 9223372036854775807 < A.size + B.size := by
    have := hf
    unfold bfits listB at this
    rw [List.length_append, List.length_append, hnn] at this
    omega
  have HAl : Hid (Mod (fun _ => False) w (w.alloc (.cells x.cells.toArray 70))) := Lib.hid ((Mod.refl _ w).alloc _)
  have C0 : Hid (∀ w', Mod (fun _ => False) w w' → Calls Tryz.prog 64 #[.agg x.cells.toArray] w' (fun e w'' => e = .returned (.string A) ∧ Mod (fun _ => False) w' w'')) := Lib.hid fun w' h => by
    rw [← hA]; exact ranswer_any x w' (Ans.okmod hx h) (by have := hf; unfold bfits at this ⊢; rw [List.length_append] at this; omega)
  have C1 : Hid (∀ w', Calls Tryz.prog 39 #[.int .i64 (n : Int)] w' (fun e w'' => e = .returned (.string B) ∧ Mod (fun _ => False) w' w'')) := Lib.hid fun w' => by
    rw [← hB]; have := rwcount_any (n : Int) (by omega) (by omega) w'; rwa [Int.toNat_natCast] at this
  have C2 : Hid (∀ t ∈ subs, ∀ w', Mod (fun _ => False) w w' → Calls Tryz.prog 64 #[.agg t.cells.toArray] w' (TextPost t.bytes w')) := Lib.hid fun t ht w' h =>
    ranswer_any t w' (Ans.okmod (hall t ht) h) (by
      obtain ⟨k, hk⟩ := List.mem_iff_getElem?.1 ht
      have h1 := flat_take_le Ans.bytes hk
      have := hf
      unfold listB at this
      unfold bfits at this ⊢
      rw [List.length_append, List.length_append] at this
      omega)
  have HR := Lib.hid hr
  have HA := Lib.hid hA
  have HB := Lib.hid hB
  have hB0 : (w.alloc (.cells x.cells.toArray 70)).heap[w.heap.size]? = some (.cells x.cells.toArray 70 (0, 0)) := heap_alloc_new w _
  simp only [Ans.cells, hn] at C0 hB0 HAl ⊢
  clear hx hf hnn hn hr hall hA hB hAs hBs
  go_enter Tryz.func28, Tryz.ntmps28
  go_wp2
  generalize w.alloc (.cells #[.int .i64 x.xid, .int .i64 x.zxid, .int .i64 x.err, .string x.path, .string x.data, .int .i64 x.s0, .int .i64 x.s1, .int .i64 x.s2, .int .i64 x.s3, .int .i64 x.s4, .int .i64 x.s5, .int .i64 x.s6, .int .i64 x.s7, .int .i64 x.s8, .slice x.aclA x.acl.length x.aclC, .slice x.kidsA x.kids.length x.kidsC, .slice x.subsA n x.subsC] 70) = W at *
  generalize w.heap.size = tb at *
  have c0 : W.cell? ⟨tb, 0, none⟩ = some (.int .i64 x.xid) := blk_cell hB0 0 _ rfl
  have c1 : W.cell? ⟨tb, 1, none⟩ = some (.int .i64 x.zxid) := blk_cell hB0 1 _ rfl
  have c2 : W.cell? ⟨tb, 2, none⟩ = some (.int .i64 x.err) := blk_cell hB0 2 _ rfl
  have c3 : W.cell? ⟨tb, 3, none⟩ = some (.string x.path) := blk_cell hB0 3 _ rfl
  have c4 : W.cell? ⟨tb, 4, none⟩ = some (.string x.data) := blk_cell hB0 4 _ rfl
  have c5 : W.cell? ⟨tb, 5, none⟩ = some (.int .i64 x.s0) := blk_cell hB0 5 _ rfl
  have c6 : W.cell? ⟨tb, 6, none⟩ = some (.int .i64 x.s1) := blk_cell hB0 6 _ rfl
  have c7 : W.cell? ⟨tb, 7, none⟩ = some (.int .i64 x.s2) := blk_cell hB0 7 _ rfl
  have c8 : W.cell? ⟨tb, 8, none⟩ = some (.int .i64 x.s3) := blk_cell hB0 8 _ rfl
  have c9 : W.cell? ⟨tb, 9, none⟩ = some (.int .i64 x.s4) := blk_cell hB0 9 _ rfl
  have c10 : W.cell? ⟨tb, 10, none⟩ = some (.int .i64 x.s5) := blk_cell hB0 10 _ rfl
  have c11 : W.cell? ⟨tb, 11, none⟩ = some (.int .i64 x.s6) := blk_cell hB0 11 _ rfl
  have c12 : W.cell? ⟨tb, 12, none⟩ = some (.int .i64 x.s7) := blk_cell hB0 12 _ rfl
  have c13 : W.cell? ⟨tb, 13, none⟩ = some (.int .i64 x.s8) := blk_cell hB0 13 _ rfl
  have c14 : W.cell? ⟨tb, 14, none⟩ = some (.slice x.aclA x.acl.length x.aclC) := blk_cell hB0 14 _ rfl
  have c15 : W.cell? ⟨tb, 15, none⟩ = some (.slice x.kidsA x.kids.length x.kidsC) := blk_cell hB0 15 _ rfl
  have c16 : W.cell? ⟨tb, 16, none⟩ = some (.slice x.subsA n x.subsC) := blk_cell hB0 16 _ rfl
  have KP : Hid (∀ w', Mod (fun _ => False) W w' → w'.cell? ⟨tb, 0, none⟩ = some (.int .i64 x.xid) ∧ w'.cell? ⟨tb, 1, none⟩ = some (.int .i64 x.zxid) ∧ w'.cell? ⟨tb, 2, none⟩ = some (.int .i64 x.err) ∧ w'.cell? ⟨tb, 3, none⟩ = some (.string x.path) ∧ w'.cell? ⟨tb, 4, none⟩ = some (.string x.data) ∧ w'.cell? ⟨tb, 5, none⟩ = some (.int .i64 x.s0) ∧ w'.cell? ⟨tb, 6, none⟩ = some (.int .i64 x.s1) ∧ w'.cell? ⟨tb, 7, none⟩ = some (.int .i64 x.s2) ∧ w'.cell? ⟨tb, 8, none⟩ = some (.int .i64 x.s3) ∧ w'.cell? ⟨tb, 9, none⟩ = some (.int .i64 x.s4) ∧ w'.cell? ⟨tb, 10, none⟩ = some (.int .i64 x.s5) ∧ w'.cell? ⟨tb, 11, none⟩ = some (.int .i64 x.s6) ∧ w'.cell? ⟨tb, 12, none⟩ = some (.int .i64 x.s7) ∧ w'.cell? ⟨tb, 13, none⟩ = some (.int .i64 x.s8) ∧ w'.cell? ⟨tb, 14, none⟩ = some (.slice x.aclA x.acl.length x.aclC) ∧ w'.cell? ⟨tb, 15, none⟩ = some (.slice x.kidsA x.kids.length x.kidsC) ∧ w'.cell? ⟨tb, 16, none⟩ = some (.slice x.subsA n x.subsC)) := Lib.hid fun w' h => ⟨h.cell c0 id, h.cell c1 id, h.cell c2 id, h.cell c3 id, h.cell c4 id, h.cell c5 id, h.cell c6 id, h.cell c7 id, h.cell c8 id, h.cell c9 id, h.cell c10 id, h.cell c11 id, h.cell c12 id, h.cell c13 id, h.cell c14 id, h.cell c15 id, h.cell c16 id⟩
  have hz : tb < W.heap.size := heap_lt hB0
  clear hB0
  go_region_held3 (fun w' => w'.cell? ⟨tb, 0, none⟩ = some (.int .i64 x.xid) ∧ w'.cell? ⟨tb, 1, none⟩ = some (.int .i64 x.zxid) ∧ w'.cell? ⟨tb, 2, none⟩ = some (.int .i64 x.err) ∧ w'.cell? ⟨tb, 3, none⟩ = some (.string x.path) ∧ w'.cell? ⟨tb, 4, none⟩ = some (.string x.data) ∧ w'.cell? ⟨tb, 5, none⟩ = some (.int .i64 x.s0) ∧ w'.cell? ⟨tb, 6, none⟩ = some (.int .i64 x.s1) ∧ w'.cell? ⟨tb, 7, none⟩ = some (.int .i64 x.s2) ∧ w'.cell? ⟨tb, 8, none⟩ = some (.int .i64 x.s3) ∧ w'.cell? ⟨tb, 9, none⟩ = some (.int .i64 x.s4) ∧ w'.cell? ⟨tb, 10, none⟩ = some (.int .i64 x.s5) ∧ w'.cell? ⟨tb, 11, none⟩ = some (.int .i64 x.s6) ∧ w'.cell? ⟨tb, 12, none⟩ = some (.int .i64 x.s7) ∧ w'.cell? ⟨tb, 13, none⟩ = some (.int .i64 x.s8) ∧ w'.cell? ⟨tb, 14, none⟩ = some (.slice x.aclA x.acl.length x.aclC) ∧ w'.cell? ⟨tb, 15, none⟩ = some (.slice x.kidsA x.kids.length x.kidsC) ∧ w'.cell? ⟨tb, 16, none⟩ = some (.slice x.subsA n x.subsC))
    (first | (refine KP.out _ ?_; with_reducible (repeat (first | exact Mod.refl _ _ | refine Mod.drew ?_ | refine Mod.drewN ?_ _ | refine Mod.alloc ?_ _ | refine Mod.back (by assumption) ?_))))
    ((first
      | (go_at_call 64; refine (C0.out _ (HAl.out.then (by with_reducible (repeat (first | exact Mod.refl _ _ | refine Mod.drew ?_ | refine Mod.drewN ?_ _ | refine Mod.alloc ?_ _ | refine Mod.back (by assumption) ?_))) (fun _ _ h => h))).mono ?_; rintro e v0 ⟨rfl, hM0⟩; clear C0)
      | (go_at_call 39; refine (C1.out _).mono ?_; rintro e v1 ⟨rfl, hM1⟩; clear C1)))
  have HM : Hid (Mod (fun _ => False) W v1) := Lib.hid (by with_reducible (repeat (first | exact Mod.refl _ _ | refine Mod.drew ?_ | refine Mod.drewN ?_ _ | refine Mod.alloc ?_ _ | refine Mod.back (by assumption) ?_)))
  have HM : Hid (Mod (fun _ => False) W v1) := Lib.hid (by with_reducible (repeat (first | exact Mod.refl _ _ | refine Mod.drew ?_ | refine Mod.drewN ?_ _ | refine Mod.alloc ?_ _ | refine Mod.back (by assumption) ?_)))
  have cs := c16
  clear hM0 hM1 KP hz hbd1 c0 c1 c2 c3 c4 c5 c6 c7 c8 c9 c10 c11 c12 c13 c14 c15 c16
  have HCS := Lib.hid cs
  clear cs
  go_wp2
  go_loopg [3, 4] n (fun g x_ y wr => ∃ k : Nat, k + g = n ∧ y = .int .i64 k ∧ x_ = .string ⟨(x.bytes ++ (sevens n ++ (subs.take k).flatMap Ans.bytes)).toArray⟩ ∧ Mod (fun _ => False) W wr)
  case atStart => exact ⟨0, by omega, rfl, by rw [List.take_zero, List.flatMap_nil, List.append_nil, ← mk_append, HA.out, HB.out], HM.out⟩
  case round =>
    obtain ⟨k, hkg, rfl, rfl, hM⟩ := hrel
    obtain ⟨D, hD⟩ : ∃ D, ByteArray.mk (x.bytes ++ (sevens n ++ (subs.take k).flatMap Ans.bytes)).toArray = D := ⟨_, rfl⟩
    rw [hD]
    have HD := Lib.hid hD
    have cw : wr.cell? ⟨tb, 16, none⟩ = some (.slice x.subsA n x.subsC) := hM.cell HCS.out id
    have HM := Lib.hid hM
    by_cases hlt : k < n
    · have hx : subs[k]? = some (subs[k]'(HN.out ▸ hlt)) := List.getElem?_eq_getElem _
      obtain ⟨t, hxx⟩ : ∃ x, subs[k]'(HN.out ▸ hlt) = x := ⟨_, rfl⟩
      rw [hxx] at hx
      obtain ⟨b, o, hae, hbl, hc⟩ := ((HR.out.mod HAl.out (fun _ _ => id)).mod hM (fun _ _ => id)).elem (k := 17) Ans.cells (fun _ => rfl) (by omega) hx
      have h1 := flat_take_le Ans.bytes hx
      have hft := HF.out
      unfold bfits listB at hft
      simp only [List.length_append, HN.out] at hft
      have hDs : D.size = (x.bytes).length + ((sevens n).length + ((subs.take k).flatMap Ans.bytes).length) := by rw [← hD, mk_size]; simp only [List.length_append]
      obtain ⟨E, hE⟩ : ∃ E, ByteArray.mk t.bytes.toArray = E := ⟨_, rfl⟩
      have hEs : E.size = t.bytes.length := by rw [← hE, mk_size]
      have hbd : ¬ 9223372036854775807 < D.size + E.size := by (try simp only [List.length_append] at hDs); omega
      have HX := Lib.hid hx
      have HE := Lib.hid hE
      have HC : Hid (∀ j u, ((Ans.cells t)[j]? = some u) → wr.cell? ((⟨b, o + k * 17, none⟩ : Addr).add j) = some u) := Lib.hid (fun j u hj => by rw [add_none]; exact hc j u hj)
      rw [hae] at cw
      have CT := Lib.hid (C2.out t (List.mem_of_getElem? hx) wr (HAl.out.then hM (fun _ _ h => h)))
      clear hx hxx hc h1 hft hDs hEs hE hD hM hae
      go_wp2_with ((with_reducible refine at_list ?_); refine wpList_load_chunk 17 _ Tryz.underlying70 rfl sizeAns ⟨b, o + k * 17, none⟩ rfl t.cells rfl HC.out ?_)
      refine CT.out.mono ?_
      rintro e w2 ⟨rfl, hM2⟩
      rw [HE.out]
      go_wp2
      go_roundg (gk - 1)
      case measure => omega
      case rel =>
        refine ⟨k + 1, by omega, by simp, ?_, HM.out.then hM2 (fun _ _ h => h)⟩
        show Value.string (D ++ E) = _
        rw [flat_take_snoc Ans.bytes HX.out, ← HD.out, ← HE.out, mk_append]
        simp only [List.append_assoc]
    · have hk : k = n := by omega
      clear hkg hlt
      rw [hk, List.take_of_length_le (by rw [HN.out]; exact Nat.le_refl _)] at HD
      go_wp2
      go_ret
      refine ⟨?_, HAl.out.then HM.out (fun _ _ h => h)⟩
      unfold listB
      rw [HN.out, HD.out]
      rfl
end Go.Proofs.YtmbkbkfcbloafaaGreat
