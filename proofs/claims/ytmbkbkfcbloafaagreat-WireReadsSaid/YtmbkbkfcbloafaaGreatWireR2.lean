/-
  Things with lists as bytes: the document's part, op, answer.
  Conditions: the lists lie in the world; the bytes fit.
-/
import Derived.Test.YtmbkbkfcbloafaaGreatWireR
namespace Go.Proofs.YtmbkbkfcbloafaaGreat
open Go.RowKit
set_option linter.unusedSectionVars false
set_option linter.unusedSimpArgs false
set_option linter.unusedVariables false
set_option maxRecDepth 100000

set_option maxHeartbeats 4000000 in
theorem rPutRequest_any (X : Req) (w : World) (hX : X.ok w) (hf : bfits (X.bytes.length + 100)) :
    Calls Tryz.prog 25 #[.agg X.cells.toArray] w (TextPost X.bytes w) := by
  obtain ⟨x, subs, armed⟩ := X
  obtain ⟨hx, hn, hr, hall, hm, hra, halla⟩ := hX
  simp only [Req.cells]
  unfold Req.bytes at hf ⊢
  simp only at hx hn hr hall hm hra halla hf ⊢
  obtain ⟨m, hmm⟩ : ∃ m, armed.length = m := ⟨_, rfl⟩
  rw [hmm] at hra hm
  have hm63 : m ≤ 2 ^ 63 - 1 := by have := hra.2.1; have := hra.2.2.1; unfold maxLen at this; omega
  have HMN := Lib.hid hmm
  have HRA := Lib.hid hra
  have HOA := Lib.hid halla
  obtain ⟨n, hnn⟩ : ∃ n, subs.length = n := ⟨_, rfl⟩
  rw [hnn] at hr hn
  have hl63 : n ≤ 2 ^ 63 - 1 := by have := hr.2.1; have := hr.2.2.1; unfold maxLen at this; omega
  have HF := Lib.hid hf
  have HN := Lib.hid hnn
  obtain ⟨A, hA⟩ : ∃ A, ByteArray.mk x.bytes.toArray = A := ⟨_, rfl⟩
  obtain ⟨B, hB⟩ : ∃ B, ByteArray.mk (sevens n).toArray = B := ⟨_, rfl⟩
  have hAs : A.size = x.bytes.length := by rw [← hA, mk_size]
  have hBs : B.size = (sevens n).length := by rw [← hB, mk_size]
  have hbd1 : ¬ 9223372036854775807 < A.size + B.size := by
    have := hf
    unfold bfits listB at this
    rw [List.length_append, List.length_append, List.length_append, hnn] at this
    omega
  have HAl : Hid (Mod (fun _ => False) w (w.alloc (.cells x.cells.toArray 30))) := Lib.hid ((Mod.refl _ w).alloc _)
  have C0 : Hid (∀ w', Mod (fun _ => False) w w' → Calls Tryz.prog 58 #[.agg x.cells.toArray] w' (fun e w'' => e = .returned (.string A) ∧ Mod (fun _ => False) w' w'')) := Lib.hid fun w' h => by
    rw [← hA]; exact rop_any x w' (Op.okmod hx h) (by have := hf; unfold bfits at this ⊢; rw [List.length_append, List.length_append] at this; omega)
  have C1 : Hid (∀ w', Calls Tryz.prog 39 #[.int .i64 (n : Int)] w' (fun e w'' => e = .returned (.string B) ∧ Mod (fun _ => False) w' w'')) := Lib.hid fun w' => by
    rw [← hB]; have := rwcount_any (n : Int) (by omega) (by omega) w'; rwa [Int.toNat_natCast] at this
  have C2 : Hid (∀ t ∈ subs, ∀ w', Mod (fun _ => False) w w' → Calls Tryz.prog 58 #[.agg t.cells.toArray] w' (TextPost t.bytes w')) := Lib.hid fun t ht w' h =>
    rop_any t w' (Op.okmod (hall t ht) h) (by
      obtain ⟨k, hk⟩ := List.mem_iff_getElem?.1 ht
      have h1 := flat_take_le Op.bytes hk
      have := hf
      unfold listB at this
      unfold bfits at this ⊢
      rw [List.length_append, List.length_append, List.length_append] at this
      omega)
  have HR := Lib.hid hr
  have HA := Lib.hid hA
  have HB := Lib.hid hB
  have hB0 : (w.alloc (.cells x.cells.toArray 30)).heap[w.heap.size]? = some (.cells x.cells.toArray 30 (0, 0)) := heap_alloc_new w _
  simp only [Op.cells, hn, hm] at C0 hB0 HAl ⊢
  clear hx hf hnn hn hr hall hA hB hAs hBs hm hmm hra halla
  go_enter Tryz.func25, Tryz.ntmps25
  go_wp2
  generalize w.alloc (.cells #[.int .i64 x.kind, .int .i64 x.xid, .string x.path, .string x.data, .slice x.aclA x.acl.length x.aclC, .int .i64 x.flags, .int .i64 x.version, .bool x.watch, .slice x.subsA n x.subsC, .slice x.armedA m x.armedC] 30) = W at *
  generalize w.heap.size = tb at *
  have c0 : W.cell? ⟨tb, 0, none⟩ = some (.int .i64 x.kind) := blk_cell hB0 0 _ rfl
  have c1 : W.cell? ⟨tb, 1, none⟩ = some (.int .i64 x.xid) := blk_cell hB0 1 _ rfl
  have c2 : W.cell? ⟨tb, 2, none⟩ = some (.string x.path) := blk_cell hB0 2 _ rfl
  have c3 : W.cell? ⟨tb, 3, none⟩ = some (.string x.data) := blk_cell hB0 3 _ rfl
  have c4 : W.cell? ⟨tb, 4, none⟩ = some (.slice x.aclA x.acl.length x.aclC) := blk_cell hB0 4 _ rfl
  have c5 : W.cell? ⟨tb, 5, none⟩ = some (.int .i64 x.flags) := blk_cell hB0 5 _ rfl
  have c6 : W.cell? ⟨tb, 6, none⟩ = some (.int .i64 x.version) := blk_cell hB0 6 _ rfl
  have c7 : W.cell? ⟨tb, 7, none⟩ = some (.bool x.watch) := blk_cell hB0 7 _ rfl
  have c8 : W.cell? ⟨tb, 8, none⟩ = some (.slice x.subsA n x.subsC) := blk_cell hB0 8 _ rfl
  have c9 : W.cell? ⟨tb, 9, none⟩ = some (.slice x.armedA m x.armedC) := blk_cell hB0 9 _ rfl
  have KP : Hid (∀ w', Mod (fun _ => False) W w' → w'.cell? ⟨tb, 0, none⟩ = some (.int .i64 x.kind) ∧ w'.cell? ⟨tb, 1, none⟩ = some (.int .i64 x.xid) ∧ w'.cell? ⟨tb, 2, none⟩ = some (.string x.path) ∧ w'.cell? ⟨tb, 3, none⟩ = some (.string x.data) ∧ w'.cell? ⟨tb, 4, none⟩ = some (.slice x.aclA x.acl.length x.aclC) ∧ w'.cell? ⟨tb, 5, none⟩ = some (.int .i64 x.flags) ∧ w'.cell? ⟨tb, 6, none⟩ = some (.int .i64 x.version) ∧ w'.cell? ⟨tb, 7, none⟩ = some (.bool x.watch) ∧ w'.cell? ⟨tb, 8, none⟩ = some (.slice x.subsA n x.subsC) ∧ w'.cell? ⟨tb, 9, none⟩ = some (.slice x.armedA m x.armedC)) := Lib.hid fun w' h => ⟨h.cell c0 id, h.cell c1 id, h.cell c2 id, h.cell c3 id, h.cell c4 id, h.cell c5 id, h.cell c6 id, h.cell c7 id, h.cell c8 id, h.cell c9 id⟩
  have hz : tb < W.heap.size := heap_lt hB0
  clear hB0
  go_region_held3 (fun w' => w'.cell? ⟨tb, 0, none⟩ = some (.int .i64 x.kind) ∧ w'.cell? ⟨tb, 1, none⟩ = some (.int .i64 x.xid) ∧ w'.cell? ⟨tb, 2, none⟩ = some (.string x.path) ∧ w'.cell? ⟨tb, 3, none⟩ = some (.string x.data) ∧ w'.cell? ⟨tb, 4, none⟩ = some (.slice x.aclA x.acl.length x.aclC) ∧ w'.cell? ⟨tb, 5, none⟩ = some (.int .i64 x.flags) ∧ w'.cell? ⟨tb, 6, none⟩ = some (.int .i64 x.version) ∧ w'.cell? ⟨tb, 7, none⟩ = some (.bool x.watch) ∧ w'.cell? ⟨tb, 8, none⟩ = some (.slice x.subsA n x.subsC) ∧ w'.cell? ⟨tb, 9, none⟩ = some (.slice x.armedA m x.armedC))
    (first | (refine KP.out _ ?_; with_reducible (repeat (first | exact Mod.refl _ _ | refine Mod.drew ?_ | refine Mod.drewN ?_ _ | refine Mod.alloc ?_ _ | refine Mod.back (by assumption) ?_))))
    ((first
      | (go_at_call 58; refine (C0.out _ (HAl.out.then (by with_reducible (repeat (first | exact Mod.refl _ _ | refine Mod.drew ?_ | refine Mod.drewN ?_ _ | refine Mod.alloc ?_ _ | refine Mod.back (by assumption) ?_))) (fun _ _ h => h))).mono ?_; rintro e v0 ⟨rfl, hM0⟩; clear C0)
      | (go_at_call 39; refine (C1.out _).mono ?_; rintro e v1 ⟨rfl, hM1⟩; clear C1)))
  have HM : Hid (Mod (fun _ => False) W v1) := Lib.hid (by with_reducible (repeat (first | exact Mod.refl _ _ | refine Mod.drew ?_ | refine Mod.drewN ?_ _ | refine Mod.alloc ?_ _ | refine Mod.back (by assumption) ?_)))
  have HM : Hid (Mod (fun _ => False) W v1) := Lib.hid (by with_reducible (repeat (first | exact Mod.refl _ _ | refine Mod.drew ?_ | refine Mod.drewN ?_ _ | refine Mod.alloc ?_ _ | refine Mod.back (by assumption) ?_)))
  have cs := c8
  have HCA := Lib.hid c9
  clear hM0 hM1 KP hz hbd1 c0 c1 c2 c3 c4 c5 c6 c7 c8 c9
  have HCS := Lib.hid cs
  clear cs
  go_wp2
  go_loopg [3, 4] n (fun g x_ y wr => ∃ k : Nat, k + g = n ∧ y = .int .i64 k ∧ x_ = .string ⟨(x.bytes ++ (sevens n ++ (subs.take k).flatMap Op.bytes)).toArray⟩ ∧ Mod (fun _ => False) W wr)
  case atStart => exact ⟨0, by omega, rfl, by rw [List.take_zero, List.flatMap_nil, List.append_nil, ← mk_append, HA.out, HB.out], HM.out⟩
  case round =>
    obtain ⟨k, hkg, rfl, rfl, hM⟩ := hrel
    obtain ⟨D, hD⟩ : ∃ D, ByteArray.mk (x.bytes ++ (sevens n ++ (subs.take k).flatMap Op.bytes)).toArray = D := ⟨_, rfl⟩
    rw [hD]
    have HD := Lib.hid hD
    have cw : wr.cell? ⟨tb, 8, none⟩ = some (.slice x.subsA n x.subsC) := hM.cell HCS.out id
    have HM := Lib.hid hM
    by_cases hlt : k < n
    · have hx : subs[k]? = some (subs[k]'(HN.out ▸ hlt)) := List.getElem?_eq_getElem _
      obtain ⟨t, hxx⟩ : ∃ x, subs[k]'(HN.out ▸ hlt) = x := ⟨_, rfl⟩
      rw [hxx] at hx
      obtain ⟨b, o, hae, hbl, hc⟩ := ((HR.out.mod HAl.out (fun _ _ => id)).mod hM (fun _ _ => id)).elem (k := 10) Op.cells (fun _ => rfl) (by omega) hx
      have h1 := flat_take_le Op.bytes hx
      have hft := HF.out
      unfold bfits listB at hft
      simp only [List.length_append, HN.out] at hft
      have hDs : D.size = (x.bytes).length + ((sevens n).length + ((subs.take k).flatMap Op.bytes).length) := by rw [← hD, mk_size]; simp only [List.length_append]
      obtain ⟨E, hE⟩ : ∃ E, ByteArray.mk t.bytes.toArray = E := ⟨_, rfl⟩
      have hEs : E.size = t.bytes.length := by rw [← hE, mk_size]
      have hbd : ¬ 9223372036854775807 < D.size + E.size := by (try simp only [List.length_append] at hDs); omega
      have HX := Lib.hid hx
      have HE := Lib.hid hE
      have HC : Hid (∀ j u, ((Op.cells t)[j]? = some u) → wr.cell? ((⟨b, o + k * 10, none⟩ : Addr).add j) = some u) := Lib.hid (fun j u hj => by rw [add_none]; exact hc j u hj)
      rw [hae] at cw
      have CT := Lib.hid (C2.out t (List.mem_of_getElem? hx) wr (HAl.out.then hM (fun _ _ h => h)))
      clear hx hxx hc h1 hft hDs hEs hE hD hM hae
      go_wp2_with ((with_reducible refine at_list ?_); refine wpList_load_chunk 10 _ Tryz.underlying30 rfl sizeOp ⟨b, o + k * 10, none⟩ rfl t.cells rfl HC.out ?_)
      refine CT.out.mono ?_
      rintro e w2 ⟨rfl, hM2⟩
      rw [HE.out]
      go_wp2
      go_roundg (gk - 1)
      case measure => omega
      case rel =>
        refine ⟨k + 1, by omega, by simp, ?_, HM.out.then hM2 (fun _ _ h => h)⟩
        show Value.string (D ++ E) = _
        rw [flat_take_snoc Op.bytes HX.out, ← HD.out, ← HE.out, mk_append]
        simp only [List.append_assoc]
    · have hk : k = n := by omega
      clear hkg hlt
      rw [hk, List.take_of_length_le (by rw [HN.out]; exact Nat.le_refl _)] at HD
      obtain ⟨G, hG⟩ : ∃ G, ByteArray.mk (sevens m).toArray = G := ⟨_, rfl⟩
      have hDs : D.size = x.bytes.length + ((sevens n).length + (subs.flatMap Op.bytes).length) := by rw [← HD.out, mk_size]; simp only [List.length_append]
      have hGs : G.size = (sevens m).length := by rw [← hG, mk_size]
      have hft := HF.out
      unfold bfits listB at hft
      simp only [List.length_append, HN.out, HMN.out] at hft
      have hbd1 : ¬ 9223372036854775807 < D.size + G.size := by omega
      have ca : wr.cell? ⟨tb, 9, none⟩ = some (.slice x.armedA m x.armedC) := HM.out.cell HCA.out id
      have HG := Lib.hid hG
      clear hDs hGs hft hG hD hM C2
      go_wp2_with fail
      refine (rwcount_any (m : Int) (by omega) (by omega) wr).mono ?_
      rintro e w3 ⟨rfl, hM3⟩
      rw [Int.toNat_natCast, HG.out]
      have HM3 : Hid (Mod (fun _ => False) W w3) := Lib.hid (HM.out.then hM3 (fun _ _ h => h))
      clear hM3 ca cw
      go_wp2
      go_loopg [3, 5, 6] m (fun g x_ y z wr => ∃ k : Nat, k + g = m ∧ y = .int .i64 k ∧ x_ = .string ⟨(x.bytes ++ (sevens n ++ subs.flatMap Op.bytes) ++ (sevens m ++ (armed.take k).flatMap Arm.bytes)).toArray⟩ ∧ Mod (fun _ => False) W wr)
      case atStart => exact ⟨0, by omega, rfl, by rw [List.take_zero, List.flatMap_nil, List.append_nil, ← mk_append, HG.out, HD.out], HM3.out⟩
      case round =>
        obtain ⟨k, hkg, rfl, rfl, hM⟩ := hrel
        obtain ⟨Q, hQ⟩ : ∃ Q, ByteArray.mk (x.bytes ++ (sevens n ++ subs.flatMap Op.bytes) ++ (sevens m ++ (armed.take k).flatMap Arm.bytes)).toArray = Q := ⟨_, rfl⟩
        rw [hQ]
        have HQ := Lib.hid hQ
        have cw : wr.cell? ⟨tb, 9, none⟩ = some (.slice x.armedA m x.armedC) := hM.cell HCA.out id
        have HM4 := Lib.hid hM
        by_cases hlt : k < m
        · have hx : armed[k]? = some (armed[k]'(HMN.out ▸ hlt)) := List.getElem?_eq_getElem _
          obtain ⟨t, hxx⟩ : ∃ x, armed[k]'(HMN.out ▸ hlt) = x := ⟨_, rfl⟩
          rw [hxx] at hx
          obtain ⟨b, o, hae, hbl, hc⟩ := ((HRA.out.mod HAl.out (fun _ _ => id)).mod hM (fun _ _ => id)).elem (k := 5) Arm.cells (fun _ => rfl) (by omega) hx
          have h1 := flat_take_le Arm.bytes hx
          have hft := HF.out
          unfold bfits listB at hft
          simp only [List.length_append, HN.out, HMN.out] at hft
          have hQs : Q.size = x.bytes.length + ((sevens n).length + (subs.flatMap Op.bytes).length) + ((sevens m).length + ((armed.take k).flatMap Arm.bytes).length) := by rw [← hQ, mk_size]; simp only [List.length_append]
          have hto := HOA.out t (List.mem_of_getElem? hx)
          have hts : (Arm.bytes t).length = (numB t.kind).length + (txtB t.path).length + (numsB [t.czxid, t.mzxid, t.pzxid]).length := by unfold Arm.bytes; simp only [List.length_append]
          have htx : (txtB t.path).length = (sevens t.path.size).length + t.path.size := by unfold txtB; rw [List.length_append, toList_size]
          obtain ⟨A0, hA0⟩ : ∃ A, ByteArray.mk (numB t.kind).toArray = A := ⟨_, rfl⟩
          obtain ⟨A1, hA1⟩ : ∃ A, ByteArray.mk (txtB t.path).toArray = A := ⟨_, rfl⟩
          obtain ⟨A2, hA2⟩ : ∃ A, ByteArray.mk (numsB [t.czxid, t.mzxid, t.pzxid]).toArray = A := ⟨_, rfl⟩
          have hs0 : A0.size = (numB t.kind).length := by rw [← hA0, mk_size]
          have hs1 : A1.size = (txtB t.path).length := by rw [← hA1, mk_size]
          have hs2 : A2.size = (numsB [t.czxid, t.mzxid, t.pzxid]).length := by rw [← hA2, mk_size]
          have hbd1 : ¬ 9223372036854775807 < Q.size + A0.size := by omega
          have hbd2 : ¬ 9223372036854775807 < Q.size + A0.size + A1.size := by omega
          have hbd3 : ¬ 9223372036854775807 < Q.size + A0.size + A1.size + A2.size := by omega
          have C0 : Hid (∀ w', Calls Tryz.prog 59 #[.int .i64 t.kind] w' (fun e w'' => e = .returned (.string A0) ∧ Mod (fun _ => False) w' w'')) := Lib.hid fun w' => by rw [← hA0]; exact rwnum_any t.kind hto.1.1 hto.1.2 w'
          have C1 : Hid (∀ w', Calls Tryz.prog 40 #[.string t.path] w' (fun e w'' => e = .returned (.string A1) ∧ Mod (fun _ => False) w' w'')) := Lib.hid fun w' => by rw [← hA1]; exact rwtext_any t.path (by unfold bfits; omega) w'
          have C2 : Hid (∀ (m : Nat) w', w'.heap[m]? = some (.cells #[.int .i64 t.czxid, .int .i64 t.mzxid, .int .i64 t.pzxid] 3 (0, 0)) → Calls Tryz.prog 38 #[.slice (some ⟨m, 0, none⟩) 3 3] w' (fun e w'' => e = .returned (.string A2) ∧ Mod (fun _ => False) w' w'')) := Lib.hid fun m w' h => by
            rw [← hA2]; exact rnums_any _ 3 3 [t.czxid, t.mzxid, t.pzxid] rfl (by intro u hu; simp only [List.mem_cons, List.not_mem_nil, or_false] at hu; rcases hu with rfl | rfl | rfl <;> first | exact hto.2.1 | exact hto.2.2.1 | exact hto.2.2.2) (by omega) w' (Sl.new (c := #[.int .i64 t.czxid, .int .i64 t.mzxid, .int .i64 t.pzxid]) h rfl (by unfold maxLen; omega)).rd
          have HX := Lib.hid hx
          have HA0 := Lib.hid hA0
          have HA1 := Lib.hid hA1
          have HA2 := Lib.hid hA2
          have HC : Hid (∀ j u, ((Arm.cells t)[j]? = some u) → wr.cell? ((⟨b, o + k * 5, none⟩ : Addr).add j) = some u) := Lib.hid (fun j u hj => by rw [add_none]; exact hc j u hj)
          rw [hae] at cw
          have hB2 : (wr.alloc (.cells #[.int .i64 0, .string ⟨#[]⟩, .int .i64 0, .int .i64 0, .int .i64 0] 63)).heap[wr.heap.size]? = some (.cells #[.int .i64 0, .string ⟨#[]⟩, .int .i64 0, .int .i64 0, .int .i64 0] 63 (0, 0)) := heap_alloc_new wr _
          have HB2 := Lib.hid hB2
          clear hx hxx hc h1 hft hQs hto hts htx hA0 hA1 hA2 hs0 hs1 hs2 hQ hM hae hB2
          go_wp2_with (first | ((with_reducible refine at_list ?_); refine wpList_load_chunk 5 _ Tryz.underlying63 rfl sizeArm ⟨b, o + k * 5, none⟩ rfl t.cells rfl HC.out ?_) | ((with_reducible refine at_list ?_); refine wpList_store_whole 5 sizeArm wr.heap.size rfl _ _ HB2.out rfl t.cells rfl rfl (by kernel_rfl) ?_; intro V hg8 hM8 hz8))
          have HM5 : Hid (Mod (fun _ => False) wr V) := Lib.hid (((Mod.refl _ wr).alloc _).then hM8 (fun x hx h => by omega))
          generalize wr.heap.size = sb at *
          have d0 : V.cell? ⟨sb, 0, none⟩ = some (.int .i64 t.kind) := blk_cell hg8 0 _ rfl
          have d1 : V.cell? ⟨sb, 1, none⟩ = some (.string t.path) := blk_cell hg8 1 _ rfl
          have d2 : V.cell? ⟨sb, 2, none⟩ = some (.int .i64 t.czxid) := blk_cell hg8 2 _ rfl
          have d3 : V.cell? ⟨sb, 3, none⟩ = some (.int .i64 t.mzxid) := blk_cell hg8 3 _ rfl
          have d4 : V.cell? ⟨sb, 4, none⟩ = some (.int .i64 t.pzxid) := blk_cell hg8 4 _ rfl
          have KP : Hid (∀ w', Mod (fun _ => False) V w' → w'.cell? ⟨sb, 0, none⟩ = some (.int .i64 t.kind) ∧ w'.cell? ⟨sb, 1, none⟩ = some (.string t.path) ∧ w'.cell? ⟨sb, 2, none⟩ = some (.int .i64 t.czxid) ∧ w'.cell? ⟨sb, 3, none⟩ = some (.int .i64 t.mzxid) ∧ w'.cell? ⟨sb, 4, none⟩ = some (.int .i64 t.pzxid)) := Lib.hid fun w' h => ⟨h.cell d0 id, h.cell d1 id, h.cell d2 id, h.cell d3 id, h.cell d4 id⟩
          have hzb : sb < V.heap.size := heap_lt hg8
          clear hg8 hM8 hz8 HB2 HC cw
          go_region_held3 (fun w' => w'.cell? ⟨sb, 0, none⟩ = some (.int .i64 t.kind) ∧ w'.cell? ⟨sb, 1, none⟩ = some (.string t.path) ∧ w'.cell? ⟨sb, 2, none⟩ = some (.int .i64 t.czxid) ∧ w'.cell? ⟨sb, 3, none⟩ = some (.int .i64 t.mzxid) ∧ w'.cell? ⟨sb, 4, none⟩ = some (.int .i64 t.pzxid))
            (first | (refine KP.out _ ?_; with_reducible (repeat (first | exact Mod.refl _ _ | refine Mod.drew ?_ | refine Mod.drewN ?_ _ | refine Mod.alloc ?_ _ | refine Mod.back (by assumption) ?_))))
            ((first
              | (go_at_call 59; refine (C0.out _).mono ?_; rintro e v0 ⟨rfl, hM0⟩; clear C0)
              | (go_at_call 40; refine (C1.out _).mono ?_; rintro e v1 ⟨rfl, hM1⟩; clear C1)
              | (go_at_call 38; refine (C2.out _ _ ?_).mono ?_; (focus (with_reducible (repeat (first | exact heap_alloc_new _ _ | exact heap_alloc_new1 _ _ _ _ | refine heap_drewI ?_ | refine heap_drewNI ?_ | refine heap_back (by assumption) ?_ | refine heap_allocI ?_)))); rintro e v2 ⟨rfl, hM2⟩; clear C2)))
          all_goals
            have HM6 : Hid (Mod (fun _ => False) V v2) := Lib.hid (by with_reducible (repeat (first | exact Mod.refl _ _ | refine Mod.drew ?_ | refine Mod.drewN ?_ _ | refine Mod.alloc ?_ _ | refine Mod.back (by assumption) ?_)))
            clear hM0 hM1 hM2 KP d0 d1 d2 d3 d4
            go_wp2
            go_roundg (gk - 1)
            case measure => omega
            case rel =>
              refine ⟨k + 1, by omega, by simp, ?_, (HM4.out.then HM5.out (fun _ _ h => h)).then HM6.out (fun _ _ h => h)⟩
              show Value.string (Q ++ A0 ++ A1 ++ A2) = _
              rw [flat_take_snoc Arm.bytes HX.out, ← HQ.out, ← HA0.out, ← HA1.out, ← HA2.out, mk_append, mk_append, mk_append]
              unfold Arm.bytes
              simp only [List.append_assoc]
        · have hk : k = m := by omega
          clear hkg hlt
          rw [hk, List.take_of_length_le (by rw [HMN.out]; exact Nat.le_refl _)] at HQ
          go_wp2
          go_ret
          refine ⟨?_, HAl.out.then HM4.out (fun _ _ h => h)⟩
          unfold listB
          rw [HN.out, HMN.out, HQ.out]
          rfl
end Go.Proofs.YtmbkbkfcbloafaaGreat
