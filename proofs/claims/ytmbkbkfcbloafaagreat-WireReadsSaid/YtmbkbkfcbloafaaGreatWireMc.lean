/-
  Messages: the document's PutMessage.
  Conditions: the lists lie in the world; the bytes fit.
-/
import Derived.Test.YtmbkbkfcbloafaaGreatWireMa
import Derived.Test.YtmbkbkfcbloafaaGreatWireR
import Derived.Test.YtmbkbkfcbloafaaGreatWireR2
import Derived.Test.YtmbkbkfcbloafaaGreatWireP
import Derived.Deep.Cut
namespace Go.Proofs.YtmbkbkfcbloafaaGreat
open Go.RowKit
set_option linter.unusedSectionVars false
set_option linter.unusedSimpArgs false
set_option linter.unusedVariables false
set_option maxRecDepth 100000

theorem int_ic (L : List Int) : L.flatMap intC = ic L := by unfold ic; rw [List.map_eq_flatMap]; rfl
theorem numsB_ge : ∀ (L : List Int), L.length ≤ (numsB L).length
  | [] => by simp
  | n :: l => by
    have h := numsB_ge l
    have h1 : 1 ≤ (sevens (zig n)).length := List.length_pos_iff.2 (sevens_ne _)
    unfold numsB at h ⊢
    rw [List.flatMap_cons, List.length_append, List.length_cons]
    omega
theorem listB_int (L : List Int) : listB numB L = sevens L.length ++ numsB L := rfl

set_option maxHeartbeats 16000000 in
theorem rPutMessage_any (x : Msg) (w : World) (hx : x.ok w) (hf : bfits (x.bytes.length + 100)) :
    Calls Tryz.prog 14 #[.agg x.cells.toArray] w (TextPost x.bytes w) := by
  obtain ⟨n, hn⟩ : ∃ n, x.marks.length = n := ⟨_, rfl⟩
  obtain ⟨m, hm⟩ : ∃ m, x.ents.length = m := ⟨_, rfl⟩
  have hlen : x.bytes.length = (numsB [x.kind, x.epoch, x.zxid, x.number, x.session]).length + (sevens n).length + (numsB x.marks).length + (txtB x.data).length + (sevens m).length + (x.ents.flatMap Ent.bytes).length + x.q.bytes.length + (listB txtB x.ids).length := by
    rw [← hn, ← hm]
    unfold Msg.bytes
    rw [listB_int]
    unfold listB
    simp only [List.length_append]
    omega
  unfold bfits at hf
  have hmr := hx.mrd
  have her := hx.erd
  rw [int_ic, hn] at hmr
  rw [hm] at her
  have hn63 : n ≤ 2 ^ 63 - 1 := by have := hmr.2.1; have := hmr.2.2.1; unfold maxLen at this; omega
  have hm63 : m ≤ 2 ^ 63 - 1 := by have := her.2.1; have := her.2.2.1; unfold maxLen at this; omega
  have hnl : n ≤ 200000000000000 := by
    have h1 := numsB_ge x.marks
    omega
  obtain ⟨A0, hA0⟩ : ∃ A, ByteArray.mk (numsB [x.kind, x.epoch, x.zxid, x.number, x.session]).toArray = A := ⟨_, rfl⟩
  have hs0 : A0.size = (numsB [x.kind, x.epoch, x.zxid, x.number, x.session]).length := by rw [← hA0, mk_size]
  obtain ⟨A1, hA1⟩ : ∃ A, ByteArray.mk (sevens n).toArray = A := ⟨_, rfl⟩
  have hs1 : A1.size = (sevens n).length := by rw [← hA1, mk_size]
  obtain ⟨A2, hA2⟩ : ∃ A, ByteArray.mk (numsB x.marks).toArray = A := ⟨_, rfl⟩
  have hs2 : A2.size = (numsB x.marks).length := by rw [← hA2, mk_size]
  obtain ⟨A3, hA3⟩ : ∃ A, ByteArray.mk (txtB x.data).toArray = A := ⟨_, rfl⟩
  have hs3 : A3.size = (txtB x.data).length := by rw [← hA3, mk_size]
  obtain ⟨A4, hA4⟩ : ∃ A, ByteArray.mk (sevens m).toArray = A := ⟨_, rfl⟩
  have hs4 : A4.size = (sevens m).length := by rw [← hA4, mk_size]
  obtain ⟨A6, hA6⟩ : ∃ A, ByteArray.mk (x.q.bytes).toArray = A := ⟨_, rfl⟩
  have hs6 : A6.size = (x.q.bytes).length := by rw [← hA6, mk_size]
  obtain ⟨A7, hA7⟩ : ∃ A, ByteArray.mk (listB txtB x.ids).toArray = A := ⟨_, rfl⟩
  have hs7 : A7.size = (listB txtB x.ids).length := by rw [← hA7, mk_size]
  have hbd1 : ¬ 9223372036854775807 < A0.size + A1.size := by omega
  have hbd2 : ¬ 9223372036854775807 < A0.size + A1.size + A2.size := by omega
  have hbd3 : ¬ 9223372036854775807 < A0.size + A1.size + A2.size + A3.size := by omega
  have hbd4 : ¬ 9223372036854775807 < A0.size + A1.size + A2.size + A3.size + A4.size := by omega
  have HAl : Hid (Mod (fun _ => False) w (w.alloc (.cells x.cells.toArray 33))) := Lib.hid ((Mod.refl _ w).alloc _)
  have C0 : Hid (∀ (m : Nat) w', w'.heap[m]? = some (.cells #[.int .i64 x.kind, .int .i64 x.epoch, .int .i64 x.zxid, .int .i64 x.number, .int .i64 x.session] 3 (0, 0)) → Calls Tryz.prog 38 #[.slice (some ⟨m, 0, none⟩) 5 5] w' (fun e w'' => e = .returned (.string A0) ∧ Mod (fun _ => False) w' w'')) := Lib.hid fun m w' h => by
    rw [← hA0]; exact rnums_any _ 5 5 [x.kind, x.epoch, x.zxid, x.number, x.session] rfl (by intro t ht; simp only [List.mem_cons, List.not_mem_nil, or_false] at ht; rcases ht with rfl | rfl | rfl | rfl | rfl <;> first | exact hx.kind | exact hx.epoch | exact hx.zxid | exact hx.number | exact hx.session) (by omega) w' (Sl.new (c := #[.int .i64 x.kind, .int .i64 x.epoch, .int .i64 x.zxid, .int .i64 x.number, .int .i64 x.session]) h rfl (by unfold maxLen; omega)).rd
  have C1 : Hid (∀ w', Calls Tryz.prog 39 #[.int .i64 (n : Int)] w' (fun e w'' => e = .returned (.string A1) ∧ Mod (fun _ => False) w' w'')) := Lib.hid fun w' => by
    rw [← hA1]; have := rwcount_any (n : Int) (by omega) (by omega) w'; rwa [Int.toNat_natCast] at this
  have C2 : Hid (∀ w', Mod (fun _ => False) w w' → Calls Tryz.prog 38 #[.slice x.marksA n x.marksC] w' (fun e w'' => e = .returned (.string A2) ∧ Mod (fun _ => False) w' w'')) := Lib.hid fun w' h => by
    rw [← hA2]; exact rnums_any _ n _ x.marks hn hx.mall hnl w' (hmr.mod h (fun _ _ h => h))
  have C3 : Hid (∀ w', Calls Tryz.prog 40 #[.string x.data] w' (fun e w'' => e = .returned (.string A3) ∧ Mod (fun _ => False) w' w'')) := Lib.hid fun w' => by
    rw [← hA3]; exact rwtext_any x.data (by have : (txtB x.data).length = (sevens x.data.size).length + x.data.size := (by unfold txtB; rw [List.length_append, toList_size]); unfold bfits; omega) w'
  have C4 : Hid (∀ w', Calls Tryz.prog 39 #[.int .i64 (m : Int)] w' (fun e w'' => e = .returned (.string A4) ∧ Mod (fun _ => False) w' w'')) := Lib.hid fun w' => by
    rw [← hA4]; have := rwcount_any (m : Int) (by omega) (by omega) w'; rwa [Int.toNat_natCast] at this
  have C5 : Hid (∀ t ∈ x.ents, ∀ w', Mod (fun _ => False) w w' → Calls Tryz.prog 21 #[.agg t.cells.toArray] w' (TextPost t.bytes w')) := Lib.hid fun t ht w' h =>
    rPutEntry_any t w' (Ent.okmod (hx.eall t ht) h) (by
      obtain ⟨k, hk⟩ := List.mem_iff_getElem?.1 ht
      have h1 := flat_take_le Ent.bytes hk
      unfold bfits
      omega)
  have C6 : Hid (∀ w', Mod (fun _ => False) w w' → Calls Tryz.prog 25 #[.agg x.q.cells.toArray] w' (fun e w'' => e = .returned (.string A6) ∧ Mod (fun _ => False) w' w'')) := Lib.hid fun w' h => by
    rw [← hA6]; exact rPutRequest_any x.q w' (Req.okmod hx.q h) (by unfold bfits; omega)
  have C7 : Hid (∀ w', Mod (fun _ => False) w w' → Calls Tryz.prog 41 #[.slice x.idsA x.ids.length x.idsC] w' (fun e w'' => e = .returned (.string A7) ∧ Mod (fun _ => False) w' w'')) := Lib.hid fun w' h => by
    rw [← hA7]; exact rtexts_any _ _ x.ids w' (hx.ird.mod h (fun _ _ h => h)) (by unfold bfits; omega)
  obtain ⟨K, hK⟩ : ∃ K, A0 ++ A1 ++ A2 ++ A3 ++ A4 = K := ⟨_, rfl⟩
  have hKB : K = ByteArray.mk (numsB [x.kind, x.epoch, x.zxid, x.number, x.session] ++ sevens n ++ numsB x.marks ++ txtB x.data ++ sevens m).toArray := by rw [← hK, ← hA0, ← hA1, ← hA2, ← hA3, ← hA4, mk_append, mk_append, mk_append, mk_append]
  have hKs : K.size = (numsB [x.kind, x.epoch, x.zxid, x.number, x.session] ++ sevens n ++ numsB x.marks ++ txtB x.data ++ sevens m).length := by rw [hKB, mk_size]
  have HN := Lib.hid hm
  have HNN := Lib.hid hn
  have HR := Lib.hid her
  have HK := Lib.hid (And.intro hK hKB)
  have HSZ := Lib.hid (And.intro hs6 hs7)
  have HF := Lib.hid (And.intro hf (And.intro hlen hKs))
  have HA67 := Lib.hid (And.intro hA6 hA7)
  have hB0 : (w.alloc (.cells x.cells.toArray 33)).heap[w.heap.size]? = some (.cells x.cells.toArray 33 (0, 0)) := heap_alloc_new w _
  simp only [Msg.cells, hn, hm] at hB0 HAl ⊢
  simp only [Req.cells, Op.cells] at C6
  clear hx hf hlen hn hA0 hs0 hA1 hs1 hA2 hs2 hA3 hs3 hA4 hs4 hA6 hs6 hA7 hs7 hK hKB hKs hmr her hnl
  go_enter Tryz.func14, Tryz.ntmps14
  go_upto_region 1 with fail
  generalize w.alloc (.cells #[.int .i64 x.kind, .int .i64 x.epoch, .int .i64 x.zxid, .int .i64 x.number, .int .i64 x.session, .slice x.marksA n x.marksC, .string x.data, .slice x.entsA m x.entsC, .int .i64 x.q.q.kind, .int .i64 x.q.q.xid, .string x.q.q.path, .string x.q.q.data, .slice x.q.q.aclA x.q.q.acl.length x.q.q.aclC, .int .i64 x.q.q.flags, .int .i64 x.q.q.version, .bool x.q.q.watch, .slice x.q.q.subsA x.q.q.subsN x.q.q.subsC, .slice x.q.q.armedA x.q.q.armedN x.q.q.armedC, .slice x.idsA x.ids.length x.idsC] 33) = W at *
  generalize w.heap.size = tb at *
  have c0 : W.cell? ⟨tb, 0, none⟩ = some (.int .i64 x.kind) := blk_cell hB0 0 _ rfl
  have c1 : W.cell? ⟨tb, 1, none⟩ = some (.int .i64 x.epoch) := blk_cell hB0 1 _ rfl
  have c2 : W.cell? ⟨tb, 2, none⟩ = some (.int .i64 x.zxid) := blk_cell hB0 2 _ rfl
  have c3 : W.cell? ⟨tb, 3, none⟩ = some (.int .i64 x.number) := blk_cell hB0 3 _ rfl
  have c4 : W.cell? ⟨tb, 4, none⟩ = some (.int .i64 x.session) := blk_cell hB0 4 _ rfl
  have c5 : W.cell? ⟨tb, 5, none⟩ = some (.slice x.marksA n x.marksC) := blk_cell hB0 5 _ rfl
  have c6 : W.cell? ⟨tb, 6, none⟩ = some (.string x.data) := blk_cell hB0 6 _ rfl
  have c7 : W.cell? ⟨tb, 7, none⟩ = some (.slice x.entsA m x.entsC) := blk_cell hB0 7 _ rfl
  have KP : Hid (∀ w', Mod (fun _ => False) W w' → w'.cell? ⟨tb, 0, none⟩ = some (.int .i64 x.kind) ∧ w'.cell? ⟨tb, 1, none⟩ = some (.int .i64 x.epoch) ∧ w'.cell? ⟨tb, 2, none⟩ = some (.int .i64 x.zxid) ∧ w'.cell? ⟨tb, 3, none⟩ = some (.int .i64 x.number) ∧ w'.cell? ⟨tb, 4, none⟩ = some (.int .i64 x.session) ∧ w'.cell? ⟨tb, 5, none⟩ = some (.slice x.marksA n x.marksC) ∧ w'.cell? ⟨tb, 6, none⟩ = some (.string x.data) ∧ w'.cell? ⟨tb, 7, none⟩ = some (.slice x.entsA m x.entsC)) := Lib.hid fun w' h => ⟨h.cell (blk_cell hB0 0 _ rfl) id, h.cell (blk_cell hB0 1 _ rfl) id, h.cell (blk_cell hB0 2 _ rfl) id, h.cell (blk_cell hB0 3 _ rfl) id, h.cell (blk_cell hB0 4 _ rfl) id, h.cell (blk_cell hB0 5 _ rfl) id, h.cell (blk_cell hB0 6 _ rfl) id, h.cell (blk_cell hB0 7 _ rfl) id⟩
  have HB0 := Lib.hid hB0
  have hz : tb < W.heap.size := heap_lt hB0
  clear hB0 hm
  go_region_held3 (fun w' => w'.cell? ⟨tb, 0, none⟩ = some (.int .i64 x.kind) ∧ w'.cell? ⟨tb, 1, none⟩ = some (.int .i64 x.epoch) ∧ w'.cell? ⟨tb, 2, none⟩ = some (.int .i64 x.zxid) ∧ w'.cell? ⟨tb, 3, none⟩ = some (.int .i64 x.number) ∧ w'.cell? ⟨tb, 4, none⟩ = some (.int .i64 x.session) ∧ w'.cell? ⟨tb, 5, none⟩ = some (.slice x.marksA n x.marksC) ∧ w'.cell? ⟨tb, 6, none⟩ = some (.string x.data) ∧ w'.cell? ⟨tb, 7, none⟩ = some (.slice x.entsA m x.entsC))
    (first | (refine KP.out _ ?_; with_reducible (repeat (first | exact Mod.refl _ _ | refine Mod.drew ?_ | refine Mod.drewN ?_ _ | refine Mod.alloc ?_ _ | refine Mod.back (by assumption) ?_))))
    ((first
      | (go_at_call 38; refine (C0.out _ _ ?_).mono ?_; (focus (with_reducible (repeat (first | exact heap_alloc_new _ _ | exact heap_alloc_new1 _ _ _ _ | refine heap_drewI ?_ | refine heap_drewNI ?_ | refine heap_back (by assumption) ?_ | refine heap_allocI ?_)))); rintro e v0 ⟨rfl, hM0⟩; clear C0)
      | (go_at_call 38; refine (C2.out _ (HAl.out.then (by with_reducible (repeat (first | exact Mod.refl _ _ | refine Mod.drew ?_ | refine Mod.drewN ?_ _ | refine Mod.alloc ?_ _ | refine Mod.back (by assumption) ?_))) (fun _ _ h => h))).mono ?_; rintro e v2 ⟨rfl, hM2⟩; clear C2)
      | (go_at_call 39; refine (C1.out _).mono ?_; rintro e v1 ⟨rfl, hM1⟩; clear C1)
      | (go_at_call 40; refine (C3.out _).mono ?_; rintro e v3 ⟨rfl, hM3⟩; clear C3)
      | (go_at_call 39; refine (C4.out _).mono ?_; rintro e v4 ⟨rfl, hM4⟩; clear C4)))
  all_goals
    rw [HK.out.1]
    have HM : Hid (Mod (fun _ => False) W v4) := Lib.hid (by with_reducible (repeat (first | exact Mod.refl _ _ | refine Mod.drew ?_ | refine Mod.drewN ?_ _ | refine Mod.alloc ?_ _ | refine Mod.back (by assumption) ?_)))
    clear KP hz hbd1 hbd2 hbd3 hbd4 c0 c1 c2 c3 c4 c5 c6 c7 hM0 hM1 hM2 hM3 hM4
    have c7 : v4.cell? ⟨tb, 7, none⟩ = some (.slice x.entsA m x.entsC) := HM.out.cell (blk_cell HB0.out 7 _ rfl) id
    have zt : tb < v4.heap.size := Nat.lt_of_lt_of_le (heap_lt HB0.out) HM.out.size
    go_wp2_with fail
    go_loopg [3, 4] m (fun g x_ y wr => ∃ k : Nat, k + g = m ∧ y = .int .i64 k ∧ x_ = .string ⟨(numsB [x.kind, x.epoch, x.zxid, x.number, x.session] ++ sevens n ++ numsB x.marks ++ txtB x.data ++ sevens m ++ (x.ents.take k).flatMap Ent.bytes).toArray⟩ ∧ Mod (fun _ => False) W wr)
    case atStart => exact ⟨0, by omega, rfl, by rw [List.take_zero, List.flatMap_nil, List.append_nil, ← HK.out.2], HM.out⟩
    case round =>
      obtain ⟨k, hkg, rfl, rfl, hM⟩ := hrel
      obtain ⟨D, hD⟩ : ∃ D, ByteArray.mk (numsB [x.kind, x.epoch, x.zxid, x.number, x.session] ++ sevens n ++ numsB x.marks ++ txtB x.data ++ sevens m ++ (x.ents.take k).flatMap Ent.bytes).toArray = D := ⟨_, rfl⟩
      rw [hD]
      have HD := Lib.hid hD
      have hDs : D.size = K.size + ((x.ents.take k).flatMap Ent.bytes).length := by rw [← hD, mk_size, HF.out.2.2, List.length_append]
      clear c7 zt
      have cw : wr.cell? ⟨tb, 7, none⟩ = some (.slice x.entsA m x.entsC) := hM.cell (blk_cell HB0.out 7 _ rfl) id
      have zt : tb < wr.heap.size := Nat.lt_of_lt_of_le (heap_lt HB0.out) hM.size
      have HMr := Lib.hid hM
      by_cases hlt : k < m
      · have hx : x.ents[k]? = some (x.ents[k]'(HN.out ▸ hlt)) := List.getElem?_eq_getElem _
        obtain ⟨t, hxx⟩ : ∃ x_, x.ents[k]'(HN.out ▸ hlt) = x_ := ⟨_, rfl⟩
        rw [hxx] at hx
        obtain ⟨b, o, hae, hbl, hc⟩ := ((HR.out.mod HAl.out (fun _ _ => id)).mod hM (fun _ _ => id)).elem (k := 11) Ent.cells (fun _ => rfl) (by omega) hx
        have h1 := flat_take_le Ent.bytes hx
        obtain ⟨E, hE⟩ : ∃ E, ByteArray.mk t.bytes.toArray = E := ⟨_, rfl⟩
        have hEs : E.size = t.bytes.length := by rw [← hE, mk_size]
        have hbd : ¬ 9223372036854775807 < D.size + E.size := by
          have hfo := HF.out
          simp only [List.length_append] at hfo
          omega
        have HX := Lib.hid hx
        have HE := Lib.hid hE
        have HC : Hid (∀ j u, ((Ent.cells t)[j]? = some u) → wr.cell? ((⟨b, o + k * 11, none⟩ : Addr).add j) = some u) := Lib.hid (fun j u hj => by rw [add_none]; exact hc j u hj)
        rw [hae] at cw
        have CT := Lib.hid (C5.out t (List.mem_of_getElem? hx) wr (HAl.out.then hM (fun _ _ h => h)))
        clear hx hxx hc h1 hDs hEs hE hD hM hae
        go_wp2_with ((with_reducible refine at_list ?_); refine wpList_load_chunk 11 _ Tryz.underlying39 rfl sizeEnt ⟨b, o + k * 11, none⟩ rfl t.cells rfl HC.out ?_)
        refine CT.out.mono ?_
        rintro e w2 ⟨rfl, hM2⟩
        rw [HE.out]
        go_wp2
        go_roundg (gk - 1)
        case measure => omega
        case rel =>
          refine ⟨k + 1, by omega, by simp, ?_, HMr.out.then hM2 (fun _ _ h => h)⟩
          show Value.string (D ++ E) = _
          rw [flat_take_snoc Ent.bytes HX.out, ← HD.out, ← HE.out, mk_append]
          simp only [List.append_assoc]
      · have hk : k = m := by omega
        have hfo := HF.out
        have hso := HSZ.out
        have hbd5 : ¬ 9223372036854775807 < D.size + A6.size := by
          simp only [List.length_append] at hfo
          rw [hk, List.take_of_length_le (by rw [HN.out]; exact Nat.le_refl _)] at hDs
          omega
        have hbd6 : ¬ 9223372036854775807 < D.size + A6.size + A7.size := by
          simp only [List.length_append] at hfo
          rw [hk, List.take_of_length_le (by rw [HN.out]; exact Nat.le_refl _)] at hDs
          omega
        have hlt' : ¬ (k : Int) < (m : Int) := by omega
        have HKM := Lib.hid hk
        clear hkg hk hfo hso hD hDs
        go_upto_region 6 with fail
        have d8 : wr.cell? ⟨tb, 8, none⟩ = some (.int .i64 x.q.q.kind) := hM.cell (blk_cell HB0.out 8 _ rfl) id
        have d9 : wr.cell? ⟨tb, 9, none⟩ = some (.int .i64 x.q.q.xid) := hM.cell (blk_cell HB0.out 9 _ rfl) id
        have d10 : wr.cell? ⟨tb, 10, none⟩ = some (.string x.q.q.path) := hM.cell (blk_cell HB0.out 10 _ rfl) id
        have d11 : wr.cell? ⟨tb, 11, none⟩ = some (.string x.q.q.data) := hM.cell (blk_cell HB0.out 11 _ rfl) id
        have d12 : wr.cell? ⟨tb, 12, none⟩ = some (.slice x.q.q.aclA x.q.q.acl.length x.q.q.aclC) := hM.cell (blk_cell HB0.out 12 _ rfl) id
        have d13 : wr.cell? ⟨tb, 13, none⟩ = some (.int .i64 x.q.q.flags) := hM.cell (blk_cell HB0.out 13 _ rfl) id
        have d14 : wr.cell? ⟨tb, 14, none⟩ = some (.int .i64 x.q.q.version) := hM.cell (blk_cell HB0.out 14 _ rfl) id
        have d15 : wr.cell? ⟨tb, 15, none⟩ = some (.bool x.q.q.watch) := hM.cell (blk_cell HB0.out 15 _ rfl) id
        have d16 : wr.cell? ⟨tb, 16, none⟩ = some (.slice x.q.q.subsA x.q.q.subsN x.q.q.subsC) := hM.cell (blk_cell HB0.out 16 _ rfl) id
        have d17 : wr.cell? ⟨tb, 17, none⟩ = some (.slice x.q.q.armedA x.q.q.armedN x.q.q.armedC) := hM.cell (blk_cell HB0.out 17 _ rfl) id
        have d18 : wr.cell? ⟨tb, 18, none⟩ = some (.slice x.idsA x.ids.length x.idsC) := hM.cell (blk_cell HB0.out 18 _ rfl) id
        have KQ : Hid (∀ w', Mod (fun _ => False) wr w' → w'.cell? ⟨tb, 8, none⟩ = some (.int .i64 x.q.q.kind) ∧ w'.cell? ⟨tb, 9, none⟩ = some (.int .i64 x.q.q.xid) ∧ w'.cell? ⟨tb, 10, none⟩ = some (.string x.q.q.path) ∧ w'.cell? ⟨tb, 11, none⟩ = some (.string x.q.q.data) ∧ w'.cell? ⟨tb, 12, none⟩ = some (.slice x.q.q.aclA x.q.q.acl.length x.q.q.aclC) ∧ w'.cell? ⟨tb, 13, none⟩ = some (.int .i64 x.q.q.flags) ∧ w'.cell? ⟨tb, 14, none⟩ = some (.int .i64 x.q.q.version) ∧ w'.cell? ⟨tb, 15, none⟩ = some (.bool x.q.q.watch) ∧ w'.cell? ⟨tb, 16, none⟩ = some (.slice x.q.q.subsA x.q.q.subsN x.q.q.subsC) ∧ w'.cell? ⟨tb, 17, none⟩ = some (.slice x.q.q.armedA x.q.q.armedN x.q.q.armedC) ∧ w'.cell? ⟨tb, 18, none⟩ = some (.slice x.idsA x.ids.length x.idsC)) := Lib.hid fun w' h => ⟨(hM.then h (fun _ _ h => h)).cell (blk_cell HB0.out 8 _ rfl) id, (hM.then h (fun _ _ h => h)).cell (blk_cell HB0.out 9 _ rfl) id, (hM.then h (fun _ _ h => h)).cell (blk_cell HB0.out 10 _ rfl) id, (hM.then h (fun _ _ h => h)).cell (blk_cell HB0.out 11 _ rfl) id, (hM.then h (fun _ _ h => h)).cell (blk_cell HB0.out 12 _ rfl) id, (hM.then h (fun _ _ h => h)).cell (blk_cell HB0.out 13 _ rfl) id, (hM.then h (fun _ _ h => h)).cell (blk_cell HB0.out 14 _ rfl) id, (hM.then h (fun _ _ h => h)).cell (blk_cell HB0.out 15 _ rfl) id, (hM.then h (fun _ _ h => h)).cell (blk_cell HB0.out 16 _ rfl) id, (hM.then h (fun _ _ h => h)).cell (blk_cell HB0.out 17 _ rfl) id, (hM.then h (fun _ _ h => h)).cell (blk_cell HB0.out 18 _ rfl) id⟩
        clear hM
        go_region_held3 (fun w' => w'.cell? ⟨tb, 8, none⟩ = some (.int .i64 x.q.q.kind) ∧ w'.cell? ⟨tb, 9, none⟩ = some (.int .i64 x.q.q.xid) ∧ w'.cell? ⟨tb, 10, none⟩ = some (.string x.q.q.path) ∧ w'.cell? ⟨tb, 11, none⟩ = some (.string x.q.q.data) ∧ w'.cell? ⟨tb, 12, none⟩ = some (.slice x.q.q.aclA x.q.q.acl.length x.q.q.aclC) ∧ w'.cell? ⟨tb, 13, none⟩ = some (.int .i64 x.q.q.flags) ∧ w'.cell? ⟨tb, 14, none⟩ = some (.int .i64 x.q.q.version) ∧ w'.cell? ⟨tb, 15, none⟩ = some (.bool x.q.q.watch) ∧ w'.cell? ⟨tb, 16, none⟩ = some (.slice x.q.q.subsA x.q.q.subsN x.q.q.subsC) ∧ w'.cell? ⟨tb, 17, none⟩ = some (.slice x.q.q.armedA x.q.q.armedN x.q.q.armedC) ∧ w'.cell? ⟨tb, 18, none⟩ = some (.slice x.idsA x.ids.length x.idsC))
          (first | (refine KQ.out _ ?_; with_reducible (repeat (first | exact Mod.refl _ _ | refine Mod.drew ?_ | refine Mod.drewN ?_ _ | refine Mod.alloc ?_ _ | refine Mod.back (by assumption) ?_))))
          ((first
            | (go_at_call 25; refine (C6.out _ (HAl.out.then (HMr.out.then (by with_reducible (repeat (first | exact Mod.refl _ _ | refine Mod.drew ?_ | refine Mod.drewN ?_ _ | refine Mod.alloc ?_ _ | refine Mod.back (by assumption) ?_))) (fun _ _ h => h)) (fun _ _ h => h))).mono ?_; rintro e v6 ⟨rfl, hM6⟩; clear C6)
            | (go_at_call 41; refine (C7.out _ (HAl.out.then (HMr.out.then (by with_reducible (repeat (first | exact Mod.refl _ _ | refine Mod.drew ?_ | refine Mod.drewN ?_ _ | refine Mod.alloc ?_ _ | refine Mod.back (by assumption) ?_))) (fun _ _ h => h)) (fun _ _ h => h))).mono ?_; rintro e v7 ⟨rfl, hM7⟩; clear C7)))
        all_goals
          go_wp2
          go_ret
          refine ⟨?_, HAl.out.then (HMr.out.then (by with_reducible (repeat (first | exact Mod.refl _ _ | refine Mod.drew ?_ | refine Mod.drewN ?_ _ | refine Mod.alloc ?_ _ | refine Mod.back (by assumption) ?_))) (fun _ _ h => h)) (fun _ _ h => h)⟩
          show Ending.returned (.string (D ++ A6 ++ A7)) = _
          rw [← HD.out, ← HA67.out.1, ← HA67.out.2, mk_append, mk_append, HKM.out, List.take_of_length_le (by rw [HN.out]; exact Nat.le_refl _)]
          unfold Msg.bytes
          rw [listB_int, HNN.out]
          rw [show listB Ent.bytes x.ents = sevens m ++ x.ents.flatMap Ent.bytes by unfold listB; rw [HN.out]]
          simp only [List.append_assoc]
end Go.Proofs.YtmbkbkfcbloafaaGreat
