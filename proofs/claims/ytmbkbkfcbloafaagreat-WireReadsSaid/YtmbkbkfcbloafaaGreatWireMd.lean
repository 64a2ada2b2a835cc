/-
  Messages: the document's GetMessage.
  Conditions: the bytes fit.
-/
import Derived.Test.YtmbkbkfcbloafaaGreatWireMb
import Derived.Test.YtmbkbkfcbloafaaGreatWireMc
import Derived.Test.YtmbkbkfcbloafaaGreatWireY
import Derived.Test.YtmbkbkfcbloafaaGreatWireDq
import Derived.Deep.CutBlock
import Derived.Deep.DeepCutAuto
namespace Go.Proofs.YtmbkbkfcbloafaaGreat
open Go.RowKit
set_option linter.unusedSectionVars false
set_option linter.unusedSimpArgs false
set_option linter.unusedVariables false
set_option maxRecDepth 100000

theorem LastQ.list {P : Program} {ops : Array Oper} {n : Nat} {Q : Exit → Act → World → Prop} {o : Oper} {a : Act} {w : World} (hi : ops[n]? = some o) (h : wpList P ops Q [o] a w) : LastQ P ops n Q .normal a w := by
  show wpOp P ops Q n _ a w
  unfold wpOp
  rw [hi]
  exact h
theorem sticky_qEnt (bs : List UInt8) : Sticky (qEnt bs) := (sticky_list bs (sticky_qTxn bs)).comp ((sticky_qTxn bs).comp (sticky_rs bs 3))
theorem iter_num (bs : List UInt8) (s : RS) : ∀ n, iter (qNum bs) s n = rs bs s n
  | 0 => rfl
  | n + 1 => by show qNum bs (iter (qNum bs) s n) = _; rw [iter_num bs s n]; rfl
theorem numsR_i64 {bs : List UInt8} {s : RS} (hok : s.ok bs.length) (n : Nat) : ∀ t ∈ numsR bs s n, i64 t := by
  intro t ht
  obtain ⟨i, _, rfl⟩ := List.mem_map.1 ht
  exact rv_i64 hok i
theorem St.grps {α : Type} {w0 w : World} {l : List Thing} (h : St w0 w l) (L : List α) : St w0 w (grp (L.map fun x => grp ((fun _ => []) x)) :: l) := by
  refine St.regrp _ ?_
  induction L with
  | nil => exact h
  | cons a L ih => exact ih.grp0
theorem marks_took {bs : List UInt8} {s1 s2 : RS} {n : Nat} (hn : (rcount bs 256 s1).1 = n) (hs : (rcount bs 256 s1).2 = s2) (hok : s2.ok bs.length) (hle : n ≤ 256) :
    ((∀ t ∈ numsR bs s2 n, i64 t) ∧ (numsR bs s2 n).length ≤ 256) ∧ rs bs s2 n = qList bs (qNum bs) s1 ∧ Rel bs s1 (rs bs s2 n) (listB numB (numsR bs s2 n)) := by
  refine ⟨⟨numsR_i64 hok n, by simp [numsR, hle]⟩, ?_, rel_list ?_ ?_⟩
  · unfold qList; rw [hn, hs, iter_num]
  · rw [hs]; exact rel_nums n
  · rw [hn]; simp [numsR]
theorem marks_not {bs : List UInt8} {s1 s2 : RS} (hs : (rcount bs 256 s1).2 = s2) (hw : ¬ s2.wr = 0) :
    ((∀ t ∈ ([] : List Int), i64 t) ∧ ([] : List Int).length ≤ 256) ∧ s2 = qList bs (qNum bs) s1 ∧ Rel bs s1 s2 (listB numB []) := by
  refine ⟨⟨fun _ h => absurd h List.not_mem_nil, Nat.zero_le _⟩, ?_, rel_stuck hw⟩
  unfold qList
  rw [hs]
  exact (iter_id (sticky_num bs) hw _).symm
theorem ents_took {bs : List UInt8} {s4 s5 s' : RS} {n k : Nat} {L : List Ent} (hn : (rcount bs 256 s4).1 = n) (hs : (rcount bs 256 s4).2 = s5) (hle : n ≤ 256)
    (HL : L.length = k ∧ (∀ x ∈ L, Ent.fine x) ∧ s' = iter (qEnt bs) s5 k ∧ Rel bs s5 s' (L.flatMap Ent.bytes)) (hk : k ≤ n) (hd : k = n ∨ ¬ s'.wr = 0) :
    ((∀ t ∈ L, Ent.fine t) ∧ L.length ≤ 256) ∧ s' = qList bs (qEnt bs) s4 ∧ Rel bs s4 s' (listB Ent.bytes L) := by
  refine ⟨⟨HL.2.1, by rw [HL.1]; omega⟩, ?_, ?_⟩
  · unfold qList
    rw [hn, hs]
    rcases hd with h | h
    · rw [← h]; exact HL.2.2.1
    · exact iter_stop (sticky_qEnt bs) HL.2.2.1 h hk
  · rcases hd with h | h
    · exact rel_list (by rw [hs]; exact HL.2.2.2) (by rw [HL.1, hn]; exact h)
    · exact rel_stuck h

set_option maxHeartbeats 16000000 in
theorem rGetMessage_st {w0 w : World} {l : List Thing} (S : ByteArray) (hf : bfits S.size) (h : St w0 w l) :
    Calls Tryz.prog 29 #[.string S] w (GetG Msg.cells Msg.fine Msg.things (qMsg S.data.toList) Msg.bytes Msg.zero S w0 l) := by
  obtain ⟨ip, iz, hi1, hi2, hi3, hi4, hi5⟩ := info_row infoEnt
  have HI := Lib.hid (And.intro hi1 (And.intro hi2 (And.intro hi3 (And.intro hi4 hi5))))
  have hS := (h.box1 #[.int .i64 0, .int .i64 0, .int .i64 0, .int .i64 0, .int .i64 0, .slice none 0 0, .string ⟨#[]⟩, .slice none 0 0, .int .i64 0, .int .i64 0, .string ⟨#[]⟩, .string ⟨#[]⟩, .slice none 0 0, .int .i64 0, .int .i64 0, .bool false, .slice none 0 0, .slice none 0 0, .slice none 0 0] 33).box1 #[.string S, .int .i64 0, .int .i64 0] 96
  rw [World.size_alloc] at hS
  have HF := Lib.hid hf
  clear h hf hi1 hi2 hi3 hi4 hi5
  go_enter Tryz.func29, Tryz.ntmps29
  go_wp2_with fail
  generalize (w.alloc (.cells #[.int .i64 0, .int .i64 0, .int .i64 0, .int .i64 0, .int .i64 0, .slice none 0 0, .string ⟨#[]⟩, .slice none 0 0, .int .i64 0, .int .i64 0, .string ⟨#[]⟩, .string ⟨#[]⟩, .slice none 0 0, .int .i64 0, .int .i64 0, .bool false, .slice none 0 0, .slice none 0 0, .slice none 0 0] 33)).alloc (.cells #[.string S, .int .i64 0, .int .i64 0] 96) = W at *
  generalize w.heap.size = rb at *
  have hS := hS.asDr 0 S HF.out rfl
  simp only [List.set_cons_zero] at hS
  obtain ⟨pb, hpb⟩ : ∃ pb, rb + 1 = pb := ⟨_, rfl⟩
  rw [hpb] at hS ⊢
  clear hpb
  refine (rtake_st hS 0 rfl 5 5 rfl (by omega)).mono ?_
  have hok := hS.dok 0 rfl
  have KH1 : (i64 (rv S.data.toList ⟨0, 0⟩ 0) ∧ i64 (rv S.data.toList ⟨0, 0⟩ 1) ∧ i64 (rv S.data.toList ⟨0, 0⟩ 2) ∧ i64 (rv S.data.toList ⟨0, 0⟩ 3) ∧ i64 (rv S.data.toList ⟨0, 0⟩ 4)) ∧ rs S.data.toList ⟨0, 0⟩ 5 = rs S.data.toList ⟨0, 0⟩ 5 ∧ Rel S.data.toList ⟨0, 0⟩ (rs S.data.toList ⟨0, 0⟩ 5) (numsB [rv S.data.toList ⟨0, 0⟩ 0, rv S.data.toList ⟨0, 0⟩ 1, rv S.data.toList ⟨0, 0⟩ 2, rv S.data.toList ⟨0, 0⟩ 3, rv S.data.toList ⟨0, 0⟩ 4]) := ⟨⟨rv_i64 hok 0, rv_i64 hok 1, rv_i64 hok 2, rv_i64 hok 3, rv_i64 hok 4⟩, rfl, rel_nums 5⟩
  clear hS hok
  rintro e w1 ⟨sb, rfl, hS⟩
  simp only [List.set_cons_zero] at hS
  obtain ⟨cs, hcs⟩ : ∃ x, x = ic (numsR S.data.toList ⟨0, 0⟩ 5) := ⟨_, rfl⟩
  rw [← hcs] at hS
  have g0 : cs[0]? = some (.int .i64 (rv S.data.toList ⟨0, 0⟩ 0)) := by rw [hcs]; simp [ic, numsR]
  have g1 : cs[1]? = some (.int .i64 (rv S.data.toList ⟨0, 0⟩ 1)) := by rw [hcs]; simp [ic, numsR]
  have g2 : cs[2]? = some (.int .i64 (rv S.data.toList ⟨0, 0⟩ 2)) := by rw [hcs]; simp [ic, numsR]
  have g3 : cs[3]? = some (.int .i64 (rv S.data.toList ⟨0, 0⟩ 3)) := by rw [hcs]; simp [ic, numsR]
  have g4 : cs[4]? = some (.int .i64 (rv S.data.toList ⟨0, 0⟩ 4)) := by rw [hcs]; simp [ic, numsR]
  clear hcs
  generalize rv S.data.toList ⟨0, 0⟩ 0 = v0 at g0 KH1
  generalize rv S.data.toList ⟨0, 0⟩ 1 = v1 at g1 KH1
  generalize rv S.data.toList ⟨0, 0⟩ 2 = v2 at g2 KH1
  generalize rv S.data.toList ⟨0, 0⟩ 3 = v3 at g3 KH1
  generalize rv S.data.toList ⟨0, 0⟩ 4 = v4 at g4 KH1
  obtain ⟨s1, hs1⟩ : ∃ x, x = rs S.data.toList ⟨0, 0⟩ 5 := ⟨_, rfl⟩
  rw [← hs1] at hS
  have H1 : Hid ((i64 v0 ∧ i64 v1 ∧ i64 v2 ∧ i64 v3 ∧ i64 v4) ∧ s1 = rs S.data.toList ⟨0, 0⟩ 5 ∧ Rel S.data.toList ⟨0, 0⟩ s1 (numsB [v0, v1, v2, v3, v4])) := by rw [← hs1] at KH1; exact Lib.hid ⟨KH1.1, hs1, KH1.2.2⟩
  clear hs1 KH1
  have hS : St w0 w1 (drt pb S s1 :: sl 3 1 (some ⟨sb, 0, none⟩) 5 5 cs :: bx rb #[.int .i64 0, .int .i64 0, .int .i64 0, .int .i64 0, .int .i64 0, .slice none 0 0, .string ⟨#[]⟩, .slice none 0 0, .int .i64 0, .int .i64 0, .string ⟨#[]⟩, .string ⟨#[]⟩, .slice none 0 0, .int .i64 0, .int .i64 0, .bool false, .slice none 0 0, .slice none 0 0, .slice none 0 0] 33 :: l) := hS.swap
  have e0 : w1.cell? ⟨sb, 0, none⟩ = some (.int .i64 v0) := (hS.slice 1 rfl).rd.valAt 0 g0
  have e1 : w1.cell? ⟨sb, 1, none⟩ = some (.int .i64 v1) := (hS.slice 1 rfl).rd.valAt 1 g1
  have e2 : w1.cell? ⟨sb, 2, none⟩ = some (.int .i64 v2) := (hS.slice 1 rfl).rd.valAt 2 g2
  have e3 : w1.cell? ⟨sb, 3, none⟩ = some (.int .i64 v3) := (hS.slice 1 rfl).rd.valAt 3 g3
  have e4 : w1.cell? ⟨sb, 4, none⟩ = some (.int .i64 v4) := (hS.slice 1 rfl).rd.valAt 4 g4
  have zsb := World.block_lt_of_cell? w1 _ e0
  have HS := Lib.hid hS
  clear g0 g1 g2 g3 g4 hS
  go_upto_region 3 with (fail)
  refine wp_region_last_held (n := 17) (S := fun w' => w'.cell? ⟨sb, 0, none⟩ = some (.int .i64 v0) ∧ w'.cell? ⟨sb, 1, none⟩ = some (.int .i64 v1) ∧ w'.cell? ⟨sb, 2, none⟩ = some (.int .i64 v2) ∧ w'.cell? ⟨sb, 3, none⟩ = some (.int .i64 v3) ∧ w'.cell? ⟨sb, 4, none⟩ = some (.int .i64 v4)) (by kernel_rfl) rfl (by simp only [List.pop_toArray, List.dropLast_cons_cons, List.dropLast_singleton]; rfl) (by kernel_rfl) (by kernel_rfl) ⟨e0, e1, e2, e3, e4⟩ (fun hHeld => ?_)
  refine wpAnyH_take (i := 0) (oi := _) (v := ?_) rfl (by kernel_rfl) (by kernel_rfl) (by kernel_rfl) (fun _ _ _ h => h) (Or.inl ⟨by rfl, ?_⟩) hHeld ?_
  rotate_left
  · intro wq hSw; (try dsimp only at hSw); obtain ⟨hs0, hs1, hs2, hs3, hs4⟩ := hSw; go_simp; try with_reducible rfl
  try simp only [Act.put, Nat.zero_add, List.setIfInBounds_toArray, List.set_cons_zero, List.set_cons_succ]
  refine wpAnyH_take (i := 1) (oi := _) (v := ?_) rfl (by kernel_rfl) (by kernel_rfl) (by kernel_rfl) (fun _ _ _ h => h) (Or.inl ⟨by rfl, ?_⟩) hHeld ?_
  rotate_left
  · intro wq hSw; (try dsimp only at hSw); obtain ⟨hs0, hs1, hs2, hs3, hs4⟩ := hSw; go_simp; try with_reducible rfl
  try simp only [Act.put, Nat.zero_add, List.setIfInBounds_toArray, List.set_cons_zero, List.set_cons_succ]
  refine wpAnyH_take (i := 2) (oi := _) (v := ?_) rfl (by kernel_rfl) (by kernel_rfl) (by kernel_rfl) (fun _ _ _ h => h) (Or.inl ⟨by rfl, ?_⟩) hHeld ?_
  rotate_left
  · intro wq hSw; (try dsimp only at hSw); obtain ⟨hs0, hs1, hs2, hs3, hs4⟩ := hSw; go_simp; try with_reducible rfl
  try simp only [Act.put, Nat.zero_add, List.setIfInBounds_toArray, List.set_cons_zero, List.set_cons_succ]
  refine wpAnyH_take (i := 3) (oi := _) (v := ?_) rfl (by kernel_rfl) (by kernel_rfl) (by kernel_rfl) (fun _ _ _ h => h) (Or.inl ⟨by rfl, ?_⟩) hHeld ?_
  rotate_left
  · intro wq hSw; (try dsimp only at hSw); obtain ⟨hs0, hs1, hs2, hs3, hs4⟩ := hSw; go_simp; try with_reducible rfl
  try simp only [Act.put, Nat.zero_add, List.setIfInBounds_toArray, List.set_cons_zero, List.set_cons_succ]
  refine wpAnyH_take (i := 4) (oi := _) (v := ?_) rfl (by kernel_rfl) (by kernel_rfl) (by kernel_rfl) (fun _ _ _ h => h) (Or.inl ⟨by rfl, ?_⟩) hHeld ?_
  rotate_left
  · intro wq hSw; (try dsimp only at hSw); obtain ⟨hs0, hs1, hs2, hs3, hs4⟩ := hSw; go_simp; try with_reducible rfl
  try simp only [Act.put, Nat.zero_add, List.setIfInBounds_toArray, List.set_cons_zero, List.set_cons_succ]
  refine wpAnyH_take (i := 5) (oi := _) (v := ?_) rfl (by kernel_rfl) (by kernel_rfl) (by kernel_rfl) (fun _ _ _ h => h) (Or.inl ⟨by rfl, ?_⟩) hHeld ?_
  rotate_left
  · intro wq hSw; (try dsimp only at hSw); obtain ⟨hs0, hs1, hs2, hs3, hs4⟩ := hSw; go_simp; try with_reducible rfl
  try simp only [Act.put, Nat.zero_add, List.setIfInBounds_toArray, List.set_cons_zero, List.set_cons_succ]
  refine wpAnyH_take (i := 6) (oi := _) (v := ?_) rfl (by kernel_rfl) (by kernel_rfl) (by kernel_rfl) (fun _ _ _ h => h) (Or.inl ⟨by rfl, ?_⟩) hHeld ?_
  rotate_left
  · intro wq hSw; (try dsimp only at hSw); obtain ⟨hs0, hs1, hs2, hs3, hs4⟩ := hSw; go_simp; try with_reducible rfl
  try simp only [Act.put, Nat.zero_add, List.setIfInBounds_toArray, List.set_cons_zero, List.set_cons_succ]
  refine wpAnyH_take (i := 7) (oi := _) (v := ?_) rfl (by kernel_rfl) (by kernel_rfl) (by kernel_rfl) (fun _ _ _ h => h) (Or.inl ⟨by rfl, ?_⟩) hHeld ?_
  rotate_left
  · intro wq hSw; (try dsimp only at hSw); obtain ⟨hs0, hs1, hs2, hs3, hs4⟩ := hSw; go_simp; try with_reducible rfl
  try simp only [Act.put, Nat.zero_add, List.setIfInBounds_toArray, List.set_cons_zero, List.set_cons_succ]
  refine wpAnyH_take (i := 8) (oi := _) (v := ?_) rfl (by kernel_rfl) (by kernel_rfl) (by kernel_rfl) (fun _ _ _ h => h) (Or.inl ⟨by rfl, ?_⟩) hHeld ?_
  rotate_left
  · intro wq hSw; (try dsimp only at hSw); obtain ⟨hs0, hs1, hs2, hs3, hs4⟩ := hSw; go_simp; try with_reducible rfl
  try simp only [Act.put, Nat.zero_add, List.setIfInBounds_toArray, List.set_cons_zero, List.set_cons_succ]
  refine wpAnyH_take (i := 9) (oi := _) (v := ?_) rfl (by kernel_rfl) (by kernel_rfl) (by kernel_rfl) (fun _ _ _ h => h) (Or.inl ⟨by rfl, ?_⟩) hHeld ?_
  rotate_left
  · intro wq hSw; (try dsimp only at hSw); obtain ⟨hs0, hs1, hs2, hs3, hs4⟩ := hSw; go_simp; try with_reducible rfl
  try simp only [Act.put, Nat.zero_add, List.setIfInBounds_toArray, List.set_cons_zero, List.set_cons_succ]
  refine wpAnyH_take (i := 10) (oi := _) (v := ?_) rfl (by kernel_rfl) (by kernel_rfl) (by kernel_rfl) (fun _ _ _ h => h) (Or.inl ⟨by rfl, ?_⟩) hHeld ?_
  rotate_left
  · intro wq hSw; (try dsimp only at hSw); obtain ⟨hs0, hs1, hs2, hs3, hs4⟩ := hSw; go_simp; try with_reducible rfl
  try simp only [Act.put, Nat.zero_add, List.setIfInBounds_toArray, List.set_cons_zero, List.set_cons_succ]
  refine wpAnyH_take (i := 11) (oi := _) (v := ?_) rfl (by kernel_rfl) (by kernel_rfl) (by kernel_rfl) (fun _ _ _ h => h) (Or.inl ⟨by rfl, ?_⟩) hHeld ?_
  rotate_left
  · intro wq hSw; (try dsimp only at hSw); obtain ⟨hs0, hs1, hs2, hs3, hs4⟩ := hSw; go_simp; try with_reducible rfl
  try simp only [Act.put, Nat.zero_add, List.setIfInBounds_toArray, List.set_cons_zero, List.set_cons_succ]
  refine wpAnyH_take (i := 12) (oi := _) (v := ?_) rfl (by kernel_rfl) (by kernel_rfl) (by kernel_rfl) (fun _ _ _ h => h) (Or.inl ⟨by rfl, ?_⟩) hHeld ?_
  rotate_left
  · intro wq hSw; (try dsimp only at hSw); obtain ⟨hs0, hs1, hs2, hs3, hs4⟩ := hSw; go_simp; try with_reducible rfl
  try simp only [Act.put, Nat.zero_add, List.setIfInBounds_toArray, List.set_cons_zero, List.set_cons_succ]
  refine wpAnyH_take (i := 13) (oi := _) (v := ?_) rfl (by kernel_rfl) (by kernel_rfl) (by kernel_rfl) (fun _ _ _ h => h) (Or.inl ⟨by rfl, ?_⟩) hHeld ?_
  rotate_left
  · intro wq hSw; (try dsimp only at hSw); obtain ⟨hs0, hs1, hs2, hs3, hs4⟩ := hSw; go_simp; try with_reducible rfl
  try simp only [Act.put, Nat.zero_add, List.setIfInBounds_toArray, List.set_cons_zero, List.set_cons_succ]
  refine wpAnyH_take (i := 14) (oi := _) (v := ?_) rfl (by kernel_rfl) (by kernel_rfl) (by kernel_rfl) (fun _ _ _ h => h) (Or.inl ⟨by rfl, ?_⟩) hHeld ?_
  rotate_left
  · intro wq hSw; (try dsimp only at hSw); obtain ⟨hs0, hs1, hs2, hs3, hs4⟩ := hSw; go_simp; try with_reducible rfl
  try simp only [Act.put, Nat.zero_add, List.setIfInBounds_toArray, List.set_cons_zero, List.set_cons_succ]
  refine wpAnyH_take (i := 15) (oi := _) (v := ?_) rfl (by kernel_rfl) (by kernel_rfl) (by kernel_rfl) (fun _ _ _ h => h) (Or.inl ⟨by rfl, ?_⟩) hHeld ?_
  rotate_left
  · intro wq hSw; (try dsimp only at hSw); obtain ⟨hs0, hs1, hs2, hs3, hs4⟩ := hSw; go_simp; try with_reducible rfl
  try simp only [Act.put, Nat.zero_add, List.setIfInBounds_toArray, List.set_cons_zero, List.set_cons_succ]
  refine wpAnyH_ready (rs := [16]) (by kernel_rfl) (by simp) ?_
  refine AllReadyH.cons (o := ⟨some 6, _, _, _, _, _⟩) rfl (fun K hK => ?_) AllReadyH.nil
  go_simp
  refine hK.out _ _ ⟨((Mod.refl (fun _ => False) _).alloc _).cell hHeld.1 id, ((Mod.refl (fun _ => False) _).alloc _).cell hHeld.2.1 id, ((Mod.refl (fun _ => False) _).alloc _).cell hHeld.2.2.1 id, ((Mod.refl (fun _ => False) _).alloc _).cell hHeld.2.2.2.1 id, ((Mod.refl (fun _ => False) _).alloc _).cell hHeld.2.2.2.2 id⟩ (fun hHeld => ?_)
  clear hK K
  try simp only [Act.put, Nat.zero_add, List.setIfInBounds_toArray, List.set_cons_zero, List.set_cons_succ]
  refine wpAnyH_done (by kernel_rfl) ?_ _
  refine LastQ.list rfl ?_
  have HS2 := Lib.hid (HS.out.drew.box2 #[.int .i64 0, .int .i64 0, .int .i64 0, .int .i64 0, .int .i64 0, .slice none 0 0, .string ⟨#[]⟩, .slice none 0 0, .int .i64 0, .int .i64 0, .string ⟨#[]⟩, .string ⟨#[]⟩, .slice none 0 0, .int .i64 0, .int .i64 0, .bool false, .slice none 0 0, .slice none 0 0, .slice none 0 0] 33)
  clear HS e0 e1 e2 e3 e4 hHeld zsb
  go_upto_region 4 with ((with_reducible refine at_list ?_); refine wpList_store_whole 19 sizeMsg w1.drew.heap.size rfl _ _ (HS2.out.box 1 rfl) rfl [.int .i64 v0, .int .i64 v1, .int .i64 v2, .int .i64 v3, .int .i64 v4, .slice none 0 0, .string ⟨#[]⟩, .slice none 0 0, .int .i64 0, .int .i64 0, .string ⟨#[]⟩, .string ⟨#[]⟩, .slice none 0 0, .int .i64 0, .int .i64 0, .bool false, .slice none 0 0, .slice none 0 0, .slice none 0 0] rfl rfl (by kernel_rfl) ?_; intro w2 hg2 hM2 hz2)
  have hS := HS2.out.rebox 1 rfl hg2 hM2
  simp only [List.set_cons_succ, List.set_cons_zero] at hS
  clear HS2 hg2 hM2 hz2
  have hS : St w0 w2 (drt pb S s1 :: bx w1.heap.size #[.int .i64 v0, .int .i64 v1, .int .i64 v2, .int .i64 v3, .int .i64 v4, .slice none 0 0, .string ⟨#[]⟩, .slice none 0 0, .int .i64 0, .int .i64 0, .string ⟨#[]⟩, .string ⟨#[]⟩, .slice none 0 0, .int .i64 0, .int .i64 0, .bool false, .slice none 0 0, .slice none 0 0, .slice none 0 0] 33 :: sl 3 1 (some ⟨sb, 0, none⟩) 5 5 cs :: bx rb #[.int .i64 0, .int .i64 0, .int .i64 0, .int .i64 0, .int .i64 0, .slice none 0 0, .string ⟨#[]⟩, .slice none 0 0, .int .i64 0, .int .i64 0, .string ⟨#[]⟩, .string ⟨#[]⟩, .slice none 0 0, .int .i64 0, .int .i64 0, .bool false, .slice none 0 0, .slice none 0 0, .slice none 0 0] 33 :: l) := hS
  generalize w1.heap.size = mb at *
  have hS : St w0 w2 (drt pb S s1 :: bx mb #[.int .i64 v0, .int .i64 v1, .int .i64 v2, .int .i64 v3, .int .i64 v4, .slice none 0 0, .string ⟨#[]⟩, .slice none 0 0, .int .i64 0, .int .i64 0, .string ⟨#[]⟩, .string ⟨#[]⟩, .slice none 0 0, .int .i64 0, .int .i64 0, .bool false, .slice none 0 0, .slice none 0 0, .slice none 0 0] 33 :: bx rb #[.int .i64 0, .int .i64 0, .int .i64 0, .int .i64 0, .int .i64 0, .slice none 0 0, .string ⟨#[]⟩, .slice none 0 0, .int .i64 0, .int .i64 0, .string ⟨#[]⟩, .string ⟨#[]⟩, .slice none 0 0, .int .i64 0, .int .i64 0, .bool false, .slice none 0 0, .slice none 0 0, .slice none 0 0] 33 :: l) := (hS.perm (List.perm_append_comm_assoc [_, _] [_] _)).tail
  have HS := Lib.hid hS
  clear hS
  go_wp2_with fail
  refine (rcount2_st HS.out).mono ?_
  rintro e w3 ⟨rfl, hS⟩
  have hle : (rcount S.data.toList 256 s1).1 ≤ 256 := (rcount_ok (most := 256) (HS.out.dok 0 rfl)).2
  obtain ⟨n, hn⟩ : ∃ n, (rcount S.data.toList 256 s1).1 = n := ⟨_, rfl⟩
  obtain ⟨s2, hs2⟩ : ∃ s2, (rcount S.data.toList 256 s1).2 = s2 := ⟨_, rfl⟩
  rw [hn] at hle ⊢
  rw [hs2] at hS
  clear HS
  have HN := Lib.hid hn
  have HT := Lib.hid hs2
  have HS := Lib.hid hS
  have ce := hS.dwr 0 rfl
  have ze := hS.dlt 0 rfl
  clear hn hs2 hS
  go_upto_region 5 with (fail)
  obtain ⟨z, hz⟩ : ∃ z, s2.wr = z := ⟨_, rfl⟩
  rw [hz] at ce
  have HZ := Lib.hid hz
  clear hz
  go_upto_if 37 with (fail)
  go_cut [] (fun wx => ∃ (L1 : List Int) (a1 : Option Addr) (c1 : Nat) (s3 : RS), Hid (((∀ t ∈ L1, i64 t) ∧ L1.length ≤ 256) ∧ s3 = qList S.data.toList (qNum S.data.toList) s1 ∧ Rel S.data.toList s1 s3 (listB numB L1)) ∧ St w0 wx (drt pb S s3 :: bx mb #[.int .i64 v0, .int .i64 v1, .int .i64 v2, .int .i64 v3, .int .i64 v4, .slice a1 L1.length c1, .string ⟨#[]⟩, .slice none 0 0, .int .i64 0, .int .i64 0, .string ⟨#[]⟩, .string ⟨#[]⟩, .slice none 0 0, .int .i64 0, .int .i64 0, .bool false, .slice none 0 0, .slice none 0 0, .slice none 0 0] 33 :: sl 3 1 a1 L1.length c1 (L1.flatMap intC) :: grp (L1.map fun x => grp ((fun _ => []) x)) :: bx rb #[.int .i64 0, .int .i64 0, .int .i64 0, .int .i64 0, .int .i64 0, .slice none 0 0, .string ⟨#[]⟩, .slice none 0 0, .int .i64 0, .int .i64 0, .string ⟨#[]⟩, .string ⟨#[]⟩, .slice none 0 0, .int .i64 0, .int .i64 0, .bool false, .slice none 0 0, .slice none 0 0, .slice none 0 0] 33 :: l))
  case first =>
    by_cases hw : z = 0
    · have hzb : (z == 0) = true := by simp [hw]
      clear hw
      go_wp2_with fail
      refine (rtake_st HS.out 0 rfl (n : Int) n rfl (by omega)).mono ?_
      rintro e w4 ⟨sb2, rfl, hS⟩
      simp only [List.set_cons_zero] at hS
      have hok := HS.out.dok 0 rfl
      clear ce ze HS
      have c5 := blk_cell (hS.box 2 rfl) 5 _ rfl
      have f5 := blk_free (hS.box 2 rfl) 5
      have z5 := heap_lt (hS.box 2 rfl)
      have hS := hS.set 2 rfl 5 (.slice (some ⟨sb2, 0, none⟩) n n)
      have HS := Lib.hid hS
      clear hS
      go_wp2
      go_meet
      have hl : (numsR S.data.toList s2 n).length = n := by simp [numsR]
      refine ⟨numsR S.data.toList s2 n, some ⟨sb2, 0, none⟩, n, rs S.data.toList s2 n, Lib.hid (marks_took HN.out HT.out hok hle), ?_⟩
      rw [hl, int_ic]
      have h1 := HS.out.grps (numsR S.data.toList s2 n)
      exact ((h1.perm (List.perm_append_comm_assoc [_, _] [_, _] _)).perm (.cons _ (.cons _ (.swap _ _ _))))
    · have hzb : (z == 0) = false := by simpa using hw
      have HW := Lib.hid hw
      clear hw
      go_wp2
      go_meet
      exact ⟨[], none, 0, s2, Lib.hid (marks_not HT.out (by rw [HZ.out]; exact HW.out)), St.rowStartN [_] _ HS.out 3 1⟩
  case rest =>
    clear HS ce ze HZ
    obtain ⟨L1, a1, c1, s3, H2, hS⟩ := hcut
    clear HN HT hle
    have HS := Lib.hid hS
    clear hS
    go_wp2_with fail
    refine (dtext_st HS.out 0 rfl 65536 (by omega)).mono ?_
    have hok := HS.out.dok 0 rfl
    have KH3 : (rtext S.data.toList 65536 s3).2 = qBig S.data.toList s3 ∧ Rel S.data.toList s3 (rtext S.data.toList 65536 s3).2 (txtB ⟨(rtext S.data.toList 65536 s3).1.toArray⟩) := ⟨rfl, rel_snap 65536 hok⟩
    clear hok HS
    rintro e w5 ⟨rfl, hS⟩
    simp only [List.set_cons_zero] at hS
    obtain ⟨s4, hs4⟩ : ∃ x, x = (rtext S.data.toList 65536 s3).2 := ⟨_, rfl⟩
    rw [← hs4] at hS KH3
    generalize (⟨(rtext S.data.toList 65536 s3).1.toArray⟩ : ByteArray) = d at *
    have H3 := Lib.hid KH3
    clear hs4 KH3
    have c6 := blk_cell (hS.box 1 rfl) 6 _ rfl
    have f6 := blk_free (hS.box 1 rfl) 6
    have z6 := heap_lt (hS.box 1 rfl)
    have hS := hS.set 1 rfl 6 (.string d)
    have hS : St w0 (w5.setCell ⟨mb, 6, none⟩ (.string d)) (drt pb S s4 :: bx mb #[.int .i64 v0, .int .i64 v1, .int .i64 v2, .int .i64 v3, .int .i64 v4, .slice a1 L1.length c1, .string d, .slice none 0 0, .int .i64 0, .int .i64 0, .string ⟨#[]⟩, .string ⟨#[]⟩, .slice none 0 0, .int .i64 0, .int .i64 0, .bool false, .slice none 0 0, .slice none 0 0, .slice none 0 0] 33 :: sl 3 1 a1 L1.length c1 (L1.flatMap intC) :: grp (L1.map fun x => grp ((fun _ => []) x)) :: bx rb #[.int .i64 0, .int .i64 0, .int .i64 0, .int .i64 0, .int .i64 0, .slice none 0 0, .string ⟨#[]⟩, .slice none 0 0, .int .i64 0, .int .i64 0, .string ⟨#[]⟩, .string ⟨#[]⟩, .slice none 0 0, .int .i64 0, .int .i64 0, .bool false, .slice none 0 0, .slice none 0 0, .slice none 0 0] 33 :: l) := hS
    have HS := Lib.hid hS
    clear hS
    go_wp2_with fail
    refine (rcount2_st HS.out).mono ?_
    rintro e w6 ⟨rfl, hS⟩
    have hle : (rcount S.data.toList 256 s4).1 ≤ 256 := (rcount_ok (most := 256) (HS.out.dok 0 rfl)).2
    obtain ⟨n, hn⟩ : ∃ n, (rcount S.data.toList 256 s4).1 = n := ⟨_, rfl⟩
    obtain ⟨s5, hs5⟩ : ∃ s5, (rcount S.data.toList 256 s4).2 = s5 := ⟨_, rfl⟩
    rw [hn] at hle ⊢
    rw [hs5] at hS
    clear HS c6 f6 z6
    have HN := Lib.hid hn
    have HT := Lib.hid hs5
    have hS := St.rowStartN [_] _ hS 39 11
    have hS : St w0 w6 (drt pb S s5 :: bx mb #[.int .i64 v0, .int .i64 v1, .int .i64 v2, .int .i64 v3, .int .i64 v4, .slice a1 L1.length c1, .string d, .slice none 0 0, .int .i64 0, .int .i64 0, .string ⟨#[]⟩, .string ⟨#[]⟩, .slice none 0 0, .int .i64 0, .int .i64 0, .bool false, .slice none 0 0, .slice none 0 0, .slice none 0 0] 33 :: sl 39 11 none 0 0 [] :: grp [] :: sl 3 1 a1 L1.length c1 (L1.flatMap intC) :: grp (L1.map fun x => grp ((fun _ => []) x)) :: bx rb #[.int .i64 0, .int .i64 0, .int .i64 0, .int .i64 0, .int .i64 0, .slice none 0 0, .string ⟨#[]⟩, .slice none 0 0, .int .i64 0, .int .i64 0, .string ⟨#[]⟩, .string ⟨#[]⟩, .slice none 0 0, .int .i64 0, .int .i64 0, .bool false, .slice none 0 0, .slice none 0 0, .slice none 0 0] 33 :: l) := hS
    have HS := Lib.hid hS
    clear hn hs5 hS
    go_upto_block 0 with (fail)
    go_cut [] (fun wx => ∃ (L2 : List Ent) (a2 : Option Addr) (c2 : Nat) (s6 : RS), Hid (((∀ t ∈ L2, Ent.fine t) ∧ L2.length ≤ 256) ∧ s6 = qList S.data.toList (qEnt S.data.toList) s4 ∧ Rel S.data.toList s4 s6 (listB Ent.bytes L2)) ∧ St w0 wx (drt pb S s6 :: bx mb #[.int .i64 v0, .int .i64 v1, .int .i64 v2, .int .i64 v3, .int .i64 v4, .slice a1 L1.length c1, .string d, .slice a2 L2.length c2, .int .i64 0, .int .i64 0, .string ⟨#[]⟩, .string ⟨#[]⟩, .slice none 0 0, .int .i64 0, .int .i64 0, .bool false, .slice none 0 0, .slice none 0 0, .slice none 0 0] 33 :: sl 39 11 a2 L2.length c2 (L2.flatMap Ent.cells) :: grp (L2.map fun x => grp (Ent.things x)) :: sl 3 1 a1 L1.length c1 (L1.flatMap intC) :: grp (L1.map fun x => grp ((fun _ => []) x)) :: bx rb #[.int .i64 0, .int .i64 0, .int .i64 0, .int .i64 0, .int .i64 0, .slice none 0 0, .string ⟨#[]⟩, .slice none 0 0, .int .i64 0, .int .i64 0, .string ⟨#[]⟩, .string ⟨#[]⟩, .slice none 0 0, .int .i64 0, .int .i64 0, .bool false, .slice none 0 0, .slice none 0 0, .slice none 0 0] 33 :: l))
    case first =>
      go_wp2_with fail
      go_loopg [8, 9] n (fun g y kp wr => ∃ (k : Nat) (L2 : List Ent) (a2 : Option Addr) (c2 : Nat) (s' : RS), k + g = n ∧ y = .int .i64 k ∧ Hid (L2.length = k ∧ (∀ x ∈ L2, Ent.fine x) ∧ s' = iter (qEnt S.data.toList) s5 k ∧ Rel S.data.toList s5 s' (L2.flatMap Ent.bytes)) ∧ St w0 wr (drt pb S s' :: bx mb #[.int .i64 v0, .int .i64 v1, .int .i64 v2, .int .i64 v3, .int .i64 v4, .slice a1 L1.length c1, .string d, .slice a2 k c2, .int .i64 0, .int .i64 0, .string ⟨#[]⟩, .string ⟨#[]⟩, .slice none 0 0, .int .i64 0, .int .i64 0, .bool false, .slice none 0 0, .slice none 0 0, .slice none 0 0] 33 :: sl 39 11 a2 k c2 (L2.flatMap Ent.cells) :: grp (L2.map fun x => grp (Ent.things x)) :: sl 3 1 a1 L1.length c1 (L1.flatMap intC) :: grp (L1.map fun x => grp ((fun _ => []) x)) :: bx rb #[.int .i64 0, .int .i64 0, .int .i64 0, .int .i64 0, .int .i64 0, .slice none 0 0, .string ⟨#[]⟩, .slice none 0 0, .int .i64 0, .int .i64 0, .string ⟨#[]⟩, .string ⟨#[]⟩, .slice none 0 0, .int .i64 0, .int .i64 0, .bool false, .slice none 0 0, .slice none 0 0, .slice none 0 0] 33 :: l))
      case atStart => exact ⟨0, [], none, 0, s5, by omega, rfl, Lib.hid ⟨rfl, fun _ h => absurd h List.not_mem_nil, rfl, Rel.refl⟩, HS.out⟩
      case round =>
        obtain ⟨k, L2, a2, c2, s', hkg, rfl, HL, hS⟩ := hrel
        clear HS
        have ce := hS.dwr 0 rfl
        have ze := hS.dlt 0 rfl
        by_cases hlt : k < n
        · by_cases hw : s'.wr = 0
          · rw [hw] at ce
            have HS0 := Lib.hid hS
            clear hS
            go_wp2_with fail
            refine (rTakeEntry_st HS0.out).mono ?_
            clear HS0 ce ze
            rintro e w7 ⟨t, s6, rfl, HQ, hS⟩
            have HS4 := Lib.hid (hS.box2 #[.int .i64 0, .int .i64 0, .int .i64 0, .int .i64 0, .string ⟨#[]⟩, .string ⟨#[]⟩, .slice none 0 0, .int .i64 0, .int .i64 0, .int .i64 0, .slice none 0 0] 39)
            simp only [Ent.cells]
            clear hS
            go_wp2_with (first
              | ((with_reducible refine at_list ?_); refine wpList_store_whole 11 sizeEnt w7.heap.size rfl _ _ (HS4.out.box 1 rfl) rfl [.int .i64 t.zxid, .int .i64 t.session, .int .i64 t.xid, .int .i64 t.t.kind, .string t.t.path, .string t.t.data, .slice t.t.aclA t.t.acl.length t.t.aclC, .int .i64 t.t.owner, .int .i64 t.t.number, .int .i64 t.t.err, .slice t.t.subsA t.t.subsN t.t.subsC] rfl rfl (by kernel_rfl) ?_; intro w8 hg8 hM8 hz8; have hS5 := HS4.out.rebox 1 rfl hg8 hM8; simp only [List.set_cons_succ, List.set_cons_zero] at hS5; have c7 := blk_cell (hS5.box 3 rfl) 7 _ rfl; have z7 := heap_lt (hS5.box 3 rfl); have HS5 := Lib.hid hS5; have HS6 := Lib.hid (hS5.slice1 #[.int .i64 t.zxid, .int .i64 t.session, .int .i64 t.xid, .int .i64 t.t.kind, .string t.t.path, .string t.t.data, .slice t.t.aclA t.t.acl.length t.t.aclC, .int .i64 t.t.owner, .int .i64 t.t.number, .int .i64 t.t.err, .slice t.t.subsA t.t.subsN t.t.subsC] 39 11 1 rfl (by unfold maxLen; omega)); clear hg8 hM8 hz8 hS5 HS4)
              | ((with_reducible refine at_list ?_); refine wpList_load_chunk 11 _ Tryz.underlying39 rfl sizeEnt ⟨w7.heap.size, 0, none⟩ rfl [.int .i64 t.zxid, .int .i64 t.session, .int .i64 t.xid, .int .i64 t.t.kind, .string t.t.path, .string t.t.data, .slice t.t.aclA t.t.acl.length t.t.aclC, .int .i64 t.t.owner, .int .i64 t.t.number, .int .i64 t.t.err, .slice t.t.subsA t.t.subsN t.t.subsC] rfl (box_chunk (cs := [.int .i64 t.zxid, .int .i64 t.session, .int .i64 t.xid, .int .i64 t.t.kind, .string t.t.path, .string t.t.data, .slice t.t.aclA t.t.acl.length t.t.aclC, .int .i64 t.t.owner, .int .i64 t.t.number, .int .i64 t.t.err, .slice t.t.subsA t.t.subsN t.t.subsC]) (HS5.out.box 1 rfl)) ?_)
              | (at_builtin; refine wpList_append 39 ip iz 11 136 (by kernel_rfl) HI.out.1 HI.out.2.1 HI.out.2.2.1 HI.out.2.2.2.1 HI.out.2.2.2.2 a2 k c2 (L2.flatMap Ent.cells) rfl (HS6.out.slice 5 rfl) (some ⟨w8.heap.size, 0, none⟩) 1 1 t.cells rfl (HS6.out.slice 0 rfl).rd (Ent.one t) (by unfold maxLen; omega) (by omega) ?_; intro a6 cap6 w9 hS6 hM6 hF6 hN6 hR6; have hSA := (HS6.out.regrow 5 rfl hS6 hM6 hF6).tail; have c0 := blk_cell (hSA.box 3 rfl) 7 _ rfl; have f0 := blk_free (hSA.box 3 rfl) 7; have z0 := heap_lt (hSA.box 3 rfl); have HSA := Lib.hid hSA; clear hN6 hR6 hSA hS6 hM6 hF6 c7 z7 HS6 HS5))
            go_roundg (gk - 1)
            case measure => omega
            case rel =>
              refine ⟨k + 1, L2 ++ [t], a6, cap6, s6, by omega, by simp, Lib.hid ⟨by simp [HL.out.1], list_snoc_all HL.out.2.1 HQ.out.1, (HQ.out.2.1.trans (congrArg (qEnt S.data.toList) HL.out.2.2.1)).trans (iter_succ (qEnt S.data.toList) s5 k).symm, by rw [flat_snoc]; exact HL.out.2.2.2.trans HQ.out.2.2⟩, ?_⟩
              rw [flat_snoc, List.map_append]
              have hS := HSA.out.set 3 rfl 7 (.slice a6 (k + 1) cap6)
              exact St.absorbN [_, _] _ _ hS
          · obtain ⟨zw, hzw⟩ : ∃ z, s'.wr = z := ⟨_, rfl⟩
            rw [hzw] at ce
            have hzb : (zw == 0) = false := by rw [← hzw]; simpa using hw
            have HW := Lib.hid hw
            clear hw hzw
            have HS0 := Lib.hid hS
            clear hS
            go_wp2
            go_meet
            refine ⟨L2, a2, c2, s', Lib.hid (ents_took HN.out HT.out hle HL.out (by omega) (.inr HW.out)), ?_⟩
            rw [HL.out.1]
            exact HS0.out
        · have hk : k = n := by omega
          have HK := Lib.hid hk
          clear hkg hk
          have HS0 := Lib.hid hS
          clear hS
          go_wp2
          go_meet
          refine ⟨L2, a2, c2, s', Lib.hid (ents_took HN.out HT.out hle HL.out (by rw [HK.out]; exact Nat.le_refl _) (.inl HK.out)), ?_⟩
          rw [HL.out.1]
          exact HS0.out
    case rest =>
      clear HS HN HT hle
      obtain ⟨L2, a2, c2, s6, H4, hS⟩ := hcut
      have HS := Lib.hid hS
      clear hS
      go_wp2_with fail
      refine (rTakeRequest_st HS.out).mono ?_
      clear HS
      rintro e w10 ⟨q, s7, rfl, H5, hS⟩
      have HS := Lib.hid hS
      clear hS
      simp only [Req.cells, Op.cells]
      go_upto_region 15 with ((with_reducible refine at_list ?_); refine wpList_store_chunk 10 sizeOp mb 8 rfl _ _ (HS.out.box 2 rfl) (.agg [.int .i64 q.q.kind, .int .i64 q.q.xid, .string q.q.path, .string q.q.data, .slice q.q.aclA q.q.acl.length q.q.aclC, .int .i64 q.q.flags, .int .i64 q.q.version, .bool q.q.watch, .slice q.q.subsA q.q.subsN q.q.subsC, .slice q.q.armedA q.q.armedN q.q.armedC].toArray) rfl [.int .i64 q.q.kind, .int .i64 q.q.xid, .string q.q.path, .string q.q.data, .slice q.q.aclA q.q.acl.length q.q.aclC, .int .i64 q.q.flags, .int .i64 q.q.version, .bool q.q.watch, .slice q.q.subsA q.q.subsN q.q.subsC, .slice q.q.armedA q.q.armedN q.q.armedC] rfl rfl (by show 8 + 10 ≤ 19; omega) (by intro u hu; simp only [List.mem_cons, List.not_mem_nil, or_false] at hu; rcases hu with rfl | rfl | rfl | rfl | rfl | rfl | rfl | rfl | rfl | rfl <;> rfl) ?_; intro w11 hg9 hM9 hz9)
      have hg9 : w11.heap[mb]? = some (.cells #[.int .i64 v0, .int .i64 v1, .int .i64 v2, .int .i64 v3, .int .i64 v4, .slice a1 L1.length c1, .string d, .slice a2 L2.length c2, .int .i64 q.q.kind, .int .i64 q.q.xid, .string q.q.path, .string q.q.data, .slice q.q.aclA q.q.acl.length q.q.aclC, .int .i64 q.q.flags, .int .i64 q.q.version, .bool q.q.watch, .slice q.q.subsA q.q.subsN q.q.subsC, .slice q.q.armedA q.q.armedN q.q.armedC, .slice none 0 0] 33 (0, 0)) := hg9
      have hS := HS.out.rebox 2 rfl hg9 hM9
      have hS : St w0 w11 (drt pb S s7 :: grp (Req.things q) :: bx mb #[.int .i64 v0, .int .i64 v1, .int .i64 v2, .int .i64 v3, .int .i64 v4, .slice a1 L1.length c1, .string d, .slice a2 L2.length c2, .int .i64 q.q.kind, .int .i64 q.q.xid, .string q.q.path, .string q.q.data, .slice q.q.aclA q.q.acl.length q.q.aclC, .int .i64 q.q.flags, .int .i64 q.q.version, .bool q.q.watch, .slice q.q.subsA q.q.subsN q.q.subsC, .slice q.q.armedA q.q.armedN q.q.armedC, .slice none 0 0] 33 :: sl 39 11 a2 L2.length c2 (L2.flatMap Ent.cells) :: grp (L2.map fun x => grp (Ent.things x)) :: sl 3 1 a1 L1.length c1 (L1.flatMap intC) :: grp (L1.map fun x => grp ((fun _ => []) x)) :: bx rb #[.int .i64 0, .int .i64 0, .int .i64 0, .int .i64 0, .int .i64 0, .slice none 0 0, .string ⟨#[]⟩, .slice none 0 0, .int .i64 0, .int .i64 0, .string ⟨#[]⟩, .string ⟨#[]⟩, .slice none 0 0, .int .i64 0, .int .i64 0, .bool false, .slice none 0 0, .slice none 0 0, .slice none 0 0] 33 :: l) := hS
      clear HS hg9 hM9 hz9
      have HS := Lib.hid hS
      clear hS
      go_wp2_with fail
      refine (rtakeTexts_st HS.out).mono ?_
      clear HS
      rintro e w12 ⟨L3, a3, c3, s8, rfl, H6, hS⟩
      have c18 := blk_cell (hS.box 4 rfl) 18 _ rfl
      have f18 := blk_free (hS.box 4 rfl) 18
      have z18 := heap_lt (hS.box 4 rfl)
      have hS := hS.set 4 rfl 18 (.slice a3 L3.length c3)
      have hS : St w0 (w12.setCell ⟨mb, 18, none⟩ (.slice a3 L3.length c3)) (drt pb S s8 :: sl 9 1 a3 L3.length c3 (L3.flatMap strC) :: grp (L3.map fun x => grp ((fun _ => []) x)) :: grp (Req.things q) :: bx mb #[.int .i64 v0, .int .i64 v1, .int .i64 v2, .int .i64 v3, .int .i64 v4, .slice a1 L1.length c1, .string d, .slice a2 L2.length c2, .int .i64 q.q.kind, .int .i64 q.q.xid, .string q.q.path, .string q.q.data, .slice q.q.aclA q.q.acl.length q.q.aclC, .int .i64 q.q.flags, .int .i64 q.q.version, .bool q.q.watch, .slice q.q.subsA q.q.subsN q.q.subsC, .slice q.q.armedA q.q.armedN q.q.armedC, .slice a3 L3.length c3] 33 :: sl 39 11 a2 L2.length c2 (L2.flatMap Ent.cells) :: grp (L2.map fun x => grp (Ent.things x)) :: sl 3 1 a1 L1.length c1 (L1.flatMap intC) :: grp (L1.map fun x => grp ((fun _ => []) x)) :: bx rb #[.int .i64 0, .int .i64 0, .int .i64 0, .int .i64 0, .int .i64 0, .slice none 0 0, .string ⟨#[]⟩, .slice none 0 0, .int .i64 0, .int .i64 0, .string ⟨#[]⟩, .string ⟨#[]⟩, .slice none 0 0, .int .i64 0, .int .i64 0, .bool false, .slice none 0 0, .slice none 0 0, .slice none 0 0] 33 :: l) := hS
      have HS := Lib.hid hS
      clear hS
      go_wp2_with fail
      refine (dend_st HS.out 0 rfl).mono ?_
      have hok := HS.out.dok 0 rfl
      have HOK := Lib.hid hok
      clear hok HS c18 f18 z18
      rintro e w13 ⟨rfl, hS⟩
      simp only [List.set_cons_zero] at hS
      have HS := Lib.hid hS
      clear hS
      have HQ8 : Hid (s8 = qMsg S.data.toList ⟨0, 0⟩ ∧ Rel S.data.toList ⟨0, 0⟩ s8 (Msg.bytes ⟨v0, v1, v2, v3, v4, L1, a1, c1, d, L2, a2, c2, q, L3, a3, c3⟩)) := Lib.hid ⟨by rw [H6.out.2.1, H5.out.2.1, H4.out.2.1, H3.out.1, H2.out.2.1, H1.out.2.1]; rfl, ((((H1.out.2.2.trans H2.out.2.2).trans H3.out.2).trans H4.out.2.2).trans H5.out.2.2).trans H6.out.2.2⟩
      have HFI : Hid (Msg.fine ⟨v0, v1, v2, v3, v4, L1, a1, c1, d, L2, a2, c2, q, L3, a3, c3⟩) := Lib.hid ⟨H1.out.1, H2.out.1, H4.out.1, H5.out.1, H6.out.1.2⟩
      clear H1 H2 H3 H4 H5 H6
      by_cases hq : (rend S.data.toList s8).wr = 0
      · have HQ := Lib.hid hq
        obtain ⟨z9, hz9⟩ : ∃ z, (rend S.data.toList s8).wr = z := ⟨_, rfl⟩
        rw [hz9] at hq ⊢
        subst hq
        clear hz9
        go_wp2_with (first | ((with_reducible refine at_list ?_); refine wpList_load_chunk 19 _ Tryz.underlying33 rfl sizeMsg ⟨mb, 0, none⟩ rfl [.int .i64 v0, .int .i64 v1, .int .i64 v2, .int .i64 v3, .int .i64 v4, .slice a1 L1.length c1, .string d, .slice a2 L2.length c2, .int .i64 q.q.kind, .int .i64 q.q.xid, .string q.q.path, .string q.q.data, .slice q.q.aclA q.q.acl.length q.q.aclC, .int .i64 q.q.flags, .int .i64 q.q.version, .bool q.q.watch, .slice q.q.subsA q.q.subsN q.q.subsC, .slice q.q.armedA q.q.armedN q.q.armedC, .slice a3 L3.length c3] rfl (box_chunk (cs := [.int .i64 v0, .int .i64 v1, .int .i64 v2, .int .i64 v3, .int .i64 v4, .slice a1 L1.length c1, .string d, .slice a2 L2.length c2, .int .i64 q.q.kind, .int .i64 q.q.xid, .string q.q.path, .string q.q.data, .slice q.q.aclA q.q.acl.length q.q.aclC, .int .i64 q.q.flags, .int .i64 q.q.version, .bool q.q.watch, .slice q.q.subsA q.q.subsN q.q.subsC, .slice q.q.armedA q.q.armedN q.q.armedC, .slice a3 L3.length c3]) (HS.out.box 4 rfl)) ?_) | ((with_reducible refine at_list ?_); refine wpList_store_whole 19 sizeMsg rb rfl _ _ (HS.out.box 9 rfl) rfl [.int .i64 v0, .int .i64 v1, .int .i64 v2, .int .i64 v3, .int .i64 v4, .slice a1 L1.length c1, .string d, .slice a2 L2.length c2, .int .i64 q.q.kind, .int .i64 q.q.xid, .string q.q.path, .string q.q.data, .slice q.q.aclA q.q.acl.length q.q.aclC, .int .i64 q.q.flags, .int .i64 q.q.version, .bool q.q.watch, .slice q.q.subsA q.q.subsN q.q.subsC, .slice q.q.armedA q.q.armedN q.q.armedC, .slice a3 L3.length c3] rfl rfl (by kernel_rfl) ?_; intro w14 hg5 hM5 hz5))
        refine bodyPost_ret (results_cell_tmp rfl _ w14 rb _ _ _ _ rfl hg5 Tryz.underlying33 rfl sizeMsg) rfl ?_
        refine ⟨⟨v0, v1, v2, v3, v4, L1, a1, c1, d, L2, a2, c2, q, L3, a3, c3⟩, 0, rfl, Lib.hid ⟨HFI.out, .inl ⟨rfl, by rw [← HQ8.out.1]; exact HQ.out, rel_start HQ8.out.2 HOK.out HQ.out⟩⟩, ?_⟩
        have hS := (HS.out.rebox 9 rfl hg5 hM5).tail
        have h1 := (hS.perm (List.perm_append_comm_assoc [_, _, _] [_] _)).tail
        exact (St.regrp (Msg.things ⟨v0, v1, v2, v3, v4, L1, a1, c1, d, L2, a2, c2, q, L3, a3, c3⟩) h1).tail2
      · have hb : ((rend S.data.toList s8).wr == 0) = false := by simpa using hq
        have hb2 : ((rend S.data.toList s8).wr != 0) = true := by simpa using hq
        have HQ := Lib.hid hq
        clear hq
        generalize (rend S.data.toList s8).wr = z9 at hb hb2 ⊢
        go_wp2_with ((with_reducible refine at_list ?_); refine wpList_store_whole 19 sizeMsg rb rfl _ _ (HS.out.box 9 rfl) rfl Msg.zero.cells rfl rfl (by kernel_rfl) ?_; intro w14 hg5 hM5 hz5)
        refine bodyPost_ret (results_cell_tmp rfl _ w14 rb _ _ _ _ rfl hg5 Tryz.underlying33 rfl sizeMsg) rfl ?_
        exact ⟨Msg.zero, 120, rfl, Lib.hid ⟨Msg.zero_fine, .inr ⟨rfl, by rw [← HQ8.out.1]; exact HQ.out, rfl⟩⟩, Msg.zero_st (HS.out.rebox 9 rfl hg5 hM5).tail.tail.tail.tail.tail.tail.tail.tail.tail.tail⟩
end Go.Proofs.YtmbkbkfcbloafaaGreat
