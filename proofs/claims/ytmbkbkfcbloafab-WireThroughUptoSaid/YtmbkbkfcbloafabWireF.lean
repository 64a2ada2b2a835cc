/-
  Events, hellos, notes taken up by package wire.
  No condition: every law states its own.
-/
import Derived.Test.YtmbkbkfcbloafabJwire
namespace Go.Proofs.Ytmbkbkfcbloafab
open Go.RowKit
set_option linter.unusedSectionVars false
set_option linter.unusedSimpArgs false
set_option linter.unusedVariables false
set_option maxRecDepth 100000

def evR (bs : List UInt8) (s : RS) : Ev × RS :=
  let a := rnum bs s
  let b := rtext bs 4096 a.2
  let c := rnum bs b.2
  (⟨a.1, ⟨b.1.toArray⟩, c.1⟩, c.2)
def heR (bs : List UInt8) (s : RS) : He × RS :=
  let t := rtext bs 4096 (rs bs s 3)
  (⟨rv bs s 0, rv bs s 1, rv bs s 2, ⟨t.1.toArray⟩⟩, t.2)
def noR (bs : List UInt8) (s : RS) : No × RS := (⟨rv bs s 0, rv bs s 1, rv bs s 2, rv bs s 3, rv bs s 4, rv bs s 5⟩, rs bs s 6)

theorem sizeEv : (Try.prog.info? 57).map (·.size) = some 3 := by kernel_rfl
theorem sizeHe : (Try.prog.info? 61).map (·.size) = some 4 := by kernel_rfl
theorem sizeNo : (Try.prog.info? 65).map (·.size) = some 6 := by kernel_rfl

theorem box_chunk {w : World} {pb : Nat} {cs : List Value} {T : TypeId} (h : w.heap[pb]? = some (.cells cs.toArray T (0, 0))) : ∀ j u, cs[j]? = some u → w.cell? ((⟨pb, 0, none⟩ : Addr).add j) = some u := by
  intro j u hj
  have e : (⟨pb, 0, none⟩ : Addr).add j = ⟨pb, j, none⟩ := by
    unfold Addr.add
    simp only [Nat.zero_add]
    split
    · next h0 => subst h0; rfl
    · rfl
  rw [e]
  exact blk_cell h j u (by simpa using hj)

set_option maxHeartbeats 2000000 in
theorem takeEvent_st {w0 w : World} {l : List Thing} {pb : Nat} {bs : List UInt8} {s : RS} (h : St w0 w (rdt pb bs s :: l)) :
    Calls Try.prog 34 #[.pointer (some ⟨pb, 0, none⟩)] w (StPost (.agg (evR bs s).1.cells.toArray) w0 (rdt pb bs (evR bs s).2 :: l)) := by
  have hS := (h.box1 #[.int .i64 0, .string ⟨#[]⟩, .int .i64 0] 57).box1 #[.int .i64 0, .string ⟨#[]⟩, .int .i64 0] 57
  rw [World.size_alloc] at hS
  clear h
  go_enter Try.func34, Try.ntmps34
  go_wp2_with fail
  generalize (w.alloc (.cells #[.int .i64 0, .string ⟨#[]⟩, .int .i64 0] 57)).alloc (.cells #[.int .i64 0, .string ⟨#[]⟩, .int .i64 0] 57) = W at *
  generalize w.heap.size = rb at *
  refine (rnum_st hS 2 rfl).mono ?_
  clear hS
  rintro e w1 ⟨rfl, hS⟩
  simp only [List.set_cons_succ, List.set_cons_zero] at hS
  have c0 := blk_cell (hS.box 0 rfl) 0 _ rfl
  have f0 := blk_free (hS.box 0 rfl) 0
  have z0 := heap_lt (hS.box 0 rfl)
  go_wp2_with fail
  refine (wtxt_st (hS.set 0 rfl 0 _) 2 rfl).mono ?_
  clear hS c0 f0 z0
  rintro e w2 ⟨rfl, hS⟩
  simp only [List.set_cons_succ, List.set_cons_zero] at hS
  have c0 := blk_cell (hS.box 0 rfl) 1 _ rfl
  have f0 := blk_free (hS.box 0 rfl) 1
  have z0 := heap_lt (hS.box 0 rfl)
  go_wp2_with fail
  refine (rnum_st (hS.set 0 rfl 1 _) 2 rfl).mono ?_
  clear hS c0 f0 z0
  rintro e w3 ⟨rfl, hS⟩
  simp only [List.set_cons_succ, List.set_cons_zero] at hS
  have c0 := blk_cell (hS.box 0 rfl) 2 _ rfl
  have f0 := blk_free (hS.box 0 rfl) 2
  have z0 := heap_lt (hS.box 0 rfl)
  have hS2 := hS.set 0 rfl 2 (.int .i64 (rnum bs (rtext bs 4096 (rnum bs s).2).2).1)
  simp only [List.set_cons_succ, List.set_cons_zero] at hS2
  generalize hW : w3.setCell ⟨rb + 1, 2, none⟩ (.int .i64 (rnum bs (rtext bs 4096 (rnum bs s).2).2).1) = W3 at hS2
  have hS2 : St w0 W3 (bx (rb + 1) (evR bs s).1.cells.toArray 57 :: bx rb #[.int .i64 0, .string ⟨#[]⟩, .int .i64 0] 57 :: rdt pb bs (evR bs s).2 :: l) := hS2
  subst hW
  have z1 := heap_lt (hS2.box 1 rfl)
  go_wp2_with (first | ((with_reducible refine at_list ?_); refine wpList_load_chunk 3 _ Try.underlying57 rfl sizeEv ⟨rb + 1, 0, none⟩ rfl (evR bs s).1.cells rfl (box_chunk (hS2.box 0 rfl)) ?_) | (refine wpList_store_whole 3 sizeEv rb rfl _ _ (hS2.box 1 rfl) rfl (evR bs s).1.cells rfl rfl (by kernel_rfl) ?_; intro w4 hg4 hM4 hz4))
  refine bodyPost_ret (results_cell rfl _ w4 rb _ _ _ _ rfl hg4 Try.underlying57 rfl sizeEv) rfl ?_
  exact ⟨rfl, (hS2.rebox 1 rfl hg4 hM4).tail.tail⟩
-- more (printed by mkwiref.py)

set_option maxHeartbeats 2000000 in
theorem takeHello_st {w0 w : World} {l : List Thing} {pb : Nat} {bs : List UInt8} {s : RS} (h : St w0 w (rdt pb bs s :: l)) :
    Calls Try.prog 36 #[.pointer (some ⟨pb, 0, none⟩)] w (StPost (.agg (heR bs s).1.cells.toArray) w0 (rdt pb bs (heR bs s).2 :: l)) := by
  have hS := (h.box1 #[.int .i64 0, .int .i64 0, .int .i64 0, .string ⟨#[]⟩] 61).box1 #[.int .i64 0, .int .i64 0, .int .i64 0, .string ⟨#[]⟩] 61
  rw [World.size_alloc] at hS
  have hz0 : ((w.alloc (.cells #[.int .i64 0, .int .i64 0, .int .i64 0, .string ⟨#[]⟩] 61)).alloc (.cells #[.int .i64 0, .int .i64 0, .int .i64 0, .string ⟨#[]⟩] 61)).heap.size = w.heap.size + 1 + 1 := by rw [World.size_alloc, World.size_alloc]
  clear h
  go_enter Try.func36, Try.ntmps36
  go_wp2_with fail
  generalize (w.alloc (.cells #[.int .i64 0, .int .i64 0, .int .i64 0, .string ⟨#[]⟩] 61)).alloc (.cells #[.int .i64 0, .int .i64 0, .int .i64 0, .string ⟨#[]⟩] 61) = W at *
  generalize w.heap.size = rb at *
  have hS := (hS.slice1 #[.pointer (some ⟨rb + 1, 0, none⟩), .pointer (some ⟨rb + 1, 1, none⟩), .pointer (some ⟨rb + 1, 2, none⟩)] 118 1 3 rfl (by unfold maxLen; omega)).perm (List.perm_append_comm_assoc [_, _, _] [_] l)
  rw [hz0] at hS
  refine (into_st (l := bx rb #[.int .i64 0, .int .i64 0, .int .i64 0, .string ⟨#[]⟩] 61 :: l) [⟨rb + 1, #[.int .i64 0, .int .i64 0, .int .i64 0, .string ⟨#[]⟩], 61⟩] [(0, 0), (0, 1), (0, 2)] hS rfl (by intro p hp; simp only [List.mem_cons, List.not_mem_nil, or_false] at hp; refine ⟨⟨rb + 1, #[.int .i64 0, .int .i64 0, .int .i64 0, .string ⟨#[]⟩], 61⟩, ?_⟩; rcases hp with rfl | rfl | rfl <;> simp) (by omega)).mono ?_
  clear hS hz0
  rintro e w1 ⟨rfl, hS⟩
  have hS : St w0 w1 (rdt pb bs (rs bs s 3) :: sl 118 1 (some ⟨rb + 1 + 1, 0, none⟩) 3 3 [.pointer (some ⟨rb + 1, 0, none⟩), .pointer (some ⟨rb + 1, 1, none⟩), .pointer (some ⟨rb + 1, 2, none⟩)] :: bx (rb + 1) #[.int .i64 (rv bs s 0), .int .i64 (rv bs s 1), .int .i64 (rv bs s 2), .string ⟨#[]⟩] 61 :: bx rb #[.int .i64 0, .int .i64 0, .int .i64 0, .string ⟨#[]⟩] 61 :: l) := hS
  go_wp2_with fail
  refine (wtxt_st hS 0 rfl).mono ?_
  clear hS
  rintro e w2 ⟨rfl, hS⟩
  simp only [List.set_cons_succ, List.set_cons_zero] at hS
  have c0 := blk_cell (hS.box 2 rfl) 3 _ rfl
  have f0 := blk_free (hS.box 2 rfl) 3
  have z0 := heap_lt (hS.box 2 rfl)
  have hS2 := hS.set 2 rfl 3 (.string ⟨(rtext bs 4096 (rs bs s 3)).1.toArray⟩)
  simp only [List.set_cons_succ, List.set_cons_zero] at hS2
  generalize hW : w2.setCell ⟨rb + 1, 3, none⟩ (.string ⟨(rtext bs 4096 (rs bs s 3)).1.toArray⟩) = W3 at hS2
  have hS2 : St w0 W3 (rdt pb bs (heR bs s).2 :: sl 118 1 (some ⟨rb + 1 + 1, 0, none⟩) 3 3 [.pointer (some ⟨rb + 1, 0, none⟩), .pointer (some ⟨rb + 1, 1, none⟩), .pointer (some ⟨rb + 1, 2, none⟩)] :: bx (rb + 1) (heR bs s).1.cells.toArray 61 :: bx rb #[.int .i64 0, .int .i64 0, .int .i64 0, .string ⟨#[]⟩] 61 :: l) := hS2
  subst hW
  have z1 := heap_lt (hS2.box 3 rfl)
  go_wp2_with (first | ((with_reducible refine at_list ?_); refine wpList_load_chunk 4 _ Try.underlying61 rfl sizeHe ⟨rb + 1, 0, none⟩ rfl (heR bs s).1.cells rfl (box_chunk (hS2.box 2 rfl)) ?_) | (refine wpList_store_whole 4 sizeHe rb rfl _ _ (hS2.box 3 rfl) rfl (heR bs s).1.cells rfl rfl (by kernel_rfl) ?_; intro w4 hg4 hM4 hz4))
  refine bodyPost_ret (results_cell rfl _ w4 rb _ _ _ _ rfl hg4 Try.underlying61 rfl sizeHe) rfl ?_
  exact ⟨rfl, ((hS2.rebox 3 rfl hg4 hM4).perm (List.perm_append_comm_assoc [_] [_, _, _] l)).tail.tail.tail⟩

set_option maxHeartbeats 2000000 in
theorem takeNote_st {w0 w : World} {l : List Thing} {pb : Nat} {bs : List UInt8} {s : RS} (h : St w0 w (rdt pb bs s :: l)) :
    Calls Try.prog 38 #[.pointer (some ⟨pb, 0, none⟩)] w (StPost (.agg (noR bs s).1.cells.toArray) w0 (rdt pb bs (noR bs s).2 :: l)) := by
  have hS := (h.box1 #[.int .i64 0, .int .i64 0, .int .i64 0, .int .i64 0, .int .i64 0, .int .i64 0] 65).box1 #[.int .i64 0, .int .i64 0, .int .i64 0, .int .i64 0, .int .i64 0, .int .i64 0] 65
  rw [World.size_alloc] at hS
  have hz0 : ((w.alloc (.cells #[.int .i64 0, .int .i64 0, .int .i64 0, .int .i64 0, .int .i64 0, .int .i64 0] 65)).alloc (.cells #[.int .i64 0, .int .i64 0, .int .i64 0, .int .i64 0, .int .i64 0, .int .i64 0] 65)).heap.size = w.heap.size + 1 + 1 := by rw [World.size_alloc, World.size_alloc]
  clear h
  go_enter Try.func38, Try.ntmps38
  go_wp2_with fail
  generalize (w.alloc (.cells #[.int .i64 0, .int .i64 0, .int .i64 0, .int .i64 0, .int .i64 0, .int .i64 0] 65)).alloc (.cells #[.int .i64 0, .int .i64 0, .int .i64 0, .int .i64 0, .int .i64 0, .int .i64 0] 65) = W at *
  generalize w.heap.size = rb at *
  have hS := (hS.slice1 #[.pointer (some ⟨rb + 1, 0, none⟩), .pointer (some ⟨rb + 1, 1, none⟩), .pointer (some ⟨rb + 1, 2, none⟩), .pointer (some ⟨rb + 1, 3, none⟩), .pointer (some ⟨rb + 1, 4, none⟩), .pointer (some ⟨rb + 1, 5, none⟩)] 118 1 6 rfl (by unfold maxLen; omega)).perm (List.perm_append_comm_assoc [_, _, _] [_] l)
  rw [hz0] at hS
  refine (into_st (l := bx rb #[.int .i64 0, .int .i64 0, .int .i64 0, .int .i64 0, .int .i64 0, .int .i64 0] 65 :: l) [⟨rb + 1, #[.int .i64 0, .int .i64 0, .int .i64 0, .int .i64 0, .int .i64 0, .int .i64 0], 65⟩] [(0, 0), (0, 1), (0, 2), (0, 3), (0, 4), (0, 5)] hS rfl (by intro p hp; simp only [List.mem_cons, List.not_mem_nil, or_false] at hp; refine ⟨⟨rb + 1, #[.int .i64 0, .int .i64 0, .int .i64 0, .int .i64 0, .int .i64 0, .int .i64 0], 65⟩, ?_⟩; rcases hp with rfl | rfl | rfl | rfl | rfl | rfl <;> simp) (by omega)).mono ?_
  clear hS hz0
  rintro e w1 ⟨rfl, hS⟩
  have hS : St w0 w1 (rdt pb bs (rs bs s 6) :: sl 118 1 (some ⟨rb + 1 + 1, 0, none⟩) 6 6 [.pointer (some ⟨rb + 1, 0, none⟩), .pointer (some ⟨rb + 1, 1, none⟩), .pointer (some ⟨rb + 1, 2, none⟩), .pointer (some ⟨rb + 1, 3, none⟩), .pointer (some ⟨rb + 1, 4, none⟩), .pointer (some ⟨rb + 1, 5, none⟩)] :: bx (rb + 1) #[.int .i64 (rv bs s 0), .int .i64 (rv bs s 1), .int .i64 (rv bs s 2), .int .i64 (rv bs s 3), .int .i64 (rv bs s 4), .int .i64 (rv bs s 5)] 65 :: bx rb #[.int .i64 0, .int .i64 0, .int .i64 0, .int .i64 0, .int .i64 0, .int .i64 0] 65 :: l) := hS
  have hS2 : St w0 w1 (rdt pb bs (noR bs s).2 :: sl 118 1 (some ⟨rb + 1 + 1, 0, none⟩) 6 6 [.pointer (some ⟨rb + 1, 0, none⟩), .pointer (some ⟨rb + 1, 1, none⟩), .pointer (some ⟨rb + 1, 2, none⟩), .pointer (some ⟨rb + 1, 3, none⟩), .pointer (some ⟨rb + 1, 4, none⟩), .pointer (some ⟨rb + 1, 5, none⟩)] :: bx (rb + 1) (noR bs s).1.cells.toArray 65 :: bx rb #[.int .i64 0, .int .i64 0, .int .i64 0, .int .i64 0, .int .i64 0, .int .i64 0] 65 :: l) := hS
  have z1 := heap_lt (hS2.box 3 rfl)
  go_wp2_with (first | ((with_reducible refine at_list ?_); refine wpList_load_chunk 6 _ Try.underlying65 rfl sizeNo ⟨rb + 1, 0, none⟩ rfl (noR bs s).1.cells rfl (box_chunk (hS2.box 2 rfl)) ?_) | (refine wpList_store_whole 6 sizeNo rb rfl _ _ (hS2.box 3 rfl) rfl (noR bs s).1.cells rfl rfl (by kernel_rfl) ?_; intro w4 hg4 hM4 hz4))
  refine bodyPost_ret (results_cell rfl _ w4 rb _ _ _ _ rfl hg4 Try.underlying65 rfl sizeNo) rfl ?_
  exact ⟨rfl, ((hS2.rebox 3 rfl hg4 hM4).perm (List.perm_append_comm_assoc [_] [_, _, _] l)).tail.tail.tail⟩
end Go.Proofs.Ytmbkbkfcbloafab
