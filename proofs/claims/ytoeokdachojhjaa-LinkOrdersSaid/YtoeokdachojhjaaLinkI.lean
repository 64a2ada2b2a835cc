/-
  The program's link: Hear.
  Conditions: what is kept is ahead and not far ('ok').
-/
import Derived.Test.YtoeokdachojhjaaLinkJ
namespace Go.Proofs.Ytoeokdachojhjaa
open Go.RowKit
set_option linter.unusedSectionVars false
set_option linter.unusedSimpArgs false
set_option linter.unusedVariables false

theorem Lk.not_deaf {L : Lk} {p : Pk} (h : L.deaf p = false) : L.over = false ∧ (p.a != L.peer) = false ∧ (p.b != L.me) = false ∧ (p.c != 2) = false ∧ decide (p.d < 1) = false := by
  unfold Lk.deaf at h
  revert h
  generalize L.over = a
  generalize (p.a != L.peer) = b
  generalize (p.b != L.me) = c
  generalize (p.c != 2) = d
  generalize decide (p.d < 1) = e
  cases a <;> cases b <;> cases c <;> cases d <;> cases e <;> simp

set_option maxRecDepth 100000 in
set_option maxHeartbeats 4000000 in
theorem lHear_d0 {w0 w : World} {pb : Nat} {L : Lk} {l : List Thing} (h : St w0 w (lk pb L :: l)) (p : Pk) (h0 : L.over = true) :
    Calls Try.prog 17 #[.pointer (some ⟨pb, 0, none⟩), p.agg] w (StTexts w0 (L.heard p) (L.ends p) (lk pb (L.hear p) :: l)) := by
  simp only [Pk.agg]
  have hT : HearSt w0 w.heap.size pb p L l (w.alloc (.cells p.cells.toArray 41)) := by
    obtain ⟨a, cap, mb, hS⟩ := h.unlk
    exact ⟨a, cap, mb, hS.box1 p.cells.toArray 41⟩
  have HT := Lib.hid hT
  clear h hT
  go_enter Try.func17, Try.ntmps17
  have HD : Hid (L.deaf p = true) := by show _ = _; simp only [Lk.deaf, h0, Bool.true_or, Bool.or_true, Bool.false_or, Bool.or_false]
  go_upto_region 1 with (fail)
  change Code.wp _ _ _ _ (w.alloc (.cells p.cells.toArray 41))
  generalize w.alloc (.cells p.cells.toArray 41) = W at HT ⊢
  generalize w.heap.size = tb at HT ⊢
  obtain ⟨a, cap, mb, hS⟩ := HT.out
  have hbp := hS.box 1 rfl
  have hpk := hS.box 0 rfl
  have c3 := blk_cell hbp 3 (.int .i64 L.me) rfl
  have c4 := blk_cell hbp 4 (.int .i64 L.peer) rfl
  have c10 := blk_cell hbp 10 (.bool L.over) rfl
  have p0 := blk_cell hpk 0 (.int .i64 p.a) rfl
  have p1 := blk_cell hpk 1 (.int .i64 p.b) rfl
  have p2 := blk_cell hpk 2 (.int .i64 p.c) rfl
  have p3 := blk_cell hpk 3 (.int .i64 p.d) rfl
  have hpb := heap_lt hbp
  have htb := heap_lt hpk
  clear hS hbp hpk
  rw [h0] at c10
  clear h0
  go_quiet (fail)
  go_wp2
  go_ret2
  have hd := HD.out
  unfold Lk.heard Lk.ends Lk.hear
  rw [if_pos hd, if_pos hd, if_pos hd]
  exact ⟨none, 0, rfl, (HT.out.link.drewN _).nilSlice _ _⟩

set_option maxRecDepth 100000 in
set_option maxHeartbeats 4000000 in
theorem lHear_d1 {w0 w : World} {pb : Nat} {L : Lk} {l : List Thing} (h : St w0 w (lk pb L :: l)) (p : Pk) (h0 : L.over = false) (h1 : (p.a != L.peer) = true) :
    Calls Try.prog 17 #[.pointer (some ⟨pb, 0, none⟩), p.agg] w (StTexts w0 (L.heard p) (L.ends p) (lk pb (L.hear p) :: l)) := by
  simp only [Pk.agg]
  have hT : HearSt w0 w.heap.size pb p L l (w.alloc (.cells p.cells.toArray 41)) := by
    obtain ⟨a, cap, mb, hS⟩ := h.unlk
    exact ⟨a, cap, mb, hS.box1 p.cells.toArray 41⟩
  have HT := Lib.hid hT
  clear h hT
  go_enter Try.func17, Try.ntmps17
  have HD : Hid (L.deaf p = true) := by show _ = _; simp only [Lk.deaf, h0, h1, Bool.true_or, Bool.or_true, Bool.false_or, Bool.or_false]
  go_upto_region 1 with (fail)
  change Code.wp _ _ _ _ (w.alloc (.cells p.cells.toArray 41))
  generalize w.alloc (.cells p.cells.toArray 41) = W at HT ⊢
  generalize w.heap.size = tb at HT ⊢
  obtain ⟨a, cap, mb, hS⟩ := HT.out
  have hbp := hS.box 1 rfl
  have hpk := hS.box 0 rfl
  have c3 := blk_cell hbp 3 (.int .i64 L.me) rfl
  have c4 := blk_cell hbp 4 (.int .i64 L.peer) rfl
  have c10 := blk_cell hbp 10 (.bool L.over) rfl
  have p0 := blk_cell hpk 0 (.int .i64 p.a) rfl
  have p1 := blk_cell hpk 1 (.int .i64 p.b) rfl
  have p2 := blk_cell hpk 2 (.int .i64 p.c) rfl
  have p3 := blk_cell hpk 3 (.int .i64 p.d) rfl
  have hpb := heap_lt hbp
  have htb := heap_lt hpk
  clear hS hbp hpk
  rw [h0] at c10
  clear h0
  go_quiet (fail)
  go_wp2
  go_ret2
  have hd := HD.out
  unfold Lk.heard Lk.ends Lk.hear
  rw [if_pos hd, if_pos hd, if_pos hd]
  exact ⟨none, 0, rfl, (HT.out.link.drewN _).nilSlice _ _⟩

set_option maxRecDepth 100000 in
set_option maxHeartbeats 4000000 in
theorem lHear_d2 {w0 w : World} {pb : Nat} {L : Lk} {l : List Thing} (h : St w0 w (lk pb L :: l)) (p : Pk) (h0 : L.over = false) (h1 : (p.a != L.peer) = false) (h2 : (p.b != L.me) = true) :
    Calls Try.prog 17 #[.pointer (some ⟨pb, 0, none⟩), p.agg] w (StTexts w0 (L.heard p) (L.ends p) (lk pb (L.hear p) :: l)) := by
  simp only [Pk.agg]
  have hT : HearSt w0 w.heap.size pb p L l (w.alloc (.cells p.cells.toArray 41)) := by
    obtain ⟨a, cap, mb, hS⟩ := h.unlk
    exact ⟨a, cap, mb, hS.box1 p.cells.toArray 41⟩
  have HT := Lib.hid hT
  clear h hT
  go_enter Try.func17, Try.ntmps17
  have HD : Hid (L.deaf p = true) := by show _ = _; simp only [Lk.deaf, h0, h1, h2, Bool.true_or, Bool.or_true, Bool.false_or, Bool.or_false]
  go_upto_region 1 with (fail)
  change Code.wp _ _ _ _ (w.alloc (.cells p.cells.toArray 41))
  generalize w.alloc (.cells p.cells.toArray 41) = W at HT ⊢
  generalize w.heap.size = tb at HT ⊢
  obtain ⟨a, cap, mb, hS⟩ := HT.out
  have hbp := hS.box 1 rfl
  have hpk := hS.box 0 rfl
  have c3 := blk_cell hbp 3 (.int .i64 L.me) rfl
  have c4 := blk_cell hbp 4 (.int .i64 L.peer) rfl
  have c10 := blk_cell hbp 10 (.bool L.over) rfl
  have p0 := blk_cell hpk 0 (.int .i64 p.a) rfl
  have p1 := blk_cell hpk 1 (.int .i64 p.b) rfl
  have p2 := blk_cell hpk 2 (.int .i64 p.c) rfl
  have p3 := blk_cell hpk 3 (.int .i64 p.d) rfl
  have hpb := heap_lt hbp
  have htb := heap_lt hpk
  clear hS hbp hpk
  rw [h0] at c10
  clear h0
  go_quiet (fail)
  go_wp2
  go_ret2
  have hd := HD.out
  unfold Lk.heard Lk.ends Lk.hear
  rw [if_pos hd, if_pos hd, if_pos hd]
  exact ⟨none, 0, rfl, (HT.out.link.drewN _).nilSlice _ _⟩

set_option maxRecDepth 100000 in
set_option maxHeartbeats 4000000 in
theorem lHear_d3 {w0 w : World} {pb : Nat} {L : Lk} {l : List Thing} (h : St w0 w (lk pb L :: l)) (p : Pk) (h0 : L.over = false) (h1 : (p.a != L.peer) = false) (h2 : (p.b != L.me) = false) (h3 : (p.c != 2) = true) :
    Calls Try.prog 17 #[.pointer (some ⟨pb, 0, none⟩), p.agg] w (StTexts w0 (L.heard p) (L.ends p) (lk pb (L.hear p) :: l)) := by
  simp only [Pk.agg]
  have hT : HearSt w0 w.heap.size pb p L l (w.alloc (.cells p.cells.toArray 41)) := by
    obtain ⟨a, cap, mb, hS⟩ := h.unlk
    exact ⟨a, cap, mb, hS.box1 p.cells.toArray 41⟩
  have HT := Lib.hid hT
  clear h hT
  go_enter Try.func17, Try.ntmps17
  have HD : Hid (L.deaf p = true) := by show _ = _; simp only [Lk.deaf, h0, h1, h2, h3, Bool.true_or, Bool.or_true, Bool.false_or, Bool.or_false]
  go_upto_region 1 with (fail)
  change Code.wp _ _ _ _ (w.alloc (.cells p.cells.toArray 41))
  generalize w.alloc (.cells p.cells.toArray 41) = W at HT ⊢
  generalize w.heap.size = tb at HT ⊢
  obtain ⟨a, cap, mb, hS⟩ := HT.out
  have hbp := hS.box 1 rfl
  have hpk := hS.box 0 rfl
  have c3 := blk_cell hbp 3 (.int .i64 L.me) rfl
  have c4 := blk_cell hbp 4 (.int .i64 L.peer) rfl
  have c10 := blk_cell hbp 10 (.bool L.over) rfl
  have p0 := blk_cell hpk 0 (.int .i64 p.a) rfl
  have p1 := blk_cell hpk 1 (.int .i64 p.b) rfl
  have p2 := blk_cell hpk 2 (.int .i64 p.c) rfl
  have p3 := blk_cell hpk 3 (.int .i64 p.d) rfl
  have hpb := heap_lt hbp
  have htb := heap_lt hpk
  clear hS hbp hpk
  rw [h0] at c10
  clear h0
  go_quiet (fail)
  go_wp2
  go_ret2
  have hd := HD.out
  unfold Lk.heard Lk.ends Lk.hear
  rw [if_pos hd, if_pos hd, if_pos hd]
  exact ⟨none, 0, rfl, (HT.out.link.drewN _).nilSlice _ _⟩

set_option maxRecDepth 100000 in
set_option maxHeartbeats 4000000 in
theorem lHear_d4 {w0 w : World} {pb : Nat} {L : Lk} {l : List Thing} (h : St w0 w (lk pb L :: l)) (p : Pk) (h0 : L.over = false) (h1 : (p.a != L.peer) = false) (h2 : (p.b != L.me) = false) (h3 : (p.c != 2) = false) (h4 : decide (p.d < 1) = true) :
    Calls Try.prog 17 #[.pointer (some ⟨pb, 0, none⟩), p.agg] w (StTexts w0 (L.heard p) (L.ends p) (lk pb (L.hear p) :: l)) := by
  simp only [Pk.agg]
  have hT : HearSt w0 w.heap.size pb p L l (w.alloc (.cells p.cells.toArray 41)) := by
    obtain ⟨a, cap, mb, hS⟩ := h.unlk
    exact ⟨a, cap, mb, hS.box1 p.cells.toArray 41⟩
  have HT := Lib.hid hT
  clear h hT
  go_enter Try.func17, Try.ntmps17
  have HD : Hid (L.deaf p = true) := by show _ = _; simp only [Lk.deaf, h0, h1, h2, h3, h4, Bool.true_or, Bool.or_true, Bool.false_or, Bool.or_false]
  go_upto_region 1 with (fail)
  change Code.wp _ _ _ _ (w.alloc (.cells p.cells.toArray 41))
  generalize w.alloc (.cells p.cells.toArray 41) = W at HT ⊢
  generalize w.heap.size = tb at HT ⊢
  obtain ⟨a, cap, mb, hS⟩ := HT.out
  have hbp := hS.box 1 rfl
  have hpk := hS.box 0 rfl
  have c3 := blk_cell hbp 3 (.int .i64 L.me) rfl
  have c4 := blk_cell hbp 4 (.int .i64 L.peer) rfl
  have c10 := blk_cell hbp 10 (.bool L.over) rfl
  have p0 := blk_cell hpk 0 (.int .i64 p.a) rfl
  have p1 := blk_cell hpk 1 (.int .i64 p.b) rfl
  have p2 := blk_cell hpk 2 (.int .i64 p.c) rfl
  have p3 := blk_cell hpk 3 (.int .i64 p.d) rfl
  have hpb := heap_lt hbp
  have htb := heap_lt hpk
  clear hS hbp hpk
  rw [h0] at c10
  clear h0
  go_quiet (fail)
  go_wp2
  go_ret2
  have hd := HD.out
  unfold Lk.heard Lk.ends Lk.hear
  rw [if_pos hd, if_pos hd, if_pos hd]
  exact ⟨none, 0, rfl, (HT.out.link.drewN _).nilSlice _ _⟩

theorem lHear_deaf {w0 w : World} {pb : Nat} {L : Lk} {l : List Thing} (h : St w0 w (lk pb L :: l)) (p : Pk) (hd : L.deaf p = true) :
    Calls Try.prog 17 #[.pointer (some ⟨pb, 0, none⟩), p.agg] w (StTexts w0 (L.heard p) (L.ends p) (lk pb (L.hear p) :: l)) := by
  cases h0 : L.over with
  | true => exact lHear_d0 h p h0
  | false =>
    cases h1 : (p.a != L.peer) with
    | true => exact lHear_d1 h p h0 h1
    | false =>
      cases h2 : (p.b != L.me) with
      | true => exact lHear_d2 h p h0 h1 h2
      | false =>
        cases h3 : (p.c != 2) with
        | true => exact lHear_d3 h p h0 h1 h2 h3
        | false =>
          cases h4 : decide (p.d < 1) with
          | true => exact lHear_d4 h p h0 h1 h2 h3 h4
          | false => rw [Lk.deaf, h0, h1, h2, h3, h4] at hd; simp at hd

set_option maxRecDepth 100000 in
set_option maxHeartbeats 4000000 in
theorem lHear_alien {w0 w : World} {pb : Nat} {L : Lk} {l : List Thing} (h : St w0 w (lk pb L :: l)) (p : Pk) (hd : L.deaf p = false) (ha : L.alien p = true) :
    Calls Try.prog 17 #[.pointer (some ⟨pb, 0, none⟩), p.agg] w (StTexts w0 (L.heard p) (L.ends p) (lk pb (L.hear p) :: l)) := by
  simp only [Pk.agg]
  have hT : HearSt w0 w.heap.size pb p L l (w.alloc (.cells p.cells.toArray 41)) := by
    obtain ⟨a, cap, mb, hS⟩ := h.unlk
    exact ⟨a, cap, mb, hS.box1 p.cells.toArray 41⟩
  have HT := Lib.hid hT
  clear h hT
  go_enter Try.func17, Try.ntmps17
  have HD := Lib.hid hd
  have HA := Lib.hid ha
  have ha' : (p.e != 0) = true ∧ (p.e != L.life) = true := by simpa only [Lk.alien, Bool.and_eq_true] using ha
  obtain ⟨g7, g8⟩ := ha'
  clear hd ha
  go_upto_region 1 with (fail)
  change Code.wp _ _ _ _ (w.alloc (.cells p.cells.toArray 41))
  generalize w.alloc (.cells p.cells.toArray 41) = W at HT ⊢
  generalize w.heap.size = tb at HT ⊢
  go_cut [11] (fun c wx => c = .bool false ∧ HearSt w0 tb pb p L l wx)
  case first =>
    obtain ⟨a, cap, mb, hS⟩ := HT.out
    have hbp := hS.box 1 rfl
    have hpk := hS.box 0 rfl
    have c3 := blk_cell hbp 3 (.int .i64 L.me) rfl
    have c4 := blk_cell hbp 4 (.int .i64 L.peer) rfl
    have c10 := blk_cell hbp 10 (.bool L.over) rfl
    have p0 := blk_cell hpk 0 (.int .i64 p.a) rfl
    have p1 := blk_cell hpk 1 (.int .i64 p.b) rfl
    have p2 := blk_cell hpk 2 (.int .i64 p.c) rfl
    have p3 := blk_cell hpk 3 (.int .i64 p.d) rfl
    have hpb := heap_lt hbp
    have htb := heap_lt hpk
    clear hS hbp hpk
    obtain ⟨h1, g2, g3, g4, g5⟩ := Lk.not_deaf HD.out
    rw [h1] at c10
    clear h1
    go_quiet (fail)
    go_wp2
    go_meet
    exact ⟨rfl, HT.out.drewN _⟩
  case rest =>
    clear HT
    obtain ⟨rfl, hS⟩ := hcut
    have HT := Lib.hid hS
    clear hS
    go_upto_region 3 with (fail)
    go_cut [44] (fun c wx => c = .bool true ∧ HearSt w0 tb pb p L l wx)
    case first =>
      obtain ⟨a, cap, mb, hS⟩ := HT.out
      have hbp := hS.box 1 rfl
      have hpk := hS.box 0 rfl
      have c5 := blk_cell hbp 5 (.int .i64 L.life) rfl
      have p4 := blk_cell hpk 4 (.int .i64 p.e) rfl
      have hpb := heap_lt hbp
      have htb := heap_lt hpk
      clear hS hbp hpk
      go_quiet (fail)
      go_wp2
      go_meet
      exact ⟨rfl, HT.out.drewN _⟩
    case rest =>
      clear HT
      obtain ⟨rfl, hS⟩ := hcut
      have HT := Lib.hid hS
      clear hS
      go_upto_region 4 with (fail)
      go_cut [] (fun wx => HearSt w0 tb pb p { L with owes := L.owes || decide (p.e < L.life) } l wx)
      case first =>
        obtain ⟨a, cap, mb, hS⟩ := HT.out
        have hbp := hS.box 1 rfl
        have hpk := hS.box 0 rfl
        have c5 := blk_cell hbp 5 (.int .i64 L.life) rfl
        have c9 := blk_cell hbp 9 (.bool L.owes) rfl
        have p4 := blk_cell hpk 4 (.int .i64 p.e) rfl
        have hpb := heap_lt hbp
        have htb := heap_lt hpk
        have f9 := blk_free hbp 9
        have HS := Lib.hid hS
        clear hS hbp hpk HT
        by_cases h1 : L.owes = true
        · have HE : Hid ((L.owes || decide (p.e < L.life)) = true) := by show _ = _; simp [h1]
          rw [h1] at c9
          clear h1
          go_region
          all_goals
            (try go_wp2_with fail)
            go_meet
            rw [HE.out]
            exact ⟨a, cap, mb, (HS.out.set 1 rfl 9 (.bool true)).drew⟩
        · have h1 : L.owes = false := by simpa using h1
          have HE : Hid ((L.owes || decide (p.e < L.life)) = decide (p.e < L.life)) := by show _ = _; simp [h1]
          rw [h1] at c9
          clear h1
          go_region
          all_goals
            (try go_wp2_with fail)
            go_meet
            rw [HE.out]
            exact ⟨a, cap, mb, (HS.out.set 1 rfl 9 (.bool (decide (p.e < L.life)))).drew⟩
      case rest =>
        go_wp2
        go_ret2
        have hd := HD.out
        have ha := HA.out
        unfold Lk.heard Lk.ends Lk.hear
        rw [if_neg (by rw [hd]; simp), if_pos ha, if_neg (by rw [hd]; simp), if_pos ha, if_neg (by rw [hd]; simp), if_pos ha]
        exact ⟨none, 0, rfl, hcut.link.nilSlice _ _⟩

set_option maxRecDepth 100000 in
set_option maxHeartbeats 4000000 in
theorem lHear_old_a {w0 w : World} {pb : Nat} {L : Lk} {l : List Thing} (h : St w0 w (lk pb L :: l)) (p : Pk) (hd : L.deaf p = false) (h7 : (p.e != 0) = false) (ho : L.older p = true) :
    Calls Try.prog 17 #[.pointer (some ⟨pb, 0, none⟩), p.agg] w (StTexts w0 (L.heard p) (L.ends p) (lk pb (L.hear p) :: l)) := by
  simp only [Pk.agg]
  have hT : HearSt w0 w.heap.size pb p L l (w.alloc (.cells p.cells.toArray 41)) := by
    obtain ⟨a, cap, mb, hS⟩ := h.unlk
    exact ⟨a, cap, mb, hS.box1 p.cells.toArray 41⟩
  have HT := Lib.hid hT
  clear h hT
  go_enter Try.func17, Try.ntmps17
  have HD := Lib.hid hd
  have HA : Hid (L.alien p = false) := by show _ = _; simp only [Lk.alien, h7, Bool.false_and, Bool.and_false]
  have HO := Lib.hid ho
  have h11 : decide (p.d < L.far) = true := ho
  clear ho
  clear hd
  go_upto_region 1 with (fail)
  change Code.wp _ _ _ _ (w.alloc (.cells p.cells.toArray 41))
  generalize w.alloc (.cells p.cells.toArray 41) = W at HT ⊢
  generalize w.heap.size = tb at HT ⊢
  obtain ⟨a, cap, mb, hS⟩ := HT.out
  have hbp := hS.box 1 rfl
  have hpk := hS.box 0 rfl
  have c3 := blk_cell hbp 3 (.int .i64 L.me) rfl
  have c4 := blk_cell hbp 4 (.int .i64 L.peer) rfl
  have c5 := blk_cell hbp 5 (.int .i64 L.life) rfl
  have c6 := blk_cell hbp 6 (.int .i64 L.far) rfl
  have c10 := blk_cell hbp 10 (.bool L.over) rfl
  have p0 := blk_cell hpk 0 (.int .i64 p.a) rfl
  have p1 := blk_cell hpk 1 (.int .i64 p.b) rfl
  have p2 := blk_cell hpk 2 (.int .i64 p.c) rfl
  have p3 := blk_cell hpk 3 (.int .i64 p.d) rfl
  have p4 := blk_cell hpk 4 (.int .i64 p.e) rfl
  have hpb := heap_lt hbp
  have htb := heap_lt hpk
  have f10 := blk_free hbp 10
  obtain ⟨h1, g2, g3, g4, g5⟩ := Lk.not_deaf HD.out
  rw [h1] at c10
  clear hS hbp hpk h1
  go_quiet (fail)
  go_wp2
  go_quiet (fail)
  go_wp2
  go_quiet (fail)
  go_wp2
  go_ret2
  have hd := HD.out
  have ha := HA.out
  have ho := HO.out
  unfold Lk.heard Lk.ends Lk.hear
  rw [if_neg (by rw [hd]; simp), if_neg (by rw [ha]; simp), if_pos ho, if_neg (by rw [hd]; simp), if_neg (by rw [ha]; simp), if_pos ho, if_neg (by rw [hd]; simp), if_neg (by rw [ha]; simp), if_pos ho]
  exact ⟨none, 0, rfl, (((HT.out.link.drewN _).drewN _).drewN _).nilSlice _ _⟩

set_option maxRecDepth 100000 in
set_option maxHeartbeats 4000000 in
theorem lHear_new_a {w0 w : World} {pb : Nat} {L : Lk} {l : List Thing} (h : St w0 w (lk pb L :: l)) (p : Pk) (hd : L.deaf p = false) (h7 : (p.e != 0) = false) (ho : L.older p = false) (h9 : decide (L.far < p.d) = true) (h10 : (L.far != 0) = true) :
    Calls Try.prog 17 #[.pointer (some ⟨pb, 0, none⟩), p.agg] w (StTexts w0 (L.heard p) (L.ends p) (lk pb (L.hear p) :: l)) := by
  simp only [Pk.agg]
  have hT : HearSt w0 w.heap.size pb p L l (w.alloc (.cells p.cells.toArray 41)) := by
    obtain ⟨a, cap, mb, hS⟩ := h.unlk
    exact ⟨a, cap, mb, hS.box1 p.cells.toArray 41⟩
  have HT := Lib.hid hT
  clear h hT
  go_enter Try.func17, Try.ntmps17
  have HD := Lib.hid hd
  have HA : Hid (L.alien p = false) := by show _ = _; simp only [Lk.alien, h7, Bool.false_and, Bool.and_false]
  have HO := Lib.hid ho
  have HN : Hid (L.newer p = true) := by show _ = _; rw [Lk.newer, h9, h10]; rfl
  have h11 : decide (p.d < L.far) = false := ho
  clear ho
  clear hd
  go_upto_region 1 with (fail)
  change Code.wp _ _ _ _ (w.alloc (.cells p.cells.toArray 41))
  generalize w.alloc (.cells p.cells.toArray 41) = W at HT ⊢
  generalize w.heap.size = tb at HT ⊢
  obtain ⟨a, cap, mb, hS⟩ := HT.out
  have hbp := hS.box 1 rfl
  have hpk := hS.box 0 rfl
  have c3 := blk_cell hbp 3 (.int .i64 L.me) rfl
  have c4 := blk_cell hbp 4 (.int .i64 L.peer) rfl
  have c5 := blk_cell hbp 5 (.int .i64 L.life) rfl
  have c6 := blk_cell hbp 6 (.int .i64 L.far) rfl
  have c10 := blk_cell hbp 10 (.bool L.over) rfl
  have p0 := blk_cell hpk 0 (.int .i64 p.a) rfl
  have p1 := blk_cell hpk 1 (.int .i64 p.b) rfl
  have p2 := blk_cell hpk 2 (.int .i64 p.c) rfl
  have p3 := blk_cell hpk 3 (.int .i64 p.d) rfl
  have p4 := blk_cell hpk 4 (.int .i64 p.e) rfl
  have hpb := heap_lt hbp
  have htb := heap_lt hpk
  have f10 := blk_free hbp 10
  obtain ⟨h1, g2, g3, g4, g5⟩ := Lk.not_deaf HD.out
  rw [h1] at c10
  have HS := Lib.hid hS
  clear hS hbp hpk h1
  go_quiet (fail)
  go_wp2
  go_quiet (fail)
  go_wp2
  go_quiet (fail)
  go_wp2
  go_quiet (fail)
  go_wp2
  go_ret2
  have hd := HD.out
  have ha := HA.out
  have ho := HO.out
  have hn := HN.out
  unfold Lk.heard Lk.ends Lk.hear
  rw [if_neg (by rw [hd]; simp), if_neg (by rw [ha]; simp), if_neg (by rw [ho]; simp), if_pos hn, if_neg (by rw [hd]; simp), if_neg (by rw [ha]; simp), if_neg (by rw [ho]; simp), if_pos hn, if_neg (by rw [hd]; simp), if_neg (by rw [ha]; simp), if_neg (by rw [ho]; simp), if_pos hn]
  exact ⟨none, 0, rfl, (St.relk { L with over := true } (a := a) (cap := cap) (mb := mb) ((HS.out.drewN _).set 1 rfl 10 (.bool true)).tail).nilSlice _ _⟩

set_option maxRecDepth 100000 in
set_option maxHeartbeats 4000000 in
theorem lHear_go_aa {w0 w : World} {pb : Nat} {L : Lk} {l : List Thing} (h : St w0 w (lk pb L :: l)) (p : Pk) (hok : L.ok) (hcnt : L.cnt < maxLen) (hf0 : -9223372036854775808 ≤ p.f) (hf1 : p.f ≤ 9223372036854775807) (hd : L.deaf p = false) (h7 : (p.e != 0) = false) (ho : L.older p = false) (h9 : decide (L.far < p.d) = false) :
    Calls Try.prog 17 #[.pointer (some ⟨pb, 0, none⟩), p.agg] w (StTexts w0 (L.heard p) (L.ends p) (lk pb (L.hear p) :: l)) := by
  simp only [Pk.agg]
  have hT : HearSt w0 w.heap.size pb p L l (w.alloc (.cells p.cells.toArray 41)) := by
    obtain ⟨a, cap, mb, hS⟩ := h.unlk
    exact ⟨a, cap, mb, hS.box1 p.cells.toArray 41⟩
  have HT := Lib.hid hT
  clear h hT
  go_enter Try.func17, Try.ntmps17
  have HD := Lib.hid hd
  have HA : Hid (L.alien p = false) := by show _ = _; simp only [Lk.alien, h7, Bool.false_and, Bool.and_false]
  have HO := Lib.hid ho
  have HN : Hid (L.newer p = false) := by show _ = _; rw [Lk.newer, h9]; rfl
  have h11 : decide (p.d < L.far) = false := ho
  clear ho
  clear hd
  go_upto_block 0 with (fail)
  change Code.wp _ _ _ _ (w.alloc (.cells p.cells.toArray 41))
  generalize w.alloc (.cells p.cells.toArray 41) = W at HT ⊢
  generalize w.heap.size = tb at HT ⊢
  go_cut [] (fun wx => HearSt w0 tb pb p L l wx)
  case first =>
    go_upto_region 1 with (fail)
    obtain ⟨a, cap, mb, hS⟩ := HT.out
    have hbp := hS.box 1 rfl
    have hpk := hS.box 0 rfl
    have c3 := blk_cell hbp 3 (.int .i64 L.me) rfl
    have c4 := blk_cell hbp 4 (.int .i64 L.peer) rfl
    have c5 := blk_cell hbp 5 (.int .i64 L.life) rfl
    have c6 := blk_cell hbp 6 (.int .i64 L.far) rfl
    have c10 := blk_cell hbp 10 (.bool L.over) rfl
    have p0 := blk_cell hpk 0 (.int .i64 p.a) rfl
    have p1 := blk_cell hpk 1 (.int .i64 p.b) rfl
    have p2 := blk_cell hpk 2 (.int .i64 p.c) rfl
    have p3 := blk_cell hpk 3 (.int .i64 p.d) rfl
    have p4 := blk_cell hpk 4 (.int .i64 p.e) rfl
    have hpb := heap_lt hbp
    have htb := heap_lt hpk
    have f10 := blk_free hbp 10
    obtain ⟨h1, g2, g3, g4, g5⟩ := Lk.not_deaf HD.out
    rw [h1] at c10
    clear hS hbp hpk h1
    go_quiet (fail)
    go_wp2
    go_quiet (fail)
    go_wp2
    go_quiet (fail)
    go_wp2
    go_quiet (fail)
    go_wp2_with fail
    go_meet
    exact (((HT.out.drewN _).drewN _).drewN _).drewN _
  case rest =>
    have hd := HD.out
    have ha := HA.out
    have ho := HO.out
    have hn := HN.out
    apply_assumption
    exact hear_tail _ _ _ _ _ _ _ _ _ _ _ _ _ _ _ _ _ _ _ _ _ _ _ _ _ _ _ _ _ _ _ _ _ _ _ _ _ _ _ _ _ _ _ _ _ _ _ _ _ _ _ _ _ _ _ _ _ _ _ _ _ _ _ _ _ _ _ _ _ _ _ _ _ _ _ _ _ _ _ _ _ _ _ _ _ _ _ _ _ _ _ _ _ _ _ _ _ _ _ _ _ _ _ _ _ _ _ _ _ _ _ _ _ _ _ _ _ _ _ _ _ _ _ _ _ _ _ _ _ _ _ _ _ _ _ _ _ _ _ _ _ _ _ _ _ _ _ _ _ _ _ _ _ _ _ _ _ _ _ _ _ _ _ _ _ _ _ _ _ _ _ _ _ _ _ _ _ _ _ _ _ _ _ _ _ _ _ _ _ _ _ _ _ _ _ _ _ _ _ _ _ _ _ _ _ _ _ _ _ _ _ _ _ _ _ _ _ _ _ _ _ hcut hok hcnt hf0 hf1 _ _ _
      (by unfold Lk.heard; rw [if_neg (by rw [hd]; simp), if_neg (by rw [ha]; simp), if_neg (by rw [ho]; simp), if_neg (by rw [hn]; simp)])
      (by unfold Lk.ends; rw [if_neg (by rw [hd]; simp), if_neg (by rw [ha]; simp), if_neg (by rw [ho]; simp), if_neg (by rw [hn]; simp)])
      (by unfold Lk.hear; rw [if_neg (by rw [hd]; simp), if_neg (by rw [ha]; simp), if_neg (by rw [ho]; simp), if_neg (by rw [hn]; simp)])

set_option maxRecDepth 100000 in
set_option maxHeartbeats 4000000 in
theorem lHear_go_ab {w0 w : World} {pb : Nat} {L : Lk} {l : List Thing} (h : St w0 w (lk pb L :: l)) (p : Pk) (hok : L.ok) (hcnt : L.cnt < maxLen) (hf0 : -9223372036854775808 ≤ p.f) (hf1 : p.f ≤ 9223372036854775807) (hd : L.deaf p = false) (h7 : (p.e != 0) = false) (ho : L.older p = false) (h9 : decide (L.far < p.d) = true) (h10 : (L.far != 0) = false) :
    Calls Try.prog 17 #[.pointer (some ⟨pb, 0, none⟩), p.agg] w (StTexts w0 (L.heard p) (L.ends p) (lk pb (L.hear p) :: l)) := by
  simp only [Pk.agg]
  have hT : HearSt w0 w.heap.size pb p L l (w.alloc (.cells p.cells.toArray 41)) := by
    obtain ⟨a, cap, mb, hS⟩ := h.unlk
    exact ⟨a, cap, mb, hS.box1 p.cells.toArray 41⟩
  have HT := Lib.hid hT
  clear h hT
  go_enter Try.func17, Try.ntmps17
  have HD := Lib.hid hd
  have HA : Hid (L.alien p = false) := by show _ = _; simp only [Lk.alien, h7, Bool.false_and, Bool.and_false]
  have HO := Lib.hid ho
  have HN : Hid (L.newer p = false) := by show _ = _; rw [Lk.newer, h9, h10]; rfl
  have h11 : decide (p.d < L.far) = false := ho
  clear ho
  clear hd
  go_upto_block 0 with (fail)
  change Code.wp _ _ _ _ (w.alloc (.cells p.cells.toArray 41))
  generalize w.alloc (.cells p.cells.toArray 41) = W at HT ⊢
  generalize w.heap.size = tb at HT ⊢
  go_cut [] (fun wx => HearSt w0 tb pb p L l wx)
  case first =>
    go_upto_region 1 with (fail)
    obtain ⟨a, cap, mb, hS⟩ := HT.out
    have hbp := hS.box 1 rfl
    have hpk := hS.box 0 rfl
    have c3 := blk_cell hbp 3 (.int .i64 L.me) rfl
    have c4 := blk_cell hbp 4 (.int .i64 L.peer) rfl
    have c5 := blk_cell hbp 5 (.int .i64 L.life) rfl
    have c6 := blk_cell hbp 6 (.int .i64 L.far) rfl
    have c10 := blk_cell hbp 10 (.bool L.over) rfl
    have p0 := blk_cell hpk 0 (.int .i64 p.a) rfl
    have p1 := blk_cell hpk 1 (.int .i64 p.b) rfl
    have p2 := blk_cell hpk 2 (.int .i64 p.c) rfl
    have p3 := blk_cell hpk 3 (.int .i64 p.d) rfl
    have p4 := blk_cell hpk 4 (.int .i64 p.e) rfl
    have hpb := heap_lt hbp
    have htb := heap_lt hpk
    have f10 := blk_free hbp 10
    obtain ⟨h1, g2, g3, g4, g5⟩ := Lk.not_deaf HD.out
    rw [h1] at c10
    clear hS hbp hpk h1
    go_quiet (fail)
    go_wp2
    go_quiet (fail)
    go_wp2
    go_quiet (fail)
    go_wp2
    go_quiet (fail)
    go_wp2_with fail
    go_meet
    exact (((HT.out.drewN _).drewN _).drewN _).drewN _
  case rest =>
    have hd := HD.out
    have ha := HA.out
    have ho := HO.out
    have hn := HN.out
    apply_assumption
    exact hear_tail _ _ _ _ _ _ _ _ _ _ _ _ _ _ _ _ _ _ _ _ _ _ _ _ _ _ _ _ _ _ _ _ _ _ _ _ _ _ _ _ _ _ _ _ _ _ _ _ _ _ _ _ _ _ _ _ _ _ _ _ _ _ _ _ _ _ _ _ _ _ _ _ _ _ _ _ _ _ _ _ _ _ _ _ _ _ _ _ _ _ _ _ _ _ _ _ _ _ _ _ _ _ _ _ _ _ _ _ _ _ _ _ _ _ _ _ _ _ _ _ _ _ _ _ _ _ _ _ _ _ _ _ _ _ _ _ _ _ _ _ _ _ _ _ _ _ _ _ _ _ _ _ _ _ _ _ _ _ _ _ _ _ _ _ _ _ _ _ _ _ _ _ _ _ _ _ _ _ _ _ _ _ _ _ _ _ _ _ _ _ _ _ _ _ _ _ _ _ _ _ _ _ _ _ _ _ _ _ _ _ _ _ _ _ _ _ _ _ _ _ _ hcut hok hcnt hf0 hf1 _ _ _
      (by unfold Lk.heard; rw [if_neg (by rw [hd]; simp), if_neg (by rw [ha]; simp), if_neg (by rw [ho]; simp), if_neg (by rw [hn]; simp)])
      (by unfold Lk.ends; rw [if_neg (by rw [hd]; simp), if_neg (by rw [ha]; simp), if_neg (by rw [ho]; simp), if_neg (by rw [hn]; simp)])
      (by unfold Lk.hear; rw [if_neg (by rw [hd]; simp), if_neg (by rw [ha]; simp), if_neg (by rw [ho]; simp), if_neg (by rw [hn]; simp)])

set_option maxRecDepth 100000 in
set_option maxHeartbeats 4000000 in
theorem lHear_old_b {w0 w : World} {pb : Nat} {L : Lk} {l : List Thing} (h : St w0 w (lk pb L :: l)) (p : Pk) (hd : L.deaf p = false) (h7 : (p.e != 0) = true) (h8 : (p.e != L.life) = false) (ho : L.older p = true) :
    Calls Try.prog 17 #[.pointer (some ⟨pb, 0, none⟩), p.agg] w (StTexts w0 (L.heard p) (L.ends p) (lk pb (L.hear p) :: l)) := by
  simp only [Pk.agg]
  have hT : HearSt w0 w.heap.size pb p L l (w.alloc (.cells p.cells.toArray 41)) := by
    obtain ⟨a, cap, mb, hS⟩ := h.unlk
    exact ⟨a, cap, mb, hS.box1 p.cells.toArray 41⟩
  have HT := Lib.hid hT
  clear h hT
  go_enter Try.func17, Try.ntmps17
  have HD := Lib.hid hd
  have HA : Hid (L.alien p = false) := by show _ = _; simp only [Lk.alien, h7, h8, Bool.false_and, Bool.and_false]
  have HO := Lib.hid ho
  have h11 : decide (p.d < L.far) = true := ho
  clear ho
  clear hd
  go_upto_region 1 with (fail)
  change Code.wp _ _ _ _ (w.alloc (.cells p.cells.toArray 41))
  generalize w.alloc (.cells p.cells.toArray 41) = W at HT ⊢
  generalize w.heap.size = tb at HT ⊢
  obtain ⟨a, cap, mb, hS⟩ := HT.out
  have hbp := hS.box 1 rfl
  have hpk := hS.box 0 rfl
  have c3 := blk_cell hbp 3 (.int .i64 L.me) rfl
  have c4 := blk_cell hbp 4 (.int .i64 L.peer) rfl
  have c5 := blk_cell hbp 5 (.int .i64 L.life) rfl
  have c6 := blk_cell hbp 6 (.int .i64 L.far) rfl
  have c10 := blk_cell hbp 10 (.bool L.over) rfl
  have p0 := blk_cell hpk 0 (.int .i64 p.a) rfl
  have p1 := blk_cell hpk 1 (.int .i64 p.b) rfl
  have p2 := blk_cell hpk 2 (.int .i64 p.c) rfl
  have p3 := blk_cell hpk 3 (.int .i64 p.d) rfl
  have p4 := blk_cell hpk 4 (.int .i64 p.e) rfl
  have hpb := heap_lt hbp
  have htb := heap_lt hpk
  have f10 := blk_free hbp 10
  obtain ⟨h1, g2, g3, g4, g5⟩ := Lk.not_deaf HD.out
  rw [h1] at c10
  clear hS hbp hpk h1
  go_quiet (fail)
  go_wp2
  go_quiet (fail)
  go_wp2
  go_quiet (fail)
  go_wp2
  go_ret2
  have hd := HD.out
  have ha := HA.out
  have ho := HO.out
  unfold Lk.heard Lk.ends Lk.hear
  rw [if_neg (by rw [hd]; simp), if_neg (by rw [ha]; simp), if_pos ho, if_neg (by rw [hd]; simp), if_neg (by rw [ha]; simp), if_pos ho, if_neg (by rw [hd]; simp), if_neg (by rw [ha]; simp), if_pos ho]
  exact ⟨none, 0, rfl, (((HT.out.link.drewN _).drewN _).drewN _).nilSlice _ _⟩

set_option maxRecDepth 100000 in
set_option maxHeartbeats 4000000 in
theorem lHear_new_b {w0 w : World} {pb : Nat} {L : Lk} {l : List Thing} (h : St w0 w (lk pb L :: l)) (p : Pk) (hd : L.deaf p = false) (h7 : (p.e != 0) = true) (h8 : (p.e != L.life) = false) (ho : L.older p = false) (h9 : decide (L.far < p.d) = true) (h10 : (L.far != 0) = true) :
    Calls Try.prog 17 #[.pointer (some ⟨pb, 0, none⟩), p.agg] w (StTexts w0 (L.heard p) (L.ends p) (lk pb (L.hear p) :: l)) := by
  simp only [Pk.agg]
  have hT : HearSt w0 w.heap.size pb p L l (w.alloc (.cells p.cells.toArray 41)) := by
    obtain ⟨a, cap, mb, hS⟩ := h.unlk
    exact ⟨a, cap, mb, hS.box1 p.cells.toArray 41⟩
  have HT := Lib.hid hT
  clear h hT
  go_enter Try.func17, Try.ntmps17
  have HD := Lib.hid hd
  have HA : Hid (L.alien p = false) := by show _ = _; simp only [Lk.alien, h7, h8, Bool.false_and, Bool.and_false]
  have HO := Lib.hid ho
  have HN : Hid (L.newer p = true) := by show _ = _; rw [Lk.newer, h9, h10]; rfl
  have h11 : decide (p.d < L.far) = false := ho
  clear ho
  clear hd
  go_upto_region 1 with (fail)
  change Code.wp _ _ _ _ (w.alloc (.cells p.cells.toArray 41))
  generalize w.alloc (.cells p.cells.toArray 41) = W at HT ⊢
  generalize w.heap.size = tb at HT ⊢
  obtain ⟨a, cap, mb, hS⟩ := HT.out
  have hbp := hS.box 1 rfl
  have hpk := hS.box 0 rfl
  have c3 := blk_cell hbp 3 (.int .i64 L.me) rfl
  have c4 := blk_cell hbp 4 (.int .i64 L.peer) rfl
  have c5 := blk_cell hbp 5 (.int .i64 L.life) rfl
  have c6 := blk_cell hbp 6 (.int .i64 L.far) rfl
  have c10 := blk_cell hbp 10 (.bool L.over) rfl
  have p0 := blk_cell hpk 0 (.int .i64 p.a) rfl
  have p1 := blk_cell hpk 1 (.int .i64 p.b) rfl
  have p2 := blk_cell hpk 2 (.int .i64 p.c) rfl
  have p3 := blk_cell hpk 3 (.int .i64 p.d) rfl
  have p4 := blk_cell hpk 4 (.int .i64 p.e) rfl
  have hpb := heap_lt hbp
  have htb := heap_lt hpk
  have f10 := blk_free hbp 10
  obtain ⟨h1, g2, g3, g4, g5⟩ := Lk.not_deaf HD.out
  rw [h1] at c10
  have HS := Lib.hid hS
  clear hS hbp hpk h1
  go_quiet (fail)
  go_wp2
  go_quiet (fail)
  go_wp2
  go_quiet (fail)
  go_wp2
  go_quiet (fail)
  go_wp2
  go_ret2
  have hd := HD.out
  have ha := HA.out
  have ho := HO.out
  have hn := HN.out
  unfold Lk.heard Lk.ends Lk.hear
  rw [if_neg (by rw [hd]; simp), if_neg (by rw [ha]; simp), if_neg (by rw [ho]; simp), if_pos hn, if_neg (by rw [hd]; simp), if_neg (by rw [ha]; simp), if_neg (by rw [ho]; simp), if_pos hn, if_neg (by rw [hd]; simp), if_neg (by rw [ha]; simp), if_neg (by rw [ho]; simp), if_pos hn]
  exact ⟨none, 0, rfl, (St.relk { L with over := true } (a := a) (cap := cap) (mb := mb) ((HS.out.drewN _).set 1 rfl 10 (.bool true)).tail).nilSlice _ _⟩

set_option maxRecDepth 100000 in
set_option maxHeartbeats 4000000 in
theorem lHear_go_ba {w0 w : World} {pb : Nat} {L : Lk} {l : List Thing} (h : St w0 w (lk pb L :: l)) (p : Pk) (hok : L.ok) (hcnt : L.cnt < maxLen) (hf0 : -9223372036854775808 ≤ p.f) (hf1 : p.f ≤ 9223372036854775807) (hd : L.deaf p = false) (h7 : (p.e != 0) = true) (h8 : (p.e != L.life) = false) (ho : L.older p = false) (h9 : decide (L.far < p.d) = false) :
    Calls Try.prog 17 #[.pointer (some ⟨pb, 0, none⟩), p.agg] w (StTexts w0 (L.heard p) (L.ends p) (lk pb (L.hear p) :: l)) := by
  simp only [Pk.agg]
  have hT : HearSt w0 w.heap.size pb p L l (w.alloc (.cells p.cells.toArray 41)) := by
    obtain ⟨a, cap, mb, hS⟩ := h.unlk
    exact ⟨a, cap, mb, hS.box1 p.cells.toArray 41⟩
  have HT := Lib.hid hT
  clear h hT
  go_enter Try.func17, Try.ntmps17
  have HD := Lib.hid hd
  have HA : Hid (L.alien p = false) := by show _ = _; simp only [Lk.alien, h7, h8, Bool.false_and, Bool.and_false]
  have HO := Lib.hid ho
  have HN : Hid (L.newer p = false) := by show _ = _; rw [Lk.newer, h9]; rfl
  have h11 : decide (p.d < L.far) = false := ho
  clear ho
  clear hd
  go_upto_block 0 with (fail)
  change Code.wp _ _ _ _ (w.alloc (.cells p.cells.toArray 41))
  generalize w.alloc (.cells p.cells.toArray 41) = W at HT ⊢
  generalize w.heap.size = tb at HT ⊢
  go_cut [] (fun wx => HearSt w0 tb pb p L l wx)
  case first =>
    go_upto_region 1 with (fail)
    obtain ⟨a, cap, mb, hS⟩ := HT.out
    have hbp := hS.box 1 rfl
    have hpk := hS.box 0 rfl
    have c3 := blk_cell hbp 3 (.int .i64 L.me) rfl
    have c4 := blk_cell hbp 4 (.int .i64 L.peer) rfl
    have c5 := blk_cell hbp 5 (.int .i64 L.life) rfl
    have c6 := blk_cell hbp 6 (.int .i64 L.far) rfl
    have c10 := blk_cell hbp 10 (.bool L.over) rfl
    have p0 := blk_cell hpk 0 (.int .i64 p.a) rfl
    have p1 := blk_cell hpk 1 (.int .i64 p.b) rfl
    have p2 := blk_cell hpk 2 (.int .i64 p.c) rfl
    have p3 := blk_cell hpk 3 (.int .i64 p.d) rfl
    have p4 := blk_cell hpk 4 (.int .i64 p.e) rfl
    have hpb := heap_lt hbp
    have htb := heap_lt hpk
    have f10 := blk_free hbp 10
    obtain ⟨h1, g2, g3, g4, g5⟩ := Lk.not_deaf HD.out
    rw [h1] at c10
    clear hS hbp hpk h1
    go_quiet (fail)
    go_wp2
    go_quiet (fail)
    go_wp2
    go_quiet (fail)
    go_wp2
    go_quiet (fail)
    go_wp2_with fail
    go_meet
    exact (((HT.out.drewN _).drewN _).drewN _).drewN _
  case rest =>
    have hd := HD.out
    have ha := HA.out
    have ho := HO.out
    have hn := HN.out
    apply_assumption
    exact hear_tail _ _ _ _ _ _ _ _ _ _ _ _ _ _ _ _ _ _ _ _ _ _ _ _ _ _ _ _ _ _ _ _ _ _ _ _ _ _ _ _ _ _ _ _ _ _ _ _ _ _ _ _ _ _ _ _ _ _ _ _ _ _ _ _ _ _ _ _ _ _ _ _ _ _ _ _ _ _ _ _ _ _ _ _ _ _ _ _ _ _ _ _ _ _ _ _ _ _ _ _ _ _ _ _ _ _ _ _ _ _ _ _ _ _ _ _ _ _ _ _ _ _ _ _ _ _ _ _ _ _ _ _ _ _ _ _ _ _ _ _ _ _ _ _ _ _ _ _ _ _ _ _ _ _ _ _ _ _ _ _ _ _ _ _ _ _ _ _ _ _ _ _ _ _ _ _ _ _ _ _ _ _ _ _ _ _ _ _ _ _ _ _ _ _ _ _ _ _ _ _ _ _ _ _ _ _ _ _ _ _ _ _ _ _ _ _ _ _ _ _ _ hcut hok hcnt hf0 hf1 _ _ _
      (by unfold Lk.heard; rw [if_neg (by rw [hd]; simp), if_neg (by rw [ha]; simp), if_neg (by rw [ho]; simp), if_neg (by rw [hn]; simp)])
      (by unfold Lk.ends; rw [if_neg (by rw [hd]; simp), if_neg (by rw [ha]; simp), if_neg (by rw [ho]; simp), if_neg (by rw [hn]; simp)])
      (by unfold Lk.hear; rw [if_neg (by rw [hd]; simp), if_neg (by rw [ha]; simp), if_neg (by rw [ho]; simp), if_neg (by rw [hn]; simp)])

set_option maxRecDepth 100000 in
set_option maxHeartbeats 4000000 in
theorem lHear_go_bb {w0 w : World} {pb : Nat} {L : Lk} {l : List Thing} (h : St w0 w (lk pb L :: l)) (p : Pk) (hok : L.ok) (hcnt : L.cnt < maxLen) (hf0 : -9223372036854775808 ≤ p.f) (hf1 : p.f ≤ 9223372036854775807) (hd : L.deaf p = false) (h7 : (p.e != 0) = true) (h8 : (p.e != L.life) = false) (ho : L.older p = false) (h9 : decide (L.far < p.d) = true) (h10 : (L.far != 0) = false) :
    Calls Try.prog 17 #[.pointer (some ⟨pb, 0, none⟩), p.agg] w (StTexts w0 (L.heard p) (L.ends p) (lk pb (L.hear p) :: l)) := by
  simp only [Pk.agg]
  have hT : HearSt w0 w.heap.size pb p L l (w.alloc (.cells p.cells.toArray 41)) := by
    obtain ⟨a, cap, mb, hS⟩ := h.unlk
    exact ⟨a, cap, mb, hS.box1 p.cells.toArray 41⟩
  have HT := Lib.hid hT
  clear h hT
  go_enter Try.func17, Try.ntmps17
  have HD := Lib.hid hd
  have HA : Hid (L.alien p = false) := by show _ = _; simp only [Lk.alien, h7, h8, Bool.false_and, Bool.and_false]
  have HO := Lib.hid ho
  have HN : Hid (L.newer p = false) := by show _ = _; rw [Lk.newer, h9, h10]; rfl
  have h11 : decide (p.d < L.far) = false := ho
  clear ho
  clear hd
  go_upto_block 0 with (fail)
  change Code.wp _ _ _ _ (w.alloc (.cells p.cells.toArray 41))
  generalize w.alloc (.cells p.cells.toArray 41) = W at HT ⊢
  generalize w.heap.size = tb at HT ⊢
  go_cut [] (fun wx => HearSt w0 tb pb p L l wx)
  case first =>
    go_upto_region 1 with (fail)
    obtain ⟨a, cap, mb, hS⟩ := HT.out
    have hbp := hS.box 1 rfl
    have hpk := hS.box 0 rfl
    have c3 := blk_cell hbp 3 (.int .i64 L.me) rfl
    have c4 := blk_cell hbp 4 (.int .i64 L.peer) rfl
    have c5 := blk_cell hbp 5 (.int .i64 L.life) rfl
    have c6 := blk_cell hbp 6 (.int .i64 L.far) rfl
    have c10 := blk_cell hbp 10 (.bool L.over) rfl
    have p0 := blk_cell hpk 0 (.int .i64 p.a) rfl
    have p1 := blk_cell hpk 1 (.int .i64 p.b) rfl
    have p2 := blk_cell hpk 2 (.int .i64 p.c) rfl
    have p3 := blk_cell hpk 3 (.int .i64 p.d) rfl
    have p4 := blk_cell hpk 4 (.int .i64 p.e) rfl
    have hpb := heap_lt hbp
    have htb := heap_lt hpk
    have f10 := blk_free hbp 10
    obtain ⟨h1, g2, g3, g4, g5⟩ := Lk.not_deaf HD.out
    rw [h1] at c10
    clear hS hbp hpk h1
    go_quiet (fail)
    go_wp2
    go_quiet (fail)
    go_wp2
    go_quiet (fail)
    go_wp2
    go_quiet (fail)
    go_wp2_with fail
    go_meet
    exact (((HT.out.drewN _).drewN _).drewN _).drewN _
  case rest =>
    have hd := HD.out
    have ha := HA.out
    have ho := HO.out
    have hn := HN.out
    apply_assumption
    exact hear_tail _ _ _ _ _ _ _ _ _ _ _ _ _ _ _ _ _ _ _ _ _ _ _ _ _ _ _ _ _ _ _ _ _ _ _ _ _ _ _ _ _ _ _ _ _ _ _ _ _ _ _ _ _ _ _ _ _ _ _ _ _ _ _ _ _ _ _ _ _ _ _ _ _ _ _ _ _ _ _ _ _ _ _ _ _ _ _ _ _ _ _ _ _ _ _ _ _ _ _ _ _ _ _ _ _ _ _ _ _ _ _ _ _ _ _ _ _ _ _ _ _ _ _ _ _ _ _ _ _ _ _ _ _ _ _ _ _ _ _ _ _ _ _ _ _ _ _ _ _ _ _ _ _ _ _ _ _ _ _ _ _ _ _ _ _ _ _ _ _ _ _ _ _ _ _ _ _ _ _ _ _ _ _ _ _ _ _ _ _ _ _ _ _ _ _ _ _ _ _ _ _ _ _ _ _ _ _ _ _ _ _ _ _ _ _ _ _ _ _ _ _ hcut hok hcnt hf0 hf1 _ _ _
      (by unfold Lk.heard; rw [if_neg (by rw [hd]; simp), if_neg (by rw [ha]; simp), if_neg (by rw [ho]; simp), if_neg (by rw [hn]; simp)])
      (by unfold Lk.ends; rw [if_neg (by rw [hd]; simp), if_neg (by rw [ha]; simp), if_neg (by rw [ho]; simp), if_neg (by rw [hn]; simp)])
      (by unfold Lk.hear; rw [if_neg (by rw [hd]; simp), if_neg (by rw [ha]; simp), if_neg (by rw [ho]; simp), if_neg (by rw [hn]; simp)])

theorem lHear_st {w0 w : World} {pb : Nat} {L : Lk} {l : List Thing} (h : St w0 w (lk pb L :: l)) (p : Pk) (hok : L.ok) (hcnt : L.cnt < maxLen) (hf0 : -9223372036854775808 ≤ p.f) (hf1 : p.f ≤ 9223372036854775807) :
    Calls Try.prog 17 #[.pointer (some ⟨pb, 0, none⟩), p.agg] w (StTexts w0 (L.heard p) (L.ends p) (lk pb (L.hear p) :: l)) := by
  cases hd : L.deaf p with
  | true => exact lHear_deaf h p hd
  | false =>
    cases h7 : (p.e != 0) with
    | false =>
      cases ho : L.older p with
      | true => exact lHear_old_a h p hd h7 ho
      | false =>
        cases h9 : decide (L.far < p.d) with
        | false => exact lHear_go_aa h p hok hcnt hf0 hf1 hd h7 ho h9
        | true =>
          cases h10 : (L.far != 0) with
          | true => exact lHear_new_a h p hd h7 ho h9 h10
          | false => exact lHear_go_ab h p hok hcnt hf0 hf1 hd h7 ho h9 h10
    | true =>
      cases h8 : (p.e != L.life) with
      | true => exact lHear_alien h p hd (by rw [Lk.alien, h7, h8]; rfl)
      | false =>
        cases ho : L.older p with
        | true => exact lHear_old_b h p hd h7 h8 ho
        | false =>
          cases h9 : decide (L.far < p.d) with
          | false => exact lHear_go_ba h p hok hcnt hf0 hf1 hd h7 h8 ho h9
          | true =>
            cases h10 : (L.far != 0) with
            | true => exact lHear_new_b h p hd h7 h8 ho h9 h10
            | false => exact lHear_go_bb h p hok hcnt hf0 hf1 hd h7 h8 ho h9 h10
end Go.Proofs.Ytoeokdachojhjaa
