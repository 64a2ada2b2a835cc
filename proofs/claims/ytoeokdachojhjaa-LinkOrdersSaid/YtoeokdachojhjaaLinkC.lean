/-
  The program's link: behind, Flush, Tick; slices.Clip of packets.
  Conditions: the queue has at most 64 texts.
-/
import Derived.Test.YtoeokdachojhjaaLinkB
namespace Go.Proofs.Ytoeokdachojhjaa
open Go.RowKit
set_option linter.unusedSectionVars false
set_option linter.unusedSimpArgs false
set_option linter.unusedVariables false

def ClipPost (a : Option Addr) (n : Nat) (cs : List Value) (w : World) (e : Ending) (w' : World) : Prop :=
  ∃ p', e = .returned (.slice p' n n) ∧ Sl w 41 8 p' n n cs ∧ own p' = own a ∧ w' = w

theorem Clip_any (a : Option Addr) (n cap : Nat) (cs : List Value) (w : World) (hv : Sl w 41 8 a n cap cs) :
    Calls Try.prog 32 #[.slice a n cap] w (ClipPost a n cs w) := by
  have hn := hv.2.1
  have HV := Lib.hid hv
  clear hv
  go_enter Try.func32, Try.ntmps32
  go_wp2_with ((with_reducible refine at_list ?_); refine wpList_cut 41 8 (by kernel_rfl) cellsP isP a n cap _ rfl HV.out _ _ _ rfl rfl rfl 0 n n (bounds_hm _ _ _ _ _ (by omega) (by omega) (by omega)) (Nat.zero_le _) (Nat.le_refl _) (Nat.le_refl _) hn ?_; intro p' hp' hown)
  go_ret
  refine ⟨p', rfl, ?_, hown, rfl⟩
  have e : List.take ((n - 0) * 8) (List.drop (0 * 8) cs) = cs := by
    rw [Nat.zero_mul, List.drop_zero, Nat.sub_zero, List.take_of_length_le (by rw [HV.out.1]; exact Nat.le_refl _)]
  rw [e] at hp'
  exact hp'

/-- A call that answers a slice of packets of its own. -/
def StPks (w0 : World) (xs : List Pk) (l : List Thing) (e : Ending) (w' : World) : Prop := ∃ a cap, e = .returned (.slice a xs.length cap) ∧ St w0 w' (sl 41 8 a xs.length cap (flat xs) :: l)

def qk (L : Lk) (n : Int) (k : Nat) : List Tx := (L.queue.take k).filter (fun t => decide (n < t.n))
theorem qk_step {L : Lk} {n : Int} {k : Nat} {t : Tx} (h : L.queue[k]? = some t) : qk L n (k + 1) = qk L n k ++ (if n < t.n then [t] else []) := by
  obtain ⟨hk, rfl⟩ := List.getElem?_eq_some_iff.1 h
  unfold qk
  rw [List.take_succ_eq_append_getElem hk, List.filter_append]
  congr 1
  by_cases hs : n < L.queue[k].n
  · rw [if_pos hs]; simp [hs]
  · rw [if_neg hs]; simp [hs]
theorem qk_all (L : Lk) (n : Int) (k : Nat) (h : L.queue.length ≤ k) : qk L n k = L.news n := by unfold qk Lk.news; rw [List.take_of_length_le h]
theorem qk_len (L : Lk) (n : Int) (k : Nat) : (qk L n k).length ≤ k := Nat.le_trans (List.length_filter_le _ _) (List.length_take_le _ _)

/-- What the loop of behind holds behind k texts. -/
def BhRel (w0 : World) (pb mb q : Nat) (a : Option Addr) (cap : Nat) (L : Lk) (n : Int) (l : List Thing) (k : Nat) (v : Value) (wr : World) : Prop :=
  ∃ a5 cap5, v = .slice a5 (qk L n k).length cap5 ∧ St w0 wr (bx pb (Lk.cells { L with sent := lastN L.sent (qk L n k) } a q cap mb) 66 :: sl 68 2 a q cap (ftx L.queue) :: mp Try.prog 3 mb L.cnt (fmap L.kept) ::
    sl 41 8 a5 (qk L n k).length cap5 (flat ((qk L n k).map L.pkt)) :: l)

set_option maxHeartbeats 1000000 in
theorem lbehind_st {w0 w : World} {pb : Nat} {L : Lk} {l : List Thing} (h : St w0 w (lk pb L :: l)) (n : Int) (hq : L.queue.length ≤ 64) :
    Calls Try.prog 23 #[.pointer (some ⟨pb, 0, none⟩), .int .i64 n] w (StPks w0 (L.out n) (lk pb (L.behind n) :: l)) := by
  obtain ⟨a, cap, mb, hS⟩ := h.unlk
  have hb := hS.box 0 rfl
  have c7 := blk_cell hb 7 (.slice a L.queue.length cap) rfl
  have c10 := blk_cell hb 10 (.bool L.over) rfl
  have hpb := heap_lt hb
  by_cases hov : L.over = true
  · have HE := Lib.hid hov
    rw [hov] at c10
    have HS := Lib.hid h
    clear hS h hb hov
    go_enter Try.func23, Try.ntmps23
    go_wp2
    go_ret
    have he := HE.out
    unfold Lk.out Lk.behind
    rw [if_pos he, if_pos he]
    exact ⟨none, 0, rfl, HS.out.nilSlice _ _⟩
  have hov : L.over = false := by simpa using hov
  rw [hov] at c10
  obtain ⟨q, hql⟩ : ∃ q, L.queue.length = q := ⟨_, rfl⟩
  rw [hql] at c7 hS hq
  have HOV := Lib.hid hov
  have HQ := Lib.hid hql
  have HS := Lib.hid hS
  clear hS h hb hov hql
  obtain ⟨ip, hip1, hip2, hip3⟩ := info_parts infoP
  have HI := Lib.hid (And.intro hip1 (And.intro hip2 hip3))
  clear hip1 hip2 hip3
  go_enter Try.func23, Try.ntmps23
  go_wp2
  go_loopw [5, 17] (fun v i wr => ∃ k : Nat, k ≤ q ∧ i = .int .i64 k ∧ BhRel w0 pb mb q a cap L n l k v wr) (fun _ i _ => q - (intOf i).toNat)
  case atStart => exact ⟨0, by omega, rfl, none, 0, rfl, ((HS.out.nilSlice 41 8).perm (List.perm_append_comm_assoc [_] [_, _, _] _))⟩
  case round =>
    clear HS c7 c10 hpb
    obtain ⟨k, hk, rfl, a5, cap5, rfl, hS⟩ := hrel
    obtain ⟨xs, hxs⟩ : ∃ xs, qk L n k = xs := ⟨_, rfl⟩
    have hxl : xs.length ≤ k := by rw [← hxs]; exact qk_len _ _ _
    rw [hxs] at hS ⊢
    obtain ⟨m, hm⟩ : ∃ m, xs.length = m := ⟨_, rfl⟩
    rw [hm] at hS hxl ⊢
    have HX := Lib.hid hxs
    have HM := Lib.hid hm
    clear hxs hm
    have hpb := heap_lt (hS.box 0 rfl)
    by_cases hlt : k < q
    · have hx : L.queue[k]? = some (L.queue[k]'(HQ.out ▸ hlt)) := List.getElem?_eq_getElem _
      obtain ⟨t, htt⟩ : ∃ t, L.queue[k]'(HQ.out ▸ hlt) = t := ⟨_, rfl⟩
      rw [htt] at hx
      obtain ⟨b, o, rfl, hbl, hc⟩ := (hS.slice 1 rfl).rd.elem Tx.cells txlen (by omega) hx
      have e0 : wr.cell? ⟨b, o + k * 2, none⟩ = some (.int .i64 t.n) := hc 0 _ rfl
      have e1 : wr.cell? ⟨b, o + k * 2 + 1, none⟩ = some (.string t.s) := hc 1 _ rfl
      have HXX := Lib.hid (qk_step (n := n) hx)
      have hT := hS.box1 t.cells.toArray 68
      have HS := Lib.hid hS
      clear hx htt hc hS
      by_cases hn : n < t.n
      · have g : decide (n < t.n) = true := by simpa using hn
        have HNN : Hid (n < t.n) := Lib.hid hn
        have HT := Lib.hid hT
        clear hn hT
        go_wp2_with fail
        refine (lpacket_bx HT.out 1 rfl t).mono ?_
        rintro e w2 ⟨rfl, hS2⟩
        have hS3 := (hS2.box1 (L.pkt t).cells.toArray 41)
        have hsl := hS3.slice 5 rfl
        have hsr := (Sl.new (E := 41) (k := 8) (n := 1) (c := (L.pkt t).cells.toArray) (hS3.box 0 rfl) rfl (by unfold maxLen; omega)).rd
        have HS3 := Lib.hid hS3
        have HSL := Lib.hid hsl
        have HSR := Lib.hid hsr
        clear hS2 hS3 hsl hsr
        go_wp2_with (at_builtin; refine wpList_append 41 ip _ 8 72 (by kernel_rfl) HI.out.1 HI.out.2.1 HI.out.2.2.1 HI.out.2.2.2 rfl a5 m cap5 (flat (xs.map L.pkt)) rfl HSL.out (some ⟨w2.heap.size, 0, none⟩) 1 1 (L.pkt t).cells.toArray.toList rfl HSR.out (fun u hu => flat_one [L.pkt t] u (by simpa [flat] using hu)) (by unfold maxLen; omega) (by omega) ?_; intro a6 cap6 w6 hS6 hM6 hF6 hN6 hR6; have hSA := HS3.out.regrow 5 rfl hS6 hM6 hF6; have hbA := hSA.box 2 rfl; have k1 := blk_cell hbA 1 (.int .i64 (lastN L.sent xs)) rfl; have fr1 := blk_free hbA 1; have hpA := heap_lt hbA; have t0 := blk_cell (hSA.box 1 rfl) 0 (.int .i64 t.n) rfl; have htA := heap_lt (hSA.box 1 rfl); have HSA := Lib.hid hSA; clear hN6 hR6 hSA hbA hS6)
        refine ⟨⟨k + 1, by omega, by simp, a6, cap6, ?_⟩, by simp only [intOf]; omega⟩
        have hE : qk L n (k + 1) = xs ++ [t] := by rw [HXX.out, if_pos HNN.out, HX.out]
        rw [hE, List.length_append, HM.out, lastN_snoc, List.map_append, flat_append]
        exact ⟨rfl, (HSA.out.set 2 rfl 1 (.int .i64 t.n)).tail.tail⟩
      · have g : decide (n < t.n) = false := by simpa using hn
        have HNN : Hid (¬ n < t.n) := Lib.hid hn
        have HT := Lib.hid hT
        clear hn hT
        go_wp2
        refine ⟨⟨k + 1, by omega, by simp, a5, cap5, ?_⟩, by simp only [intOf]; omega⟩
        have hE : qk L n (k + 1) = xs := by rw [HXX.out, if_neg HNN.out, List.append_nil, HX.out]
        rw [hE, HM.out]
        exact ⟨rfl, HT.out.tail⟩
    · obtain rfl : k = q := by omega
      have hall : xs = L.news n := by rw [← HX.out]; exact qk_all L n k (by rw [HQ.out]; exact Nat.le_refl _)
      have HALL := Lib.hid hall
      have hb := hS.box 0 rfl
      have k7 := blk_cell hb 9 (.bool L.owes) rfl
      have fr9 := blk_free hb 9
      have HS := Lib.hid hS
      clear hS hb hall
      have HB : Hid (L.behind n = { L with sent := lastN L.sent xs, owes := false }) := by
        show _ = _
        unfold Lk.behind
        rw [if_neg (by rw [HOV.out]; simp), ← HALL.out]
      by_cases hm0 : 0 < m
      · have g : ((m : Int) == 0) = false := by simp; omega
        have HE : Hid (L.out n = xs.map L.pkt) := by
          show _ = _
          unfold Lk.out
          rw [if_neg (by rw [HOV.out]; simp), ← HALL.out, if_neg]
          intro h
          have := HM.out
          rw [List.isEmpty_iff.1 h] at this
          simp at this; omega
        go_wp2_with fail
        have hS7 := (HS.out.set 0 rfl 9 (.bool false))
        refine (Clip_any a5 m cap5 _ _ (hS7.slice 3 rfl)).mono ?_
        rintro e w9 ⟨p', rfl, hcl, hown, rfl⟩
        have hS8 := hS7.regrow 3 rfl hcl (Mod.refl _ _) (fun b hb => .inl (by rw [← hown]; exact hb))
        go_wp2
        go_ret
        rw [HE.out, HB.out]
        have hl : (xs.map L.pkt).length = m := by rw [List.length_map, HM.out]
        refine ⟨p', m, by rw [hl]; rfl, ?_⟩
        rw [hl]
        exact (St.relk { L with sent := lastN L.sent xs, owes := false } (a := a) (cap := cap) (mb := mb) (by rw [show ({ L with sent := lastN L.sent xs, owes := false } : Lk).queue.length = k from HQ.out]; exact hS8)).perm (.swap _ _ _)
      obtain rfl : m = 0 := by omega
      have g : (((0 : Nat) : Int) == 0) = true := by simp
      have hx0 : xs = [] := List.eq_nil_of_length_eq_zero HM.out
      by_cases how : L.owes = true
      · have HE : Hid (L.out n = [L.pkt ⟨0, .empty⟩]) := by
          show _ = _
          unfold Lk.out
          rw [if_neg (by rw [HOV.out]; simp), ← HALL.out, hx0, List.isEmpty_nil, if_pos rfl, if_pos how]
        rw [how] at k7
        have HX0 := Lib.hid hx0
        clear how hx0 hm0
        go_wp2_with fail
        refine (lpacket_bx HS.out 0 rfl ⟨0, .empty⟩).mono ?_
        rintro e w2 ⟨rfl, hS2⟩
        have hS3 := (hS2.box1 (L.pkt ⟨0, .empty⟩).cells.toArray 41)
        have hsl := hS3.slice 4 rfl
        have hsr := (Sl.new (E := 41) (k := 8) (n := 1) (c := (L.pkt ⟨0, .empty⟩).cells.toArray) (hS3.box 0 rfl) rfl (by unfold maxLen; omega)).rd
        have HS3 := Lib.hid hS3
        have HSL := Lib.hid hsl
        have HSR := Lib.hid hsr
        clear hS2 hS3 hsl hsr
        go_wp2_with (at_builtin; refine wpList_append 41 ip _ 8 72 (by kernel_rfl) HI.out.1 HI.out.2.1 HI.out.2.2.1 HI.out.2.2.2 rfl a5 0 cap5 (flat (xs.map L.pkt)) rfl HSL.out (some ⟨w2.heap.size, 0, none⟩) 1 1 (L.pkt ⟨0, .empty⟩).cells.toArray.toList rfl HSR.out (fun u hu => flat_one [L.pkt ⟨0, .empty⟩] u (by simpa [flat] using hu)) (by unfold maxLen; omega) (by omega) ?_; rw [Nat.zero_add]; intro a6 cap6 w6 hS6 hM6 hF6 hN6 hR6; have hSA := (HS3.out.regrow 4 rfl hS6 hM6 hF6).tail; have hbA := hSA.box 0 rfl; have k9 := blk_cell hbA 9 (.bool L.owes) rfl; have fr9 := blk_free hbA 9; have hpA := heap_lt hbA; have HSA := Lib.hid hSA; clear hN6 hR6 hSA hbA hS6)
        go_wp2_with fail
        have hS7 := (HSA.out.set 0 rfl 9 (.bool false))
        refine (Clip_any a6 1 cap6 _ _ (hS7.slice 3 rfl)).mono ?_
        rintro e w9 ⟨p', rfl, hcl, hown, rfl⟩
        have hS8 := hS7.regrow 3 rfl hcl (Mod.refl _ _) (fun b hb => .inl (by rw [← hown]; exact hb))
        go_wp2
        go_ret
        rw [HE.out, HB.out]
        have hl : [L.pkt ⟨0, .empty⟩].length = 1 := rfl
        refine ⟨p', 1, by rw [hl]; rfl, ?_⟩
        rw [hl]
        exact (St.relk { L with sent := lastN L.sent xs, owes := false } (a := a) (cap := cap) (mb := mb) (by rw [show ({ L with sent := lastN L.sent xs, owes := false } : Lk).queue.length = k from HQ.out]; have h8 := hS8; rw [HX0.out] at h8 ⊢; exact h8)).perm (.swap _ _ _)
      · have how : L.owes = false := by simpa using how
        have HE : Hid (L.out n = []) := by
          show _ = _
          unfold Lk.out
          rw [if_neg (by rw [HOV.out]; simp), ← HALL.out, hx0, List.isEmpty_nil, if_pos rfl, if_neg (by rw [how]; simp)]
        rw [how] at k7
        have HX0 := Lib.hid hx0
        clear how hx0 hm0
        go_wp2_with fail
        have hS7 := (HS.out.set 0 rfl 9 (.bool false))
        refine (Clip_any a5 0 cap5 _ _ (hS7.slice 3 rfl)).mono ?_
        rintro e w9 ⟨p', rfl, hcl, hown, rfl⟩
        have hS8 := hS7.regrow 3 rfl hcl (Mod.refl _ _) (fun b hb => .inl (by rw [← hown]; exact hb))
        go_wp2
        go_ret
        rw [HE.out, HB.out]
        have hl : ([] : List Pk).length = 0 := rfl
        refine ⟨p', 0, by rw [hl]; rfl, ?_⟩
        rw [hl]
        exact (St.relk { L with sent := lastN L.sent xs, owes := false } (a := a) (cap := cap) (mb := mb) (by rw [show ({ L with sent := lastN L.sent xs, owes := false } : Lk).queue.length = k from HQ.out]; have h8 := hS8; rw [HX0.out] at h8 ⊢; exact h8)).perm (.swap _ _ _)

theorem lFlush_st {w0 w : World} {pb : Nat} {L : Lk} {l : List Thing} (h : St w0 w (lk pb L :: l)) (hq : L.queue.length ≤ 64) :
    Calls Try.prog 18 #[.pointer (some ⟨pb, 0, none⟩)] w (StPks w0 (L.out L.sent) (lk pb (L.behind L.sent) :: l)) := by
  obtain ⟨a, cap, mb, hS⟩ := h.unlk
  have c1 := blk_cell (hS.box 0 rfl) 1 (.int .i64 L.sent) rfl
  have hpb := heap_lt (hS.box 0 rfl)
  have HS := Lib.hid h
  clear hS h
  go_enter Try.func18, Try.ntmps18
  go_wp2_with fail
  refine (lbehind_st HS.out L.sent hq).mono ?_
  rintro e w1 ⟨a1, cap1, rfl, hS1⟩
  go_wp2
  go_ret
  exact ⟨a1, cap1, rfl, hS1⟩

theorem lTick_st {w0 w : World} {pb : Nat} {L : Lk} {l : List Thing} (h : St w0 w (lk pb L :: l)) (hq : L.queue.length ≤ 64) :
    Calls Try.prog 11 #[.pointer (some ⟨pb, 0, none⟩)] w (StPks w0 (L.out 0) (lk pb (L.behind 0) :: l)) := by
  have HS := Lib.hid h
  clear h
  go_enter Try.func11, Try.ntmps11
  go_wp2_with fail
  refine (lbehind_st HS.out 0 hq).mono ?_
  rintro e w1 ⟨a1, cap1, rfl, hS1⟩
  go_wp2
  go_ret
  exact ⟨a1, cap1, rfl, hS1⟩
end Go.Proofs.Ytoeokdachojhjaa
