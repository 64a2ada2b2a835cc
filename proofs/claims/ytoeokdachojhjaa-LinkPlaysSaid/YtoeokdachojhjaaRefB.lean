/-
  The document's link: keeps, from, Flush, Tick.
  Conditions: the queue has at most 64 texts.
-/
import Derived.Test.YtoeokdachojhjaaRefA
import Derived.Deep.RegionHeld3
namespace Go.Proofs.Ytoeokdachojhjaa
open Go.RowKit
set_option linter.unusedSectionVars false
set_option linter.unusedSimpArgs false
set_option linter.unusedVariables false

def rlook : List Tx → Int → Option ByteArray
  | [], _ => none
  | t :: K, k => if t.n = k then some t.s else rlook K k
theorem rlook_none : ∀ {K : List Tx} {k : Int}, (∀ t ∈ K, t.n ≠ k) → rlook K k = none
  | [], _, _ => rfl
  | t :: K, k, h => by rw [rlook, if_neg (h t (List.mem_cons_self ..))]; exact rlook_none fun x hx => h x (List.mem_cons_of_mem _ hx)
theorem rlook_at : ∀ {K : List Tx} {k : Int} {i : Nat} {t : Tx}, (∀ t ∈ K.take i, t.n ≠ k) → K[i]? = some t → t.n = k → rlook K k = some t.s
  | [], _, _, _, _, h, _ => by simp at h
  | x :: K, k, 0, t, _, h, ht => by
    simp only [List.getElem?_cons_zero, Option.some.injEq] at h
    rw [h, rlook, if_pos ht]
  | x :: K, k, i + 1, t, hn, h, ht => by
    rw [rlook, if_neg (hn x (by simp)), ]
    exact rlook_at (i := i) (fun y hy => hn y (by simp [hy])) (by simpa using h) ht

def RetPost (v : Value) (w : World) (e : Ending) (w' : World) : Prop := e = .returned v ∧ w = w'

theorem rkeeps_any (pb : Nat) (b : Option Addr) (m cab : Nat) (K : List Tx) (hm : K.length = m) (w : World) (h8 : w.cell? ⟨pb, 8, none⟩ = some (.slice b m cab)) (hr : Rd w 2 b m cab (ftx K)) (n : Int) :
    Calls Try.prog 35 #[.pointer (some ⟨pb, 0, none⟩), .int .i64 n] w (RetPost (.tuple #[lookS (rlook K n), .bool (rlook K n).isSome]) w) := by
  have hml := rd_len hr
  have HR := Lib.hid hr
  have HM := Lib.hid hm
  have hpb := World.block_lt_of_cell? w _ h8
  clear hr hm
  go_enter Try.func35, Try.ntmps35
  go_wp2
  go_loopw [6] (fun i wr => ∃ k : Nat, k ≤ m ∧ i = .int .i64 k ∧ wr = w ∧ Hid (∀ t ∈ K.take k, t.n ≠ n)) (fun i _ => m - (intOf i).toNat)
  case atStart => exact ⟨0, by omega, rfl, rfl, Lib.hid (by simp)⟩
  case round =>
    obtain ⟨k, hk, rfl, rfl, HQ⟩ := hrel
    by_cases hlt : k < m
    · have hx : K[k]? = some (K[k]'(HM.out ▸ hlt)) := List.getElem?_eq_getElem _
      obtain ⟨t, htt⟩ : ∃ t, K[k]'(HM.out ▸ hlt) = t := ⟨_, rfl⟩
      rw [htt] at hx
      obtain ⟨bb, o, rfl, e0, e1⟩ := HR.out.at2 hx
      have hbl := World.block_lt_of_cell? wr _ e0
      have HX := Lib.hid hx
      clear hx htt
      by_cases hn : t.n = n
      · have g : (t.n == n) = true := by simpa using hn
        have HE : Hid (rlook K n = some t.s) := Lib.hid (rlook_at HQ.out HX.out hn)
        clear hn
        go_wp2
        go_ret2
        rw [HE.out]
        exact ⟨rfl, rfl⟩
      · have g : (t.n == n) = false := by simpa using hn
        have HNE := Lib.hid hn
        clear hn
        go_wp2
        refine ⟨⟨k + 1, by omega, by simp, trivial, Lib.hid ?_⟩, by simp only [intOf]; omega⟩
        obtain ⟨hk', rfl⟩ := List.getElem?_eq_some_iff.1 HX.out
        rw [List.take_succ_eq_append_getElem hk']
        intro x hx
        rcases List.mem_append.1 hx with h | h
        · exact HQ.out x h
        · rw [List.mem_singleton.1 h]; exact HNE.out
    · obtain rfl : k = m := by omega
      have HE : Hid (rlook K n = none) := Lib.hid (rlook_none (fun t ht => HQ.out t (by rw [List.take_of_length_le (by rw [HM.out]; exact Nat.le_refl _)]; exact ht)))
      go_wp2
      go_ret2
      rw [HE.out]
      exact ⟨rfl, rfl⟩

theorem Rd.at2' {w : World} {b o : Nat} {n cap : Nat} {xs : List Tx} (h : Rd w 2 (some ⟨b, o, none⟩) n cap (ftx xs)) {k : Nat} {p : Tx} (hp : xs[k]? = some p) : At2 w b (o + k * 2) p := by
  obtain ⟨b', o', he, h2⟩ := h.at2 hp
  injection he with he; injection he with h3 h4
  subst h3 h4
  exact h2

/-- What the loop of behind holds behind k texts. -/
def FrRel (w0 : World) (pb q m : Nat) (a : Option Addr) (cap : Nat) (b : Option Addr) (cab : Nat) (L : Lk) (K : List Tx) (n : Int) (l : List Thing) (k : Nat) (v : Value) (wr : World) : Prop :=
  ∃ a5 cap5, v = .slice a5 (qk L n k).length cap5 ∧ St w0 wr (bx pb (Lk.rcells { L with sent := lastN L.sent (qk L n k) } a q cap b m cab) 74 :: sl 80 2 a q cap (ftx L.queue) :: sl 80 2 b m cab (ftx K) ::
    sl 41 8 a5 (qk L n k).length cap5 (flat ((qk L n k).map L.pkt)) :: l)

set_option maxHeartbeats 1000000 in
theorem rfrom_st {w0 w : World} {pb : Nat} {L : Lk} {K : List Tx} {l : List Thing} (h : St w0 w (rk pb L K :: l)) (n : Int) (hq : L.queue.length ≤ 64) :
    Calls Try.prog 34 #[.pointer (some ⟨pb, 0, none⟩), .int .i64 n] w (StPks w0 (L.out n) (rk pb (L.behind n) K :: l)) := by
  obtain ⟨a, cap, b0, cab, hS⟩ := h.unrk
  have hb := hS.box 0 rfl
  have c4 := blk_cell hb 4 (.slice a L.queue.length cap) rfl
  have c10 := blk_cell hb 10 (.bool L.over) rfl
  have hpb := heap_lt hb
  by_cases hov : L.over = true
  · have HE := Lib.hid hov
    rw [hov] at c10
    have HS := Lib.hid h
    clear hS h hb hov
    go_enter Try.func34, Try.ntmps34
    go_wp2
    go_ret
    have he := HE.out
    unfold Lk.out Lk.behind
    rw [if_pos he, if_pos he]
    exact ⟨none, 0, rfl, HS.out.nilSlice _ _⟩
  have hov : L.over = false := by simpa using hov
  rw [hov] at c10
  obtain ⟨q, hql⟩ : ∃ q, L.queue.length = q := ⟨_, rfl⟩
  rw [hql] at c4 hS hq
  have HOV := Lib.hid hov
  have HQ := Lib.hid hql
  have HS := Lib.hid hS
  clear hS h hb hov hql
  obtain ⟨ip, hip1, hip2, hip3⟩ := info_parts infoP
  have HI := Lib.hid (And.intro hip1 (And.intro hip2 hip3))
  clear hip1 hip2 hip3
  go_enter Try.func34, Try.ntmps34
  go_wp2
  go_loopw [5, 6] (fun v i wr => ∃ k : Nat, k ≤ q ∧ i = .int .i64 k ∧ FrRel w0 pb q K.length a cap b0 cab L K n l k v wr) (fun _ i _ => q - (intOf i).toNat)
  case atStart => exact ⟨0, by omega, rfl, none, 0, rfl, ((HS.out.nilSlice 41 8).perm (List.perm_append_comm_assoc [_] [_, _, _] _))⟩
  case round =>
    clear HS c4 c10 hpb
    obtain ⟨k, hk, rfl, a5, cap5, rfl, hS⟩ := hrel
    obtain ⟨xs, hxs⟩ : ∃ xs, qk L n k = xs := ⟨_, rfl⟩
    have hxl : xs.length ≤ k := by rw [← hxs]; exact qk_len _ _ _
    rw [hxs] at hS ⊢
    obtain ⟨m, hm⟩ : ∃ m, xs.length = m := ⟨_, rfl⟩
    rw [hm] at hS hxl ⊢
    have HX := Lib.hid hxs
    have HM := Lib.hid hm
    clear hxs hm
    have hpb := heap_lt (hS.box 0 rfl)
    by_cases hlt : k < q
    · have hx : L.queue[k]? = some (L.queue[k]'(HQ.out ▸ hlt)) := List.getElem?_eq_getElem _
      obtain ⟨t, htt⟩ : ∃ t, L.queue[k]'(HQ.out ▸ hlt) = t := ⟨_, rfl⟩
      rw [htt] at hx
      obtain ⟨b, o, rfl, hbl, hc⟩ := (hS.slice 1 rfl).rd.elem Tx.cells txlen (by omega) hx
      have e0 : wr.cell? ⟨b, o + k * 2, none⟩ = some (.int .i64 t.n) := hc 0 _ rfl
      have e1 : wr.cell? ⟨b, o + k * 2 + 1, none⟩ = some (.string t.s) := hc 1 _ rfl
      have HXX := Lib.hid (qk_step (n := n) hx)
      have HXE := Lib.hid hx
      have c4 := blk_cell (hS.box 0 rfl) 4 (.slice (some ⟨b, o, none⟩) q cap) rfl
      have HS := Lib.hid hS
      clear hx htt hc hS
      by_cases hn : n < t.n
      · have g : decide (n < t.n) = true := by simpa using hn
        have HNN : Hid (n < t.n) := Lib.hid hn
        clear hn
        go_upto_region 8 with (fail)
        go_cut [5] (fun v wx => ∃ a6 cap6, v = .slice a6 (m + 1) cap6 ∧ St w0 wx (bx pb (Lk.rcells { L with sent := lastN L.sent xs } (some ⟨b, o, none⟩) q cap b0 K.length cab) 74 :: sl 80 2 (some ⟨b, o, none⟩) q cap (ftx L.queue) :: sl 80 2 b0 K.length cab (ftx K) :: sl 41 8 a6 (m + 1) cap6 (flat (xs.map L.pkt) ++ (L.pkt t).cells) :: l))
        case first =>
          go_region_held3 (fun w' => w'.cell? ⟨pb, 4, none⟩ = some (.slice (some ⟨b, o, none⟩) q cap) ∧ w'.cell? ⟨b, o + k * 2, none⟩ = some (.int .i64 t.n) ∧ w'.cell? ⟨b, o + k * 2 + 1, none⟩ = some (.string t.s))
            (first | exact ⟨c4, e0, e1⟩ | exact ⟨f4, f0, f1⟩ | exact ⟨g4, g0, g1⟩ | go_keep)
            ((first
              | (go_at_call 36; refine (rpacket_bx (HS.out.mod ((Mod.refl _ _).drewN _)) 0 rfl t).mono ?_; rintro e w2 ⟨rfl, hS2⟩; have f4 := blk_cell (hS2.box 0 rfl) 4 (.slice (some ⟨b, o, none⟩) q cap) rfl; obtain ⟨f0, f1⟩ := (hS2.slice 1 rfl).rd.at2' HXE.out; have HS2 := Lib.hid hS2; clear hS2)
              | (refine step_append rfl rfl 41 ip _ 8 72 (by kernel_rfl) HI.out.1 HI.out.2.1 HI.out.2.2.1 HI.out.2.2.2 rfl a5 m cap5 (flat (xs.map L.pkt)) (by rfl) ((HS2.out.box1 (L.pkt t).cells.toArray 41).slice 4 rfl) (some ⟨w2.heap.size, 0, none⟩) 1 1 (L.pkt t).cells.toArray.toList (by rfl) (Sl.new (E := 41) (k := 8) (n := 1) (c := (L.pkt t).cells.toArray) ((HS2.out.box1 (L.pkt t).cells.toArray 41).box 0 rfl) rfl (by unfold maxLen; omega)).rd (fun u hu => flat_one [L.pkt t] u (by simpa [flat] using hu)) (by unfold maxLen; omega) (by omega) ?_; intro a6 cap6 w6 hS6 hM6 hF6 hN6 hR6; have hSA := ((HS2.out.box1 (L.pkt t).cells.toArray 41).regrow 4 rfl hS6 hM6 hF6).tail; have g4 := blk_cell (hSA.box 0 rfl) 4 (.slice (some ⟨b, o, none⟩) q cap) rfl; obtain ⟨g0, g1⟩ := (hSA.slice 1 rfl).rd.at2' HXE.out; have HSA := Lib.hid hSA; clear hN6 hR6 hSA hS6)))
          all_goals
            (try go_wp2_with fail)
            go_meet
            exact ⟨a6, cap6, rfl, HSA.out⟩
        case rest =>
        obtain ⟨a6, cap6, rfl, hSA⟩ := hcut
        have hbA := hSA.box 0 rfl
        have k4 := blk_cell hbA 4 (.slice (some ⟨b, o, none⟩) q cap) rfl
        have k6 := blk_cell hbA 6 (.int .i64 (lastN L.sent xs)) rfl
        have fr6 := blk_free hbA 6
        have hpA := heap_lt hbA
        have htA := (hSA.slice 1 rfl).lt b rfl
        obtain ⟨q0, q1⟩ := (hSA.slice 1 rfl).rd.at2' HXE.out
        have HSA := Lib.hid hSA
        clear hSA hbA c4 e0 e1 HS
        go_wp2
        refine ⟨⟨k + 1, by omega, by simp, a6, cap6, ?_⟩, by simp only [intOf]; omega⟩
        have hE : qk L n (k + 1) = xs ++ [t] := by rw [HXX.out, if_pos HNN.out, HX.out]
        rw [hE, List.length_append, HM.out, lastN_snoc, List.map_append, flat_append]
        exact ⟨rfl, by have h := HSA.out.set 0 rfl 6 (.int .i64 t.n); rw [show flat (List.map L.pkt [t]) = (L.pkt t).cells from by simp [flat]]; exact h⟩
      · have g : decide (n < t.n) = false := by simpa using hn
        have HNN : Hid (¬ n < t.n) := Lib.hid hn
        clear hn
        go_wp2
        refine ⟨⟨k + 1, by omega, by simp, a5, cap5, ?_⟩, by simp only [intOf]; omega⟩
        have hE : qk L n (k + 1) = xs := by rw [HXX.out, if_neg HNN.out, List.append_nil, HX.out]
        rw [hE, HM.out]
        exact ⟨rfl, HS.out⟩
    · obtain rfl : k = q := by omega
      have hall : xs = L.news n := by rw [← HX.out]; exact qk_all L n k (by rw [HQ.out]; exact Nat.le_refl _)
      have HALL := Lib.hid hall
      have hb := hS.box 0 rfl
      have k7 := blk_cell hb 9 (.bool L.owes) rfl
      have c4 := blk_cell hb 4 (.slice a k cap) rfl
      have fr9 := blk_free hb 9
      have HS := Lib.hid hS
      clear hS hb hall
      have HB : Hid (L.behind n = { L with sent := lastN L.sent xs, owes := false }) := by
        show _ = _
        unfold Lk.behind
        rw [if_neg (by rw [HOV.out]; simp), ← HALL.out]
      by_cases hm0 : 0 < m
      · have g : ((m : Int) == 0) = false := by simp; omega
        have HE : Hid (L.out n = xs.map L.pkt) := by
          show _ = _
          unfold Lk.out
          rw [if_neg (by rw [HOV.out]; simp), ← HALL.out, if_neg]
          intro h
          have := HM.out
          rw [List.isEmpty_iff.1 h] at this
          simp at this; omega
        go_wp2
        go_ret
        rw [HE.out, HB.out]
        have hS7 := (HS.out.set 0 rfl 9 (.bool false))
        have hl : (xs.map L.pkt).length = m := by rw [List.length_map, HM.out]
        refine ⟨a5, cap5, by rw [hl]; rfl, ?_⟩
        rw [hl]
        exact (St.rerk { L with sent := lastN L.sent xs, owes := false } K (a := a) (cap := cap) (b := b0) (cab := cab) (by rw [show ({ L with sent := lastN L.sent xs, owes := false } : Lk).queue.length = k from HQ.out]; exact hS7)).perm (.swap _ _ _)
      obtain rfl : m = 0 := by omega
      have g : (((0 : Nat) : Int) == 0) = true := by simp
      have hx0 : xs = [] := List.eq_nil_of_length_eq_zero HM.out
      by_cases how : L.owes = true
      · have HE : Hid (L.out n = [L.pkt ⟨0, .empty⟩]) := by
          show _ = _
          unfold Lk.out
          rw [if_neg (by rw [HOV.out]; simp), ← HALL.out, hx0, List.isEmpty_nil, if_pos rfl, if_pos how]
        rw [how] at k7
        have HX0 := Lib.hid hx0
        clear how hx0 hm0
        go_wp2_with fail
        refine (rpacket_bx HS.out 0 rfl ⟨0, .empty⟩).mono ?_
        rintro e w2 ⟨rfl, hS2⟩
        have hS3 := (hS2.box1 (L.pkt ⟨0, .empty⟩).cells.toArray 41)
        have hsl := hS3.slice 4 rfl
        have hsr := (Sl.new (E := 41) (k := 8) (n := 1) (c := (L.pkt ⟨0, .empty⟩).cells.toArray) (hS3.box 0 rfl) rfl (by unfold maxLen; omega)).rd
        have HS3 := Lib.hid hS3
        have HSL := Lib.hid hsl
        have HSR := Lib.hid hsr
        clear hS2 hS3 hsl hsr
        go_wp2_with (at_builtin; refine wpList_append 41 ip _ 8 72 (by kernel_rfl) HI.out.1 HI.out.2.1 HI.out.2.2.1 HI.out.2.2.2 rfl a5 0 cap5 (flat (xs.map L.pkt)) rfl HSL.out (some ⟨w2.heap.size, 0, none⟩) 1 1 (L.pkt ⟨0, .empty⟩).cells.toArray.toList rfl HSR.out (fun u hu => flat_one [L.pkt ⟨0, .empty⟩] u (by simpa [flat] using hu)) (by unfold maxLen; omega) (by omega) ?_; rw [Nat.zero_add]; intro a6 cap6 w6 hS6 hM6 hF6 hN6 hR6; have hSA := (HS3.out.regrow 4 rfl hS6 hM6 hF6).tail; have hbA := hSA.box 0 rfl; have k9 := blk_cell hbA 9 (.bool L.owes) rfl; have fr9 := blk_free hbA 9; have hpA := heap_lt hbA; have HSA := Lib.hid hSA; clear hN6 hR6 hSA hbA hS6)
        go_wp2
        go_ret
        rw [HE.out, HB.out]
        have hS7 := (HSA.out.set 0 rfl 9 (.bool false))
        have hl : [L.pkt ⟨0, .empty⟩].length = 1 := rfl
        refine ⟨a6, cap6, by rw [hl]; rfl, ?_⟩
        rw [hl]
        exact (St.rerk { L with sent := lastN L.sent xs, owes := false } K (a := a) (cap := cap) (b := b0) (cab := cab) (by rw [show ({ L with sent := lastN L.sent xs, owes := false } : Lk).queue.length = k from HQ.out]; have h8 := hS7; rw [HX0.out] at h8 ⊢; exact h8)).perm (.swap _ _ _)
      · have how : L.owes = false := by simpa using how
        have HE : Hid (L.out n = []) := by
          show _ = _
          unfold Lk.out
          rw [if_neg (by rw [HOV.out]; simp), ← HALL.out, hx0, List.isEmpty_nil, if_pos rfl, if_neg (by rw [how]; simp)]
        rw [how] at k7
        have HX0 := Lib.hid hx0
        clear how hx0 hm0
        go_wp2
        go_ret
        rw [HE.out, HB.out]
        have hS7 := (HS.out.set 0 rfl 9 (.bool false))
        have hl : ([] : List Pk).length = 0 := rfl
        refine ⟨a5, cap5, by rw [hl]; rfl, ?_⟩
        rw [hl]
        exact (St.rerk { L with sent := lastN L.sent xs, owes := false } K (a := a) (cap := cap) (b := b0) (cab := cab) (by rw [show ({ L with sent := lastN L.sent xs, owes := false } : Lk).queue.length = k from HQ.out]; have h8 := hS7; rw [HX0.out] at h8 ⊢; exact h8)).perm (.swap _ _ _)

theorem rFlush_st {w0 w : World} {pb : Nat} {L : Lk} {K : List Tx} {l : List Thing} (h : St w0 w (rk pb L K :: l)) (hq : L.queue.length ≤ 64) :
    Calls Try.prog 28 #[.pointer (some ⟨pb, 0, none⟩)] w (StPks w0 (L.out L.sent) (rk pb (L.behind L.sent) K :: l)) := by
  obtain ⟨a, cap, b0, cab, hS⟩ := h.unrk
  have c6 := blk_cell (hS.box 0 rfl) 6 (.int .i64 L.sent) rfl
  have hpb := heap_lt (hS.box 0 rfl)
  have HS := Lib.hid h
  clear hS h
  go_enter Try.func28, Try.ntmps28
  go_wp2_with fail
  refine (rfrom_st HS.out L.sent hq).mono ?_
  rintro e w1 ⟨a1, cap1, rfl, hS1⟩
  go_wp2
  go_ret
  exact ⟨a1, cap1, rfl, hS1⟩

theorem rTick_st {w0 w : World} {pb : Nat} {L : Lk} {K : List Tx} {l : List Thing} (h : St w0 w (rk pb L K :: l)) (hq : L.queue.length ≤ 64) :
    Calls Try.prog 29 #[.pointer (some ⟨pb, 0, none⟩)] w (StPks w0 (L.out 0) (rk pb (L.behind 0) K :: l)) := by
  have HS := Lib.hid h
  clear h
  go_enter Try.func29, Try.ntmps29
  go_wp2_with fail
  refine (rfrom_st HS.out 0 hq).mono ?_
  rintro e w1 ⟨a1, cap1, rfl, hS1⟩
  go_wp2
  go_ret
  exact ⟨a1, cap1, rfl, hS1⟩

end Go.Proofs.Ytoeokdachojhjaa
