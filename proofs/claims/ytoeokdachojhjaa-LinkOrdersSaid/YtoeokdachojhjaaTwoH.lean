/-
  LinkOrders whole: two ends, any script of moves, then rounds.
  No condition.
-/
import Derived.Test.YtoeokdachojhjaaTwoG
namespace Go.Proofs.Ytoeokdachojhjaa
open Go.RowKit
set_option linter.unusedSectionVars false
set_option linter.unusedSimpArgs false
set_option linter.unusedVariables false

theorem sizeMv : (Try.prog.info? 35).map (·.size) = some 3 := by kernel_rfl
instance : Inhabited Mv := ⟨⟨0, 0, false⟩⟩
def zeroTwo : Array Value := #[.pointer none, .pointer none, .int .i64 0, .int .i64 0, .slice none 0 0, .slice none 0 0, .slice none 0 0, .slice none 0 0, .slice none 0 0]

set_option maxRecDepth 100000 in
set_option maxHeartbeats 40000000 in
theorem orders_walk (a0 : Option Addr) (c0 n : Nat) (ms : List Mv) (hn : ms.length = n) (hl : n ≤ 2 ^ 63 - 1) (hok : ∀ x ∈ ms, x.wf) (W : World) (hr : Rd W 3 a0 n c0 (ms.flatMap Mv.cells)) :
    Calls Try.prog 3 #[.slice a0 n c0] W (AwakePost W) := by
  have HR := Lib.hid hr
  have HN := Lib.hid hn
  have HOK := Lib.hid hok
  clear hr hn hok
  go_enter Try.func3, Try.ntmps3
  go_wp2_with fail
  refine (awake_any W).mono ?_
  rintro e w1 ⟨rfl, hm⟩
  have HS := Lib.hid (St.begin hm)
  clear hm
  go_wp2_with fail
  have hS1 := HS.out.box1 zeroTwo 32
  change Calls _ _ _ (w1.alloc (.cells zeroTwo 32)) _
  generalize w1.alloc (.cells zeroTwo 32) = wb at hS1 ⊢
  generalize w1.heap.size = tb at hS1 ⊢
  refine (anew_two (k := 0) hS1 (by omega) rfl rfl rfl rfl rfl).mono ?_
  rintro e w2 ⟨rfl, pb0, hS2⟩
  have HS2 := Lib.hid (hS2.perm (.swap _ _ _))
  clear hS1 hS2 HS
  go_wp2_with fail
  refine (anew_two (k := 1) HS2.out (by omega) rfl rfl rfl rfl rfl).mono ?_
  rintro e w3 ⟨rfl, pb1, hS3⟩
  have hT : Two W tb newEnds (fun _ => []) (fun _ => []) [] w3 := by
    have h := hS3.perm (List.Perm.trans (List.Perm.swap _ _ _) (List.Perm.cons _ (List.Perm.swap _ _ _)))
    have h := ((((h.nilSlice 41 8).nilSlice 9 1).nilSlice 9 1).nilSlice 9 1).nilSlice 9 1
    have h := h.perm (List.perm_append_comm (l₁ := [_, _, _, _, _]) (l₂ := [_, _, _]))
    exact ⟨fun k => if k = 0 then pb0 else pb1, fun _ => 0, fun _ => none, fun _ => none, fun _ => 0, fun _ => 0, none, 0, h⟩
  have HT := Lib.hid hT
  have hb := hS3.box 1 rfl
  have d0 := blk_cell hb 0 (.pointer (some ⟨pb0, 0, none⟩)) rfl
  have d1 := blk_cell hb 1 (.pointer (some ⟨pb1, 0, none⟩)) rfl
  have htb := heap_lt hb
  clear hT hb hS3 HS2
  go_upto_block 0 with fail
  clear d0 d1 htb
  go_cut [] (fun wx => ∃ (E : Nat → Lk) (S G : Nat → List ByteArray) (P : List Pk), Two W tb E S G P wx ∧ Inv E S G P ∧ P.length ≤ 40000)
  case rest =>
    obtain ⟨E, S, G, P, hT, hI, hP⟩ := hcut
    clear HT
    apply_assumption
    exact ord_mid _ _ _ _ _ _ _ _ _ _ _ _ _ _ _ _ _ _ _ _ _ _ _ _ _ _ _ _ _ _ _ _ _ _ _ _ _ _ _ _ _ _ _ _ _ _ _ _ _ _ _ _ _ _ _ _ _ _ _ _ _ _ _ _ _ _ _ _ _ _ _ _ _ _ _ _ _ _ _ _ _ _ _ _ _ _ _ _ _ _ _ _ _ _ _ _ _ _ _ _ _ _ _ _ _ _ _ _ _ _ _ _ _ _ _ _ _ _ _ _ _ _ _ _ _ _ _ _ _ _ _ _ _ _ _ _ _ _ _ _ _ _ _ _ _ _ _ _ _ _ _ _ _ _ _ _ _ _ _ _ _ _ _ _ _ _ _ _ _ _ _ _ _ _ _ _ _ _ _ _ _ _ _ _ _ _ _ _ _ _ _ _ _ _ _ _ _ _ _ _ _ _ _ _ _ _ _ _ hT ⟨hI, fun h => by omega, fun h => by omega, fun h => by omega⟩ hP
  case first =>
    go_wp2_with fail
    go_loopg [5] n (fun g y wr => ∃ (k : Nat) (E : Nat → Lk) (S G : Nat → List ByteArray) (P : List Pk), k + g = n ∧ y = .int .i64 k ∧ k ≤ 400 ∧ Two W tb E S G P wr ∧ Inv E S G P ∧ P.length ≤ 61 * k)
    case atStart => exact ⟨0, newEnds, fun _ => [], fun _ => [], [], by omega, rfl, by omega, HT.out, Inv.new, by simp⟩
    case round =>
      clear HT
      obtain ⟨k, E, S, G, P, hkg, rfl, hk400, hT, hI, hP⟩ := hrel
      have HI := Lib.hid hI
      have HT := Lib.hid hT
      clear hI hT
      by_cases hkn : k < n
      · by_cases hk4 : k < 400
        · have g1 : decide ((k : Int) < (n : Int)) = true := by simp; omega
          have g2 : decide ((k : Int) < 400) = true := by simp; omega
          obtain ⟨x, hx⟩ : ∃ x, ms[k]? = some x := ⟨ms[k]'(by rw [HN.out]; exact hkn), List.getElem?_eq_getElem _⟩
          have HX := Lib.hid (HOK.out x (List.mem_of_getElem? hx))
          obtain ⟨pb, cn, sa, ga, sc, gc, pa, pc, hS⟩ := HT.out
          obtain ⟨b, o, rfl, hb0, hc⟩ := (hS.old HR.out).elem Mv.cells mvlen (by omega) hx
          have HC := Lib.hid (show ∀ t u, x.cells[t]? = some u → wr.cell? ((⟨b, o + k * 3, none⟩ : Addr).add t) = some u from fun t u hu => by
            rw [add_none]
            exact hc t u hu)
          obtain ⟨s0, hs0⟩ : ∃ s0, (S 0).length = s0 := ⟨_, rfl⟩
          obtain ⟨s1, hs1⟩ : ∃ s1, (S 1).length = s1 := ⟨_, rfl⟩
          obtain ⟨pl, hpl⟩ : ∃ pl, P.length = pl := ⟨_, rfl⟩
          have HPL := Lib.hid hpl
          have H0 := Lib.hid hs0
          have H1 := Lib.hid hs1
          rw [hpl] at hS hP
          have HS := Lib.hid hS
          clear hc hx hS hs0 hs1 hpl
          go_upto_region 11 with (first | ((with_reducible refine at_list ?_); refine wpList_load_chunk 3 _ Try.underlying35 rfl sizeMv ⟨b, o + k * 3, none⟩ rfl x.cells rfl HC.out ?_) | (refine wpList_store_whole 3 sizeMv wr.heap.size rfl _ _ (heap_alloc_new wr _) rfl x.cells rfl rfl (by kernel_rfl) ?_; intro w8 hb8 hm8 hz8; have hS8 := (HS.out.box1 _ _).rebox 0 rfl hb8 hm8; have HS8 := Lib.hid hS8; have zb := heap_lt hb8; clear hb8 hm8 hz8 hS8; generalize wr.heap.size = xb at zb HS8 ⊢))
          clear HC HS hb0 HT
          have x0 := blk_cell (HS8.out.box 0 rfl) 0 (.int .i64 x.what) rfl
          have t4 : w8.cell? ⟨tb, 4, none⟩ = some (.slice (sa 0) s0 (sc 0)) := by rw [← H0.out]; exact blk_cell (HS8.out.box 1 rfl) 4 (.slice (sa 0) (S 0).length (sc 0)) rfl
          have t5 : w8.cell? ⟨tb, 5, none⟩ = some (.slice (sa 1) s1 (sc 1)) := by rw [← H1.out]; exact blk_cell (HS8.out.box 1 rfl) 5 (.slice (sa 1) (S 1).length (sc 1)) rfl
          have htb := heap_lt (HS8.out.box 1 rfl)
          go_cut [7] (fun v wx => w8 = wx ∧ ∃ full : Bool, v = .bool full ∧ (full = false → s0 < 60 ∧ s1 < 60))
          case first =>
            by_cases h0 : 60 ≤ s0
            · have f0 : decide ((60 : Int) ≤ (s0 : Int)) = true := by simp; omega
              go_wp2
              go_meet
              exact ⟨rfl, true, rfl, fun h => by cases h⟩
            · have f0 : decide ((60 : Int) ≤ (s0 : Int)) = false := by simp; omega
              by_cases h1 : 60 ≤ s1
              · have f1 : decide ((60 : Int) ≤ (s1 : Int)) = true := by simp; omega
                go_wp2
                go_meet
                exact ⟨rfl, true, rfl, fun h => by cases h⟩
              · have f1 : decide ((60 : Int) ≤ (s1 : Int)) = false := by simp; omega
                go_wp2
                go_meet
                exact ⟨rfl, false, rfl, fun h => by omega⟩
          case rest =>
          obtain ⟨rfl, full, rfl, hfull⟩ := hcut
          clear t4 t5
          have hpr := pickN_range x.what 8 (by omega)
          go_upto_region 12 with (fail)
          go_cut [71] (fun v wx => w8 = wx ∧ ∃ skip : Bool, v = .bool skip ∧ (skip = false → pickN x.what 8 ≤ 1 → s0 < 60 ∧ s1 < 60))
          case first =>
            cases full with
            | false =>
              go_wp2
              go_meet
              exact ⟨rfl, false, rfl, fun _ _ => by first | exact hfull rfl | exact hfull trivial | simpa using hfull⟩
            | true =>
              by_cases hp1 : pickN x.what 8 ≤ 1
              · have f1 : decide (pickN x.what 8 ≤ 1) = true := by simpa using hp1
                go_wp2_with fail
                refine (pick_is x.what 8 _ HX.out.1.1 HX.out.1.2 (by omega) (by omega)).mono ?_
                rintro e w9 ⟨rfl, rfl⟩
                go_wp2
                go_meet
                exact ⟨rfl, true, rfl, fun h => by cases h⟩
              · have f1 : decide (pickN x.what 8 ≤ 1) = false := by simpa using hp1
                have HP1 := Lib.hid hp1
                clear hp1
                go_wp2_with fail
                refine (pick_is x.what 8 _ HX.out.1.1 HX.out.1.2 (by omega) (by omega)).mono ?_
                rintro e w9 ⟨rfl, rfl⟩
                go_wp2
                go_meet
                exact ⟨rfl, false, rfl, fun _ h => by have := HP1.out; omega⟩
          case rest =>
          obtain ⟨rfl, skip, rfl, hskip⟩ := hcut
          clear hfull x0 htb
          cases skip with
          | true =>
            have HTT := Lib.hid (Two.mk1 HPL.out HS8.out.tail)
            clear HS8
            go_wp2
            go_roundg (gk - 1)
            case measure => omega
            case rel => exact ⟨k + 1, E, S, G, P, by omega, by simp, by omega, HTT.out, HI.out, by rw [HPL.out]; omega⟩
          | false =>
            have HF := Lib.hid (fun h => (show (S 0).length < 60 ∧ (S 1).length < 60 by rw [H0.out, H1.out]; exact hskip rfl h))
            have HTT := Lib.hid (Two.mk1 HPL.out HS8.out.tail)
            clear hskip
            go_wp2_with ((with_reducible refine at_list ?_); refine wpList_load_chunk 3 _ Try.underlying35 rfl sizeMv ⟨xb, 0, none⟩ rfl x.cells rfl (box_chunk (HS8.out.box 0 rfl)) ?_)
            refine (move_two HTT.out HI.out (B := 61 * (k + 1)) (by rw [HPL.out]; omega) (by omega) x HX.out k hk4 HF.out).mono ?_
            rintro e w9 ⟨rfl, E9, S9, G9, P9, hT9, hI9, hP9⟩
            have HT9 := Lib.hid hT9
            have HI9 := Lib.hid hI9
            clear hT9 hI9 HS8 HTT zb
            go_wp2_with fail
            refine (begins_two HT9.out HI9.out (k := 0) (by omega)).mono ?_
            rintro e w10 ⟨rfl, hT10⟩
            have HT10 := Lib.hid hT10
            clear hT10 HT9
            go_wp2_with fail
            refine (begins_two HT10.out HI9.out (k := 1) (by omega)).mono ?_
            rintro e w11 ⟨rfl, hT11⟩
            have HT11 := Lib.hid hT11
            obtain ⟨pb', cn', sa', ga', sc', gc', pa', pc', hS'⟩ := hT11
            have l0 := blk_cell (hS'.box 0 rfl) 2 (.int .i64 1) rfl
            have l1 := blk_cell (hS'.box 0 rfl) 3 (.int .i64 1) rfl
            have htb' := heap_lt (hS'.box 0 rfl)
            clear hS' HT10
            go_wp2
            go_roundg (gk - 1)
            case measure => omega
            case rel => exact ⟨k + 1, E9, S9, G9, P9, by omega, by simp, by omega, HT11.out, HI9.out, hP9⟩
        · have g1 : decide ((k : Int) < (n : Int)) = true := by simp; omega
          have g2 : decide ((k : Int) < 400) = false := by simp; omega
          go_wp2_with fail
          go_meet
          exact ⟨E, S, G, P, HT.out, HI.out, by omega⟩
      · have g1 : decide ((k : Int) < (n : Int)) = false := by simp; omega
        go_wp2_with fail
        go_meet
        exact ⟨E, S, G, P, HT.out, HI.out, by omega⟩
end Go.Proofs.Ytoeokdachojhjaa
