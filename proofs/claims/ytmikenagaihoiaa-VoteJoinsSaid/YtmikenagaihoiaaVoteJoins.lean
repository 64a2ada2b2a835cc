/-
  VoteJoins: whoever looks joins a leader that says so itself, with a quorum that says it, at once, whatever votes it has heard.
  No condition.
-/
import Derived.Test.YtmikenagaihoiaaVoteJ
import Derived.Test.YtmikenagaihoiaaVoteOpen
import Derived.Deep.CutBlock
namespace Go.Proofs.Ytmikenagaihoiaa
open Go.RowKit
set_option linter.unusedSectionVars false
set_option linter.unusedSimpArgs false
set_option linter.unusedVariables false

def No.look (x : No) : No := { x with st := 0 }

set_option maxRecDepth 100000 in
set_option maxHeartbeats 4000000 in
theorem joins_walk (sv ep zx rd : Int) (hsv : wf64 sv) (hrd : wf64 rd) (a1 : Option Addr) (c1 n1 : Nat) (before : List No) (hn1 : before.length = n1)
    (W : World) (hr1 : Rd W 6 a1 n1 c1 (before.flatMap No.cells)) (hl1 : n1 ≤ 2 ^ 63 - 1) :
    Calls Try.prog 4 #[.int .i64 sv, .int .i64 ep, .int .i64 zx, .slice a1 n1 c1, .int .i64 rd] W (CopyPost (.bool true) W) := by
  have HR1 := Lib.hid hr1
  have HN1 := Lib.hid hn1
  clear hr1 hn1
  go_enter Try.func4, Try.ntmps4
  go_wp2_with fail
  refine (awake_any W).mono ?_
  rintro e w1 ⟨rfl, hm⟩
  have HS := Lib.hid (St.begin hm)
  clear hm
  go_wp2_with fail
  refine (pick_any sv 3 w1 hsv.1 hsv.2 (by omega) (by omega)).mono ?_
  rintro e w2 ⟨ks, hks, rfl, rfl⟩
  obtain ⟨q, hq⟩ : ∃ q : Int, 1 + (ks : Int) = q := ⟨_, rfl⟩
  obtain ⟨N, hN⟩ : ∃ N : Int, 3 + 2 * (ks : Int) = N := ⟨_, rfl⟩
  have hw0 : IntKind.i64.wrap (2 * (ks : Int)) = 2 * (ks : Int) := IntWalk.i64_in _ (by omega)
  have hw1 : IntKind.i64.wrap (3 + 2 * (ks : Int)) = N := by rw [← hN]; exact IntWalk.i64_in _ (by omega)
  have hNq : N = 2 * q + 1 := by omega
  have hq1 : 1 ≤ q := by omega
  have hq3 : q ≤ 3 := by omega
  have hdv : N.tdiv 2 = q := by rw [Int.tdiv_eq_ediv_of_nonneg (by omega)]; omega
  have hw2 : IntKind.i64.wrap q = q := IntWalk.i64_in _ (by omega)
  have hw3 : IntKind.i64.wrap (q + 2) = q + 2 := IntWalk.i64_in _ (by omega)
  have HNq := Lib.hid hNq
  clear hq hN hNq
  go_wp2_with fail
  refine (vnew_st HS.out 1 N).mono ?_
  rintro e w3 ⟨pb, rfl, hS3⟩
  go_wp2_with fail
  refine (look_st 1 N hS3 ep zx (by unfold wf64; omega) (by omega) (by have := HNq.out; omega) (by have := HNq.out; omega)).mono ?_
  rintro e w4 ⟨a4, cap4, rfl, hS4⟩
  have HS4 := Lib.hid hS4.tail
  clear HS hS3 hS4 hw0 hw1
  have HJ := Lib.hid (fun R => Jn.look (R := R) HNq.out hq1 hq3 ep zx)
  go_upto_block 0 with fail
  go_cut [] (fun wx => ∃ V, (∀ R, Jn N q R 0 V) ∧ St W wx [vr pb V])
  case first =>
    go_wp2_with fail
    go_loopg [14] n1 (fun g y wr => ∃ k : Nat, k + g = n1 ∧ y = .int .i64 k ∧ ∃ V, (∀ R, Jn N q R 0 V) ∧ St W wr [vr pb V])
    case atStart => exact ⟨0, by omega, rfl, _, HJ.out, HS4.out⟩
    case round =>
      clear HS4 HJ
      obtain ⟨k, hkg, rfl, V, hJ, hS⟩ := hrel
      by_cases hlt : k < n1
      · have hx : before[k]? = some (before[k]'(HN1.out ▸ hlt)) := List.getElem?_eq_getElem _
        obtain ⟨x, hxx⟩ : ∃ x, before[k]'(HN1.out ▸ hlt) = x := ⟨_, rfl⟩
        rw [hxx] at hx
        obtain ⟨b, o, rfl, hbl0, hc⟩ := HR1.out.elem No.cells nolen (by omega) hx
        have hbl : b < wr.heap.size := by have := hS.1.size; omega
        have HC := Lib.hid (show ∀ t u, x.cells[t]? = some u → wr.cell? ((⟨b, o + k * 6, none⟩ : Addr).add t) = some u from fun t u hu => by
          rw [add_none]
          exact hS.1.cell (hc t u hu) id)
        have HS := Lib.hid (hS.flat (hJ 0).ok)
        have HJ := Lib.hid (fun R => (hJ R).flat)
        clear hx hxx hc hS hJ
        obtain ⟨V1, hV1⟩ : ∃ V1, V.flat = V1 := ⟨_, rfl⟩
        have hn0 : V1.hn = 1000 := by rw [← hV1]; rfl
        have hs0 : V1.sn = 1000 := by rw [← hV1]; rfl
        rw [hV1] at HS HJ
        clear hV1
        go_wp2_with (first | ((with_reducible refine at_list ?_); refine wpList_load_chunk 6 _ Try.underlying23 rfl sizeN ⟨b, o + k * 6, none⟩ rfl x.cells rfl HC.out ?_) | (refine wpList_store_whole 6 sizeN wr.heap.size rfl _ _ (heap_alloc_new wr _) rfl x.cells rfl rfl (by kernel_rfl) ?_; intro w8 hb8 hm8 hz8; have hS8 := (HS.out.box1 _ _).rebox 0 rfl hb8 hm8; have hS9 := hS8.set 0 rfl 1 (.int .i64 0); have HS8 := Lib.hid hS8; have HS9 := Lib.hid hS9; have f1 := blk_free hb8 1; have q1 : w8.cell? ⟨wr.heap.size, 1, none⟩ = some (.int .i64 x.st) := blk_cell hb8 1 _ rfl; have zb := heap_lt hb8; clear hb8 hm8 hz8 hS8 hS9; generalize wr.heap.size = tb at f1 q1 zb HS8 HS9 ⊢) | ((with_reducible refine at_list ?_); refine wpList_load_chunk 6 _ Try.underlying23 rfl sizeN ⟨_, 0, none⟩ rfl x.look.cells rfl (box_chunk (HS9.out.box 0 rfl)) ?_))
        have HT := Lib.hid HS9.out.tail
        clear HS HS8 HS9 f1 q1 zb HC
        refine (hear_st HT.out x.look (HJ.out 0).ok (by rw [hn0]; omega) (by rw [hs0]; omega)).mono ?_
        rintro e w9 ⟨a9, cap9, rfl, hS⟩
        have HU := Lib.hid hS.tail
        clear hS HT
        go_wp2
        go_roundg (gk - 1)
        case measure => omega
        case rel => exact ⟨k + 1, by omega, by simp, _, fun R => (HJ.out R).looker hq1 rfl, HU.out⟩
      · have HS := Lib.hid hS
        have HJ := Lib.hid hJ
        clear hS hJ
        go_wp2_with fail
        go_meet
        exact ⟨V, HJ.out, HS.out⟩
  case rest =>
    clear HS4 HJ
    obtain ⟨V, hJ, hS⟩ := hcut
    have HS := Lib.hid hS
    have HJ0 := Lib.hid hJ
    clear hJ hS
    go_wp2_with fail
    refine (pick_any rd 9 _ hrd.1 hrd.2 (by omega) (by omega)).mono ?_
    rintro e w5 ⟨kr, hkr, rfl, rfl⟩
    obtain ⟨R, hR⟩ : ∃ R : Int, 1 + (kr : Int) = R := ⟨_, rfl⟩
    have hw4 : IntKind.i64.wrap (1 + (kr : Int)) = R := by rw [← hR]; exact IntWalk.i64_in _ (by omega)
    have hR1 : 1 ≤ R := by omega
    have HJ := Lib.hid (HJ0.out R)
    clear HJ0 hR
    obtain ⟨Q, hQ⟩ : ∃ Q : Nat, (Q : Int) = q := ⟨q.toNat, by omega⟩
    have HQ := Lib.hid hQ
    clear hQ
    go_upto_block 2 with fail
    go_cut [4] (fun v4 wx => v4 = .int .i64 R ∧ ∃ V, Jn N q R (Q + 1) V ∧ St W wx [vr pb V])
    case first =>
      go_wp2_with fail
      go_loopg [16] (Q + 1) (fun g y wr => ∃ j : Nat, j + g = Q + 1 ∧ y = .int .i64 ((j : Int) + 2) ∧ ∃ V, Jn N q R j V ∧ St W wr [vr pb V])
      case atStart => exact ⟨0, by omega, rfl, _, HJ.out, HS.out⟩
      case round =>
        clear HS HJ
        obtain ⟨j, hjg, rfl, V, hJ, hS⟩ := hrel
        have hQq := HQ.out
        by_cases hlt : j < Q + 1
        · have hle : decide ((j : Int) + 2 ≤ q + 2) = true := by simp; omega
          have hle1 : (j : Int) + 2 ≤ q + 2 := by omega
          have HL : Hid (V.leads = .tuple #[.int .i64 0, .bool false]) := Lib.hid (by rw [Vr.leads, (hJ.lo (by omega)).1]; rfl)
          have HS := Lib.hid (hS.flat hJ.ok)
          have HLF : Hid (V.flat.leads = .tuple #[.int .i64 0, .bool false]) := HL
          have HJ := Lib.hid hJ.flat
          have hjq : (j : Int) ≤ q := by omega
          have hj0 : (0 : Int) ≤ (j : Int) := by omega
          clear hJ hS hQq hlt HL
          obtain ⟨V1, hV1⟩ : ∃ V1, V.flat = V1 := ⟨_, rfl⟩
          have hn0 : V1.hn = 1000 := by rw [← hV1]; rfl
          have hs0 : V1.sn = 1000 := by rw [← hV1]; rfl
          rw [hV1] at HS HJ HLF
          clear hV1
          go_wp2_with fail
          by_cases hjj : (j : Int) = q
          · have ge : ((j : Int) + 2 == q + 2) = true := by simpa using hjj
            have hx : jstate q j = 2 := by unfold jstate; rw [if_pos hjj]
            clear hjj
            have HX := Lib.hid hx
            clear hx
            refine (leader_st HS.out).mono ?_
            rw [HLF.out]
            rintro e w6 ⟨rfl, hS6⟩
            have HS6 := Lib.hid hS6
            clear hS6
            go_wp2_with fail
            refine (hear_st HS6.out ⟨(j : Int) + 2, 2, R, q + 2, 1, 0⟩ HJ.out.ok (by rw [hn0]; omega) (by rw [hs0]; omega)).mono ?_
            rw [show (⟨(j : Int) + 2, 2, R, q + 2, 1, 0⟩ : No) = jnote q R ((j : Int) + 2) (jstate q j) by unfold jnote; rw [HX.out]]
            rintro e w7 ⟨a7, cap7, rfl, hS7⟩
            have HS7 := Lib.hid hS7.tail
            clear HS HS6 hS7
            go_wp2
            go_roundg (gk - 1)
            case measure => have := HQ.out; omega
            case rel => exact ⟨j + 1, by have := HQ.out; omega, by simp; omega, _, HJ.out.step HNq.out hq1 hR1 hjq, HS7.out⟩
          · have ge : ((j : Int) + 2 == q + 2) = false := by simpa using hjj
            have hx : jstate q j = 1 := by unfold jstate; rw [if_neg hjj]
            clear hjj
            have HX := Lib.hid hx
            clear hx
            refine (leader_st HS.out).mono ?_
            rw [HLF.out]
            rintro e w6 ⟨rfl, hS6⟩
            have HS6 := Lib.hid hS6
            clear hS6
            go_wp2_with fail
            refine (hear_st HS6.out ⟨(j : Int) + 2, 1, R, q + 2, 1, 0⟩ HJ.out.ok (by rw [hn0]; omega) (by rw [hs0]; omega)).mono ?_
            rw [show (⟨(j : Int) + 2, 1, R, q + 2, 1, 0⟩ : No) = jnote q R ((j : Int) + 2) (jstate q j) by unfold jnote; rw [HX.out]]
            rintro e w7 ⟨a7, cap7, rfl, hS7⟩
            have HS7 := Lib.hid hS7.tail
            clear HS HS6 hS7
            go_wp2
            go_roundg (gk - 1)
            case measure => have := HQ.out; omega
            case rel => exact ⟨j + 1, by have := HQ.out; omega, by simp; omega, _, HJ.out.step HNq.out hq1 hR1 hjq, HS7.out⟩
        · have hle : decide ((j : Int) + 2 ≤ q + 2) = false := by simp; omega
          have hjq : j = Q + 1 := by omega
          subst hjq
          have HS := Lib.hid hS
          have HJ := Lib.hid hJ
          clear hJ hS hlt
          go_wp2_with fail
          go_meet
          exact ⟨rfl, V, HJ.out, HS.out⟩
    case rest =>
      clear HS HJ
      obtain ⟨rfl, V, hJ, hS⟩ := hcut
      obtain ⟨h1, h2, h3⟩ := hJ.hi (by have := HQ.out; omega)
      have HL : Hid (V.leads = .tuple #[.int .i64 (q + 2), .bool true]) := Lib.hid (by rw [Vr.leads, if_pos h1, h2])
      have HR : Hid (V.round = R) := Lib.hid h3
      have HS := Lib.hid hS
      clear hJ hS h1 h2 h3
      go_wp2_with fail
      refine (leader_st HS.out).mono ?_
      rw [HL.out]
      rintro e w6 ⟨rfl, hS6⟩
      have HS6 := Lib.hid hS6
      clear hS6 HS
      go_wp2_with fail
      refine (round_st HS6.out).mono ?_
      rw [HR.out]
      rintro e w7 ⟨rfl, hS7⟩
      have HM := Lib.hid hS7.1
      clear hS7 HS6
      go_wp2
      go_ret
      exact ⟨rfl, HM.out⟩
end Go.Proofs.Ytmikenagaihoiaa
