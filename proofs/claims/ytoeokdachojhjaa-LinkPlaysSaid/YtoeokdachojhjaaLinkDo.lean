/-
  do: a step on the program's link and on the document's: they answer alike, and stay alike.
  Conditions: the two are alike; the counters are below an int's greatest.
-/
import Derived.Test.YtoeokdachojhjaaRefG
namespace Go.Proofs.Ytoeokdachojhjaa
open Go.RowKit
set_option linter.unusedSectionVars false
set_option linter.unusedSimpArgs false
set_option linter.unusedVariables false

theorem St.third {w0 w : World} {a b c : Thing} {l : List Thing} (h : St w0 w (a :: b :: c :: l)) : St w0 w (c :: a :: b :: l) := h.perm (List.perm_append_comm_assoc [a, b] [c] l)
theorem St.swap2 {w0 w : World} {a b : Thing} {l : List Thing} (h : St w0 w (a :: b :: l)) : St w0 w (b :: a :: l) := h.perm (.swap _ _ _)

def DoPost (w0 : World) (pb rb : Nat) (P : Lk) (l : List Thing) (e : Ending) (w' : World) : Prop :=
  e = .returned (.bool true) ∧ ∃ P' R' K', Alike P' R' K' ∧ P'.last ≤ P.last + 1 ∧ P'.cnt ≤ P.cnt + 1 ∧ P'.life = P.life ∧ St w0 w' (lk pb P' :: rk rb R' K' :: l)

theorem send_life (L : Lk) (s : ByteArray) : (L.send s).life = L.life := by unfold Lk.send; split <;> rfl
theorem behind_life (L : Lk) (n : Int) : (L.behind n).life = L.life := by unfold Lk.behind; split <;> rfl
theorem hear_life (L : Lk) (p : Pk) : (L.hear p).life = L.life := by
  unfold Lk.hear
  split
  · rfl
  · split
    · rfl
    · split
      · rfl
      · split
        · rfl
        · exact main_life L p

theorem packets_n (a b : Option Addr) (ca cb n : Nat) (xs : List Pk) (hn : xs.length = n) (w : World) (ha : Rd w 8 a n ca (flat xs)) (hb : Rd w 8 b n cb (flat xs)) :
    Calls Try.prog 27 #[.slice a n ca, .slice b n cb] w (DrawPost (.bool true) w) := by subst hn; exact packets_yes a b ca cb xs w ha hb
theorem texts_n (a b : Option Addr) (ca cb n : Nat) (xs : List ByteArray) (hn : xs.length = n) (w : World) (ha : Rd w 1 a n ca (xs.map .string)) (hb : Rd w 1 b n cb (xs.map .string)) :
    Calls Try.prog 13 #[.slice a n ca, .slice b n cb] w (DrawPost (.bool true) w) := by subst hn; exact texts_yes a b ca cb xs w ha hb

set_option maxRecDepth 100000 in
set_option maxHeartbeats 4000000 in
theorem do_st {w0 w : World} {pb rb : Nat} {P R : Lk} {K : List Tx} {l : List Thing} (h : St w0 w (lk pb P :: rk rb R K :: l)) (hA : Alike P R K) (hlast : P.last < 9223372036854775807) (hcnt : P.cnt < 2000000000000) (x : Stp) (hx : x.ok) :
    Calls Try.prog 21 #[.pointer (some ⟨pb, 0, none⟩), .pointer (some ⟨rb, 0, none⟩), .agg x.cells.toArray] w (DoPost w0 pb rb P l) := by
  have hS := (h.box1 x.cells.toArray 53).perm (List.perm_append_comm_assoc [_] [_, _] l)
  have b0 := blk_cell (hS.box 2 rfl) 0 (.int .i64 x.what) rfl
  have b1 := blk_cell (hS.box 2 rfl) 1 (.string x.text) rfl
  have hzb := heap_lt (hS.box 2 rfl)
  have HA := Lib.hid hA
  have hq := hA.few
  have hl0 := hA.last0
  have hkc := hA.cnt
  have hw0 := hx.1.1
  have hw1 := hx.1.2
  have hf0 := hx.2.1
  have hf1 := hx.2.2
  simp only [Stp.cells]
  clear h hA hx
  go_enter Try.func21, Try.ntmps21
  go_wp2_with fail
  change Calls _ _ _ (w.alloc (.cells x.cells.toArray 53)) _
  generalize w.alloc (.cells x.cells.toArray 53) = W at hS b0 b1 hzb ⊢
  generalize w.heap.size = tb at hS b0 b1 hzb ⊢
  refine (pick_any x.what 4 W hw0 hw1 (by omega) (by omega)).mono ?_
  rintro e w1 ⟨k, hk, rfl, rfl⟩
  by_cases k0 : k = 0
  · subst k0
    have HS := Lib.hid hS
    have he := HA.out.sendErr
    have HE := Lib.hid he
    clear hS he
    go_wp2
    go_region_held3 (fun w' => w'.cell? ⟨tb, 1, none⟩ = some (.string x.text)) (first | exact b1 | exact c5 | exact c6 | go_keep)
      ((first
        | (go_at_call 16; refine (lSend_st (HS.out.mod ((Mod.refl _ _).drewN _)) x.text hq hl0 hlast).mono ?_; rintro e w5 ⟨rfl, hS5⟩; have c5 := blk_cell (hS5.box 2 rfl) 1 (.string x.text) rfl)
        | (go_at_call 26; refine (rSend_st hS5.swap2 x.text (by rw [HA.out.queue]; exact hq) (by rw [HA.out.last]; exact hl0) (by rw [HA.out.last]; exact hlast)).mono ?_; rw [HE.out]; rintro e w6 ⟨rfl, hS6⟩; have c6 := blk_cell (hS6.box 2 rfl) 1 (.string x.text) rfl)))
    go_wp2
    go_ret
    obtain ⟨a1, a2, a3⟩ := HA.out.send x.text
    exact ⟨by simp, _, _, _, a1, a2, by omega, send_life _ _, (hS6.swap2.perm (List.perm_append_comm_assoc [_, _] [_] l)).tail⟩
  by_cases k1 : k = 1
  · subst k1
    have HS := Lib.hid hS
    clear hS
    go_wp2_with fail
    refine (lFlush_st HS.out hq).mono ?_
    rintro e w2 ⟨a2, cap2, rfl, hS2⟩
    have HS2 := Lib.hid hS2.third
    clear hS2
    go_wp2_with fail
    refine (rFlush_st HS2.out (by rw [HA.out.queue]; exact hq)).mono ?_
    rw [HA.out.sent, HA.out.out]
    rintro e w3 ⟨a3, cap3, rfl, hS3⟩
    have HS3 := Lib.hid hS3
    clear hS3
    go_wp2_with fail
    refine (packets_yes a2 a3 cap2 cap3 (P.out P.sent) w3 (HS3.out.slice 2 rfl).rd (HS3.out.slice 0 rfl).rd).mono ?_
    rintro e w4 ⟨d, rfl, rfl⟩
    go_wp2
    go_ret
    obtain ⟨a1, a4, a5⟩ := HA.out.behind P.sent
    exact ⟨by simp, _, _, _, a1, by omega, by omega, behind_life _ _, (((HS3.out.drewN d).tail.third).perm (List.perm_append_comm_assoc [_, _] [_, _] l)).tail.tail⟩
  by_cases k2 : k = 2
  · subst k2
    have HS := Lib.hid hS
    clear hS
    go_wp2_with fail
    refine (lTick_st HS.out hq).mono ?_
    rintro e w2 ⟨a2, cap2, rfl, hS2⟩
    have HS2 := Lib.hid hS2.third
    clear hS2
    go_wp2_with fail
    refine (rTick_st HS2.out (by rw [HA.out.queue]; exact hq)).mono ?_
    rw [HA.out.out]
    rintro e w3 ⟨a3, cap3, rfl, hS3⟩
    have HS3 := Lib.hid hS3
    clear hS3
    go_wp2_with fail
    refine (packets_yes a2 a3 cap2 cap3 (P.out 0) w3 (HS3.out.slice 2 rfl).rd (HS3.out.slice 0 rfl).rd).mono ?_
    rintro e w4 ⟨d, rfl, rfl⟩
    go_wp2
    go_ret
    obtain ⟨a1, a4, a5⟩ := HA.out.behind 0
    exact ⟨by simp, _, _, _, a1, by omega, by omega, behind_life _ _, (((HS3.out.drewN d).tail.third).perm (List.perm_append_comm_assoc [_, _] [_, _] l)).tail.tail⟩
  · have g0 : ((k : Int) == 0) = false := by simp; omega
    have g1 : ((k : Int) == 1) = false := by simp; omega
    have g2 : ((k : Int) == 2) = false := by simp; omega
    clear k0 k1 k2
    have chunk : ∀ wx : World, wx.heap[tb]? = some (.cells x.cells.toArray 53 (0, 0)) → ∀ j u, x.pk.cells[j]? = some u → wx.cell? ((⟨tb, 2, none⟩ : Addr).add j) = some u := fun wx hb j u hu => by
      rw [add_none]
      refine blk_cell hb (2 + j) u ?_
      rw [List.getElem?_toArray, show x.cells = .int .i64 x.what :: .string x.text :: x.pk.cells from rfl, Nat.add_comm 2 j]
      simpa using hu
    have HC := Lib.hid (chunk _ (hS.box 2 rfl))
    have HCH := Lib.hid chunk
    have HS := Lib.hid hS
    obtain ⟨e1, e2, e3, e4, e5⟩ := HA.out.hear x.pk hf1
    have HE1 := Lib.hid e1
    have HE2 := Lib.hid e2
    have HE3 := Lib.hid e3
    have HE4 := Lib.hid e4
    clear hS chunk e1 e2 e3 e4
    go_wp2_with ((with_reducible refine at_list ?_); refine wpList_load_chunk 8 _ Try.underlying41 rfl sizeP ⟨tb, 2, none⟩ rfl x.pk.cells rfl HC.out ?_)
    refine (lHear_st HS.out x.pk HA.out.ok (by unfold maxLen; omega) hf0 hf1).mono ?_
    rintro e w2 ⟨a2, cap2, rfl, hS2⟩
    have HC2 := Lib.hid (HCH.out _ (hS2.box 3 rfl))
    have hz2 := heap_lt (hS2.box 3 rfl)
    have HS2 := Lib.hid hS2.third
    clear hS2 HC HS b0 b1
    go_wp2_with ((with_reducible refine at_list ?_); refine wpList_load_chunk 8 _ Try.underlying41 rfl sizeP ⟨tb, 2, none⟩ rfl x.pk.cells rfl HC2.out ?_)
    refine (rHear_st HS2.out x.pk HA.out.near (by omega) hf0 hf1).mono ?_
    rw [HE1.out, HE2.out]
    rintro e w3 ⟨a3, cap3, rfl, hS3⟩
    have HS3 := Lib.hid hS3
    clear hS3
    go_wp2_with fail
    refine (texts_yes a2 a3 cap2 cap3 (P.heard x.pk) w3 (HS3.out.slice 2 rfl).rd (HS3.out.slice 0 rfl).rd).mono ?_
    rintro e w4 ⟨d, rfl, rfl⟩
    go_wp2
    go_ret
    have h4 := HE4.out
    exact ⟨by simp, _, _, _, HE3.out, by omega, by omega, hear_life _ _, (((HS3.out.drewN d).tail.third).perm (List.perm_append_comm_assoc [_, _] [_, _] l)).tail.tail⟩
end Go.Proofs.Ytoeokdachojhjaa
