/-
  slices.IndexFunc and slices.DeleteFunc at texts of a link, with what Hear hands over.
  Conditions: the slice lies in a block of its own.
-/
import Derived.Test.YtoeokdachojhjaaLinkC
namespace Go.Proofs.Ytoeokdachojhjaa
open Go.RowKit
set_option linter.unusedSectionVars false
set_option linter.unusedSimpArgs false
set_option linter.unusedVariables false

def CopyPost (v : Value) (w : World) (e : Ending) (w' : World) : Prop := e = .returned v ∧ Mod (fun _ => False) w w'

/-- Does a text stay when a number has been acknowledged? -/
def stays (ad : Int) (t : Tx) : Bool := decide (ad < t.n)

def goes (ab : Nat) : Value := .func (.func 25) #[] #[.pointer (some ⟨ab, 0, none⟩)]
attribute [go_sem] goes

theorem drop1_is (ab : Nat) (ad : Int) (p : Tx) (w : World) (h : w.cell? ⟨ab, 6, none⟩ = some (.int .i64 ad)) (s : Bool) (hs : stays ad p = s) :
    Calls Try.prog 25 #[.agg #[.int .i64 p.n, .string p.s], .pointer (some ⟨ab, 0, none⟩)] w (CopyPost (.bool (!s)) w) := by
  have hab := World.block_lt_of_cell? w _ h
  have HE : Hid ((!s) = decide (p.n ≤ ad)) := by
    show _ = _
    rw [← hs]; unfold stays
    by_cases hh : ad < p.n
    · rw [decide_eq_true hh, decide_eq_false (by omega)]; rfl
    · rw [decide_eq_false hh, decide_eq_true (by omega)]; rfl
  clear hs
  go_enter Try.func25, Try.ntmps25
  go_wp2
  go_ret
  rw [HE.out]
  exact ⟨rfl, (Mod.refl _ _).alloc _⟩

theorem res2 {w : World} {r : Nat} {p : Tx} {T : TypeId} (h : w.heap[r]? = some (.cells p.cells.toArray T (0, 0))) :
    (w.cell? ⟨r, 0, none⟩ = some (.int .i64 p.n) ∧ w.cell? ⟨r, 1, none⟩ = some (.string p.s)) ∧ ∀ j, w.frozen? ⟨r, j, none⟩ = false :=
  ⟨⟨blk_cell h 0 _ rfl, blk_cell h 1 _ rfl⟩, blk_free h⟩

def At2 (w : World) (b o : Nat) (p : Tx) : Prop := w.cell? ⟨b, o, none⟩ = some (.int .i64 p.n) ∧ w.cell? ⟨b, o + 1, none⟩ = some (.string p.s)
theorem Rd.at2 {w : World} {a : Option Addr} {n cap : Nat} {xs : List Tx} (h : Rd w 2 a n cap (ftx xs)) {k : Nat} {p : Tx} (hp : xs[k]? = some p) : ∃ b o, a = some ⟨b, o, none⟩ ∧ At2 w b (o + k * 2) p := by
  obtain ⟨b, o, rfl, _, hc⟩ := h.elem Tx.cells txlen (by omega) hp
  exact ⟨b, o, rfl, hc 0 _ rfl, hc 1 _ rfl⟩
theorem ftx_cons (x : Tx) (xs : List Tx) : ftx (x :: xs) = x.cells ++ ftx xs := rfl
theorem ftx_length (xs : List Tx) : (ftx xs).length = xs.length * 2 := flatk_length Tx.cells txlen xs
theorem ftx_take (xs : List Tx) (i : Nat) : (ftx xs).take (i * 2) = ftx (xs.take i) := flatk_take Tx.cells txlen xs i
theorem ftx_drop (xs : List Tx) (i : Nat) : (ftx xs).drop (i * 2) = ftx (xs.drop i) := flatk_drop Tx.cells txlen xs i

def IdxPost (ad : Int) (xs : List Tx) (w : World) (e : Ending) (w' : World) : Prop :=
  Mod (fun _ => False) w w' ∧ ((e = .returned (.int .i64 (-1)) ∧ ∀ p ∈ xs, stays ad p = true) ∨ ∃ (i : Nat) (p : Tx), e = .returned (.int .i64 i) ∧ xs[i]? = some p ∧ stays ad p = false ∧ ∀ q ∈ xs.take i, stays ad q = true)

theorem take_snoc_all {xs : List Tx} {k : Nat} {p : Tx} {Q : Tx → Prop} (hp : xs[k]? = some p) (h : ∀ q ∈ xs.take k, Q q) (hq : Q p) : ∀ q ∈ xs.take (k + 1), Q q := by
  obtain ⟨hk, rfl⟩ := List.getElem?_eq_some_iff.1 hp
  rw [List.take_succ_eq_append_getElem hk]
  intro q hq'
  rcases List.mem_append.1 hq' with h' | h'
  · exact h q h'
  · rw [List.mem_singleton.1 h']; exact hq

theorem IndexFunc_any (ab : Nat) (ad : Int) (a : Option Addr) (cap n : Nat) (xs : List Tx) (hn : xs.length = n) (w : World) (hr : Rd w 2 a n cap (ftx xs)) (hc : w.cell? ⟨ab, 6, none⟩ = some (.int .i64 ad)) (hl : n ≤ 2 ^ 63 - 1) :
    Calls Try.prog 33 #[.slice a n cap, goes ab] w (IdxPost ad xs w) := by
  have HR := Lib.hid hr
  have HC := Lib.hid hc
  have HN := Lib.hid hn
  clear hr hc hn
  simp only [goes]
  go_enter Try.func33, Try.ntmps33
  go_wp2
  go_loopw [8] (fun i wr => ∃ k : Nat, k ≤ n ∧ i = .int .i64 k ∧ Mod (fun _ => False) w wr ∧ Hid (∀ q ∈ xs.take k, stays ad q = true)) (fun i _ => n - (intOf i).toNat)
  case atStart => exact ⟨0, by omega, rfl, Mod.refl _ _, Lib.hid (by simp)⟩
  case round =>
    obtain ⟨k, hk, rfl, hM, HQ⟩ := hrel
    by_cases hlt : k < n
    · have hp : xs[k]? = some (xs[k]'(HN.out ▸ hlt)) := List.getElem?_eq_getElem _
      obtain ⟨p, hpp⟩ : ∃ p, xs[k]'(HN.out ▸ hlt) = p := ⟨_, rfl⟩
      rw [hpp] at hp
      obtain ⟨b, o, rfl, h8⟩ := (HR.out.mod hM (fun _ _ => id)).at2 hp
      obtain ⟨c0, c1⟩ := h8
      have HX := Lib.hid hp
      have HM := Lib.hid hM
      have HCr := Lib.hid (hM.cell HC.out id)
      have hbl := World.block_lt_of_cell? wr _ c0
      clear hp hpp hM
      cases hs : stays ad p
      · have HS := Lib.hid hs
        clear hs
        go_wp2_with fail
        refine (drop1_is ab ad p wr HCr.out false HS.out).mono ?_
        rintro e w2 ⟨rfl, hM2⟩
        go_wp2
        go_ret
        exact ⟨HM.out.then hM2 (fun _ _ h => h), .inr ⟨k, p, rfl, HX.out, HS.out, HQ.out⟩⟩
      · have HS := Lib.hid hs
        clear hs
        go_wp2_with fail
        refine (drop1_is ab ad p wr HCr.out true HS.out).mono ?_
        rintro e w2 ⟨rfl, hM2⟩
        go_wp2
        refine ⟨⟨k + 1, by omega, by simp, HM.out.then hM2 (fun _ _ h => h), Lib.hid (take_snoc_all HX.out HQ.out HS.out)⟩, by simp only [intOf]; omega⟩
    · obtain rfl : k = n := by omega
      go_wp2
      go_ret
      have hq := HQ.out
      rw [List.take_of_length_le (by rw [HN.out]; exact Nat.le_refl _)] at hq
      exact ⟨hM, .inl ⟨rfl, hq⟩⟩
/-- What the loop of DeleteFunc keeps. -/
def DlRel (w : World) (ad : Int) (b off cap n : Nat) (xs : List Tx) (x y : Value) (j : Nat) (wr : World) : Prop :=
  ∃ (i : Nat) (c : Array Value), x = .int .i64 i ∧ y = .int .i64 j ∧ ((xs.take j).filter (stays ad)).length = i ∧ i < j ∧ j ≤ n ∧ wr.heap[b]? = some (.cells c 68 (0, 0)) ∧ off + cap * 2 ≤ c.size ∧
    (c.toList.drop off).take (i * 2) = ftx ((xs.take j).filter (stays ad)) ∧ (c.toList.drop (off + j * 2)).take ((n - j) * 2) = ftx (xs.drop j) ∧ Mod (fun x => x = b) w wr

theorem filter_snoc {xs : List Tx} {j : Nat} {p : Tx} {ad : Int} (hp : xs[j]? = some p) : (xs.take (j + 1)).filter (stays ad) = (xs.take j).filter (stays ad) ++ (if stays ad p then [p] else []) := by
  obtain ⟨hk, rfl⟩ := List.getElem?_eq_some_iff.1 hp
  rw [List.take_succ_eq_append_getElem hk, List.filter_append]
  congr 1
  by_cases hs : stays ad xs[j] = true
  · rw [if_pos hs]; simp [hs]
  · rw [if_neg hs]; simp [hs]

def DfPost (a : Option Addr) (ys : List Tx) (w : World) (e : Ending) (w' : World) : Prop :=
  ∃ a' cap', e = .returned (.slice a' ys.length cap') ∧ Sl w' 68 2 a' ys.length cap' (ftx ys) ∧ Mod (fun b => own a = some b) w w' ∧ own a' = own a

theorem filter_all {xs : List Tx} {ad : Int} (h : ∀ p ∈ xs, stays ad p = true) : xs.filter (stays ad) = xs := List.filter_eq_self.2 h

set_option maxRecDepth 100000 in
set_option maxHeartbeats 2000000 in
theorem DeleteFunc_any (ab : Nat) (ad : Int) (a : Option Addr) (cap n : Nat) (xs : List Tx) (hn : xs.length = n) (w : World) (hv : Sl w 68 2 a n cap (ftx xs)) (hc : w.cell? ⟨ab, 6, none⟩ = some (.int .i64 ad)) (hl : n ≤ 2 ^ 63 - 1) (hab : own a ≠ some ab) :
    Calls Try.prog 24 #[.slice a n cap, goes ab] w (DfPost a (xs.filter (stays ad)) w) := by
  have HV := Lib.hid hv
  have HC := Lib.hid hc
  have HN := Lib.hid hn
  have hnc := hv.2.1
  clear hv hc hn
  go_enter Try.func24, Try.ntmps24
  go_wp2_with fail
  refine (IndexFunc_any ab ad a cap n xs HN.out w HV.out.rd HC.out hl).mono ?_
  rintro e w1 ⟨hM1, ⟨rfl, hall⟩ | ⟨i, p, rfl, hp, hs, hq⟩⟩
  · have HA := Lib.hid hall
    clear hall
    go_wp2
    go_ret
    refine ⟨a, cap, ?_, ?_, hM1.mono (fun _ _ h => h.elim), rfl⟩
    · rw [filter_all HA.out, HN.out]; rfl
    · rw [filter_all HA.out, HN.out]; exact HV.out.mod hM1 (fun _ _ => id)
  · have hin : i < n := HN.out ▸ (List.getElem?_eq_some_iff.1 hp).1
    obtain ⟨b, off, c, rfl, hg, hfit, htk⟩ : ∃ b off c, a = some ⟨b, off, none⟩ ∧ w1.heap[b]? = some (.cells c 68 (0, 0)) ∧ off + cap * 2 ≤ c.size ∧ (c.toList.drop off).take (n * 2) = ftx xs := by
      obtain ⟨_, _, _, ⟨rfl, h0⟩ | h⟩ := HV.out.mod hM1 (S := fun _ => False) (fun _ _ => id)
      · omega
      · exact h
    have hcap : cap ≤ maxLen := HV.out.2.2.1
    unfold maxLen at hcap
    have hf0 : (xs.take (i + 1)).filter (stays ad) = xs.take i := by
      rw [filter_snoc hp, hs]
      simp only [Bool.false_eq_true, if_false, List.append_nil]
      exact filter_all hq
    have hstart : DlRel w1 ad b off cap n xs (.int .i64 i) (.int .i64 ((i + 1 : Nat) : Int)) (i + 1) w1 := by
      refine ⟨i, c, rfl, rfl, ?_, by omega, by omega, hg, hfit, ?_, ?_, Mod.refl _ _⟩
      · rw [hf0, List.length_take, HN.out]; omega
      · rw [hf0, ← ftx_take, ← htk, List.take_take]
        congr 1; omega
      · rw [← ftx_drop, ← htk, List.drop_take, List.drop_drop]
        congr 1
        omega
    have HST := Lib.hid hstart
    have HCA := Lib.hid hM1
    have hab2 : ab ≠ b := fun e => hab (by rw [own_some, e])
    have HAB := Lib.hid (World.block_lt_of_cell? w _ HC.out)
    have hi1 : ((i : Int) == -1) = false := by simp
    clear hstart hf0 htk hg hp hs hq hM1 hab hfit
    go_wp2
    go_loopg [5, 6] (n - (i + 1)) (fun g x y wr => ∃ j : Nat, j + g = n ∧ DlRel w1 ad b off cap n xs x y j wr)
    case atStart => exact ⟨i + 1, by omega, HST.out⟩
    case round =>
      obtain ⟨j, hjg, i2, c2, rfl, rfl, hlen, hij, hjn, hg, hfit, hd, hrest, hM⟩ := hrel
      by_cases hlt : j < n
      · have hp : xs[j]? = some (xs[j]'(HN.out ▸ hlt)) := List.getElem?_eq_getElem _
        obtain ⟨p, hpp⟩ : ∃ p, xs[j]'(HN.out ▸ hlt) = p := ⟨_, rfl⟩
        rw [hpp] at hp
        have hdj : xs.drop j = p :: xs.drop (j + 1) := by rw [← hpp]; exact List.drop_eq_getElem_cons (HN.out ▸ hlt)
        have hsl : Sl wr 68 2 (some ⟨b, off + j * 2, none⟩) (n - j) (cap - j) (ftx (p :: xs.drop (j + 1))) := by
          refine ⟨?_, by omega, by unfold maxLen; omega, .inr ⟨b, off + j * 2, c2, rfl, hg, ?_, ?_⟩⟩
          · rw [← hdj, ftx_length, List.length_drop, HN.out]
          · have : j * 2 + (cap - j) * 2 = cap * 2 := by omega
            omega
          · rw [← hdj]; exact hrest
        obtain ⟨b', o', he, h8⟩ := hsl.rd.at2 (k := 0) (p := p) rfl
        injection he with he; injection he with he1 he2
        subst he1; subst he2
        obtain ⟨q0, q1⟩ := h8
        rw [Nat.zero_mul, Nat.add_zero] at q0 q1
        have hbl := heap_lt hg
        have HG := Lib.hid hg
        have HD := Lib.hid hd
        have HR := Lib.hid hrest
        have HMM := Lib.hid hM
        have HLN := Lib.hid hlen
        have HX := Lib.hid hp
        have HDJ := Lib.hid hdj
        have hcr : wr.cell? ⟨ab, 6, none⟩ = some (.int .i64 ad) := hM.cell (HCA.out.cell HC.out id) hab2
        have HCR := Lib.hid (((Mod.refl (fun _ => False) wr).alloc (.cells p.cells.toArray 68)).cell hcr id)
        have hxl : (n - j) * 2 = 2 + (n - (j + 1)) * 2 := by omega
        have hrest2 : (c2.toList.drop (off + (j + 1) * 2)).take ((n - (j + 1)) * 2) = ftx (xs.drop (j + 1)) := by
          have h1 := congrArg (List.drop 2) hrest
          rw [hdj, ftx_cons, List.drop_take, List.drop_drop, hxl, Nat.add_sub_cancel_left] at h1
          rw [show off + (j + 1) * 2 = off + j * 2 + 2 by omega, h1]
          show (p.cells ++ ftx (xs.drop (j + 1))).drop p.cells.length = _
          exact List.drop_left
        have HR2 := Lib.hid hrest2
        clear hp hpp hsl hg hd hrest hM hlen hdj hcr hrest2
        cases hs : stays ad p
        · have HS := Lib.hid hs
          clear hs
          go_wp2_with fail
          refine (drop1_is ab ad p _ HCR.out false HS.out).mono ?_
          rintro e w2 ⟨rfl, hM2⟩
          go_wp2
          go_roundg (gk - 1)
          case measure => omega
          case rel =>
            have hfs := filter_snoc (ad := ad) HX.out
            rw [HS.out] at hfs
            simp only [Bool.false_eq_true, if_false, List.append_nil] at hfs
            refine ⟨j + 1, by omega, i2, c2, rfl, by simp, ?_, by omega, by omega, ?_, hfit, ?_, HR2.out, ?_⟩
            · rw [hfs]; exact HLN.out
            · exact hM2.heap (Mod.heap (S := fun _ => False) ((Mod.refl _ wr).alloc _) HG.out id) id
            · rw [hfs]; exact HD.out
            · exact ((HMM.out).alloc _).then hM2 (fun _ _ h => h.elim)
        · have HS := Lib.hid hs
          clear hs
          go_wp2_with fail
          refine (drop1_is ab ad p _ HCR.out true HS.out).mono ?_
          rintro e w2 ⟨rfl, hM2⟩
          have hg2 := hM2.heap (Mod.heap (S := fun _ => False) ((Mod.refl _ wr).alloc (.cells p.cells.toArray 68)) HG.out id) id
          have hv2 := hM2.heap (heap_alloc_new wr (.cells p.cells.toArray 68)) id
          have hzv := heap_lt hv2
          obtain ⟨⟨v0, v1⟩, vf⟩ := res2 (p := p) hv2
          have HG2 := Lib.hid hg2
          have hbl2 := heap_lt hg2
          have hfi : off + i2 * 2 + 2 ≤ c2.size := by
            have : i2 * 2 + 2 ≤ cap * 2 := by omega
            omega
          have HMT : Hid (Mod (fun x => x = b) w1 w2) := Lib.hid (((HMM.out).alloc _).then hM2 (fun _ _ h => h.elim))
          clear hg2 hv2
          go_wp2_with (refine wpList_store_chunk 2 sizeT b (off + i2 * 2) rfl c2 68 HG2.out _ rfl p.cells rfl rfl hfi (fun u hu => ftx_one [p] u (by simpa [ftx] using hu)) ?_; intro w3 hb3 hm3 hz3; have HB3 := Lib.hid hb3; have HM3 := Lib.hid hm3; clear hb3 hm3 hz3)
          go_roundg (gk - 1)
          case measure => omega
          case rel =>
            have hfs := filter_snoc (ad := ad) HX.out
            rw [HS.out] at hfs
            simp only [if_true] at hfs
            have hpl : p.cells.length = 2 := rfl
            have hcl : off + i2 * 2 + p.cells.length ≤ c2.toList.length := by rw [hpl, Array.length_toList]; exact hfi
            refine ⟨j + 1, by omega, i2 + 1, _, by simp, by simp, ?_, by omega, by omega, HB3.out, ?_, ?_, ?_, ?_⟩
            · rw [hfs, List.length_append, HLN.out]; rfl
            · have := splice_length hcl
              simp only [List.size_toArray, this, Array.length_toList]; exact hfit
            · rw [hfs, ftx_append]
              have h1 := splice_before (off := off) (n := i2 * 2) hcl (by omega)
              have h2 : ((splice c2.toList (off + i2 * 2) p.cells).drop (off + i2 * 2)).take 2 = p.cells := splice_at hcl
              rw [show (i2 + 1) * 2 = i2 * 2 + 2 by omega, List.take_add, List.drop_drop, show off + i2 * 2 = off + i2 * 2 from rfl]
              show (((splice c2.toList (off + i2 * 2) p.cells)).drop off).take (i2 * 2) ++ (((splice c2.toList (off + i2 * 2) p.cells)).drop (off + i2 * 2)).take 2 = _
              rw [h1, HD.out, h2]
              simp [ftx]
            · show ((splice c2.toList (off + i2 * 2) p.cells).drop (off + (j + 1) * 2)).take _ = _
              rw [splice_behind hcl (by rw [hpl]; omega)]
              exact HR2.out
            · exact HMT.out.then HM3.out (fun _ _ h => h)
      · obtain rfl : j = n := by omega
        have hfull : xs.take j = xs := List.take_of_length_le (by rw [HN.out]; exact Nat.le_refl _)
        rw [hfull] at hlen hd
        have hslw : Sl wr 68 2 (some ⟨b, off, none⟩) i2 cap (ftx (xs.filter (stays ad))) := ⟨by rw [ftx_length, hlen], by omega, by unfold maxLen; omega, .inr ⟨b, off, c2, rfl, hg, hfit, hd⟩⟩
        have hsla : Sl wr 68 2 (some ⟨b, off, none⟩) j cap ((c2.toList.drop off).take (j * 2)) := by
          refine ⟨?_, by omega, by unfold maxLen; omega, .inr ⟨b, off, c2, rfl, hg, hfit, rfl⟩⟩
          rw [List.length_take, List.length_drop, Array.length_toList]
          have : j * 2 ≤ cap * 2 := by omega
          omega
        have HSW := Lib.hid hslw
        have HSA := Lib.hid hsla
        have HMM := Lib.hid hM
        have HLN := Lib.hid hlen
        have hlj : i2 ≤ j := by omega
        have hli : i2 ≤ cap := by omega
        obtain ⟨ip, hip1, hip2, hip3⟩ := info_parts infoT
        have HI := Lib.hid (And.intro hip1 (And.intro hip2 hip3))
        clear hip1 hip2 hip3
        clear hslw hsla hM hlen hd hrest hg hfull hlt
        have tokA : True := trivial
        go_wp2_with (first
          | (have _t := tokA; (with_reducible refine at_list ?_); refine wpList_cutX 68 2 (by kernel_rfl) cellsT isT (some ⟨b, off, none⟩) j cap _ rfl HSA.out _ _ _ rfl rfl rfl i2 j cap (bounds_l _ _ _ _ (by omega) (by omega)) hlj hnc (Nat.le_refl _) ?_; intro p2 cs2 hp2 hS2 hown2; clear tokA; have tokB : True := trivial)
          | (have _t := tokB; refine wpList_clear 68 ip _ 2 (by kernel_rfl) HI.out.1 HI.out.2.1 rfl (by omega) (by kernel_rfl) _ _ _ _ rfl ‹Sl wr _ _ _ (j - i2) _ _› ?_; intro w2 hM2 hz2 hk2 hc2; clear tokB))
        go_ret
        refine ⟨some ⟨b, off, none⟩, cap, by rw [HLN.out]; rfl, ?_, ?_, rfl⟩
        · rw [HLN.out]
          exact HSW.out.clear_rest hlj hnc hk2 (hp2.out ▸ hc2)
        · refine (HCA.out.mono (T := fun x => own (some (⟨b, off, none⟩ : Addr)) = some x) (fun _ _ h => h.elim)).then ((HMM.out.mono (T := fun x => own (some (⟨b, off, none⟩ : Addr)) = some x) (fun x _ h => by rw [h]; rfl)).then hM2 (fun x _ h => hown2 ▸ h)) (fun _ _ h => h)
end Go.Proofs.Ytoeokdachojhjaa
