/-
  The laws' helpers: lay, size.
  Conditions: what is laid fits.
-/
import Derived.Test.YtecckgapdpmegaaCodecR
import Derived.Test.YtecckgapdpmegaaCodecOpen
namespace Go.Proofs.Ytecckgapdpmegaa
open Go.RowKit
set_option linter.unusedSectionVars false
set_option linter.unusedSimpArgs false
set_option linter.unusedVariables false

/-- What an item is laid as. -/
def layOf (x : It) : List UInt8 :=
  if x.kind = 1 then sevens (zig x.n) else if x.kind = 2 then [if x.is then 1 else 0] else if x.kind = 3 then sevens x.s.size ++ x.s.data.toList else if x.kind = 4 then sevens x.n.toNat else []

theorem layOf_length {x : It} (h : It.ok x) : (layOf x).length ≤ x.s.size + 10 := by
  have h1 := h.1
  have hb := h.2.le
  have e : x.s.data.toList.length = x.s.size := by rw [Array.length_toList]; rfl
  unfold layOf
  split
  · have h2 := zig_lt x.n h1.1 h1.2
    have := sevens_length 10 (zig x.n) (by omega) (by omega); omega
  · split
    · simp
    · split
      · have := sevens_length 10 x.s.size (by omega) (by omega); rw [List.length_append]; omega
      · split
        · have := sevens_length 10 x.n.toNat (by omega) (by omega); omega
        · simp

set_option maxRecDepth 100000 in
theorem lay_st {w0 w : World} {pb : Nat} {ys : List UInt8} {l : List Thing} (h : St w0 w (.wr pb ys :: l)) (x : It) (hx : It.ok x) (hf : bfits (ys.length + 10 + x.s.size)) :
    Calls Try.prog 12 #[.pointer (some ⟨pb, 0, none⟩), .agg x.cells.toArray] w (fun e w' => e = .returned (.string ⟨(layOf x).toArray⟩) ∧ ∃ t, St w0 w' (.wr pb (ys ++ layOf x) :: t :: l)) := by
  obtain ⟨kind, n, is, s⟩ := x
  simp only [It.cells]
  have HX := Lib.hid hx
  have HF := Lib.hid hf
  have h0 := hx.1.1
  have h1 := hx.1.2
  have HS := Lib.hid ((h.alloc #[.int .i64 kind, .int .i64 n, .bool is, .string s] 29).swap)
  clear hx hf h
  go_enter Try.func12, Try.ntmps12
  by_cases q1 : kind = 1
  · skip
    have HL : Hid (layOf ⟨kind, n, is, s⟩ = sevens (zig n)) := by show _ = _; simp only [layOf]; rw [if_pos q1]
    have g1 : (kind == 1) = true := by simpa using q1
    clear q1
    go_wp2_with fail
    refine (wnum_st HS.out n h0 h1 (HF.out.mono (by omega))).mono ?_
    rintro e w5 ⟨rfl, hS⟩
    have cb := blk_cell (hS.box (List.mem_cons_of_mem _ (List.mem_cons_self ..))) 1 _ rfl
    have hzb := heap_lt (hS.box (List.mem_cons_of_mem _ (List.mem_cons_self ..)))
    go_wp2_with fail
    refine (rwnum_any n h0 h1 w5).mono ?_
    rintro e w6 ⟨rfl, hm⟩
    go_wp2
    go_ret
    rw [HL.out]
    exact ⟨rfl, _, hS.mod hm⟩
  by_cases q2 : kind = 2
  · skip
    cases is
    · skip
      have HL : Hid (layOf ⟨kind, n, false, s⟩ = [if false then 1 else 0]) := by show _ = _; simp only [layOf]; rw [if_neg q1, if_pos q2]
      have g1 : (kind == 1) = false := by simpa using q1
      have g2 : (kind == 2) = true := by simpa using q2
      clear q1 q2
      go_wp2_with fail
      refine (wflag_st HS.out false (HF.out.mono (by omega))).mono ?_
      rintro e w5 ⟨rfl, hS⟩
      have cb := blk_cell (hS.box (List.mem_cons_of_mem _ (List.mem_cons_self ..))) 2 _ rfl
      have hzb := heap_lt (hS.box (List.mem_cons_of_mem _ (List.mem_cons_self ..)))
      go_wp2_with fail
      refine (rwflag_any false w5).mono ?_
      rintro e w6 ⟨rfl, hm⟩
      go_wp2
      go_ret
      rw [HL.out]
      exact ⟨rfl, _, hS.mod hm⟩
    · skip
      have HL : Hid (layOf ⟨kind, n, true, s⟩ = [if true then 1 else 0]) := by show _ = _; simp only [layOf]; rw [if_neg q1, if_pos q2]
      have g1 : (kind == 1) = false := by simpa using q1
      have g2 : (kind == 2) = true := by simpa using q2
      clear q1 q2
      go_wp2_with fail
      refine (wflag_st HS.out true (HF.out.mono (by omega))).mono ?_
      rintro e w5 ⟨rfl, hS⟩
      have cb := blk_cell (hS.box (List.mem_cons_of_mem _ (List.mem_cons_self ..))) 2 _ rfl
      have hzb := heap_lt (hS.box (List.mem_cons_of_mem _ (List.mem_cons_self ..)))
      go_wp2_with fail
      refine (rwflag_any true w5).mono ?_
      rintro e w6 ⟨rfl, hm⟩
      go_wp2
      go_ret
      rw [HL.out]
      exact ⟨rfl, _, hS.mod hm⟩
  by_cases q3 : kind = 3
  · skip
    have HL : Hid (layOf ⟨kind, n, is, s⟩ = sevens s.size ++ s.data.toList) := by show _ = _; simp only [layOf]; rw [if_neg q1, if_neg q2, if_pos q3]
    have g1 : (kind == 1) = false := by simpa using q1
    have g2 : (kind == 2) = false := by simpa using q2
    have g3 : (kind == 3) = true := by simpa using q3
    clear q1 q2 q3
    go_wp2_with fail
    refine (wtext_st HS.out s (HF.out.mono (by omega))).mono ?_
    rintro e w5 ⟨rfl, hS⟩
    have cb := blk_cell (hS.box (List.mem_cons_of_mem _ (List.mem_cons_self ..))) 3 _ rfl
    have hzb := heap_lt (hS.box (List.mem_cons_of_mem _ (List.mem_cons_self ..)))
    go_wp2_with fail
    refine (rwtext_any s (HF.out.mono (by omega)) w5).mono ?_
    rintro e w6 ⟨rfl, hm⟩
    go_wp2
    go_ret
    rw [HL.out]
    exact ⟨rfl, _, by rw [← List.append_assoc]; exact hS.mod hm⟩
  by_cases q4 : kind = 4
  · skip
    have HL : Hid (layOf ⟨kind, n, is, s⟩ = sevens n.toNat) := by show _ = _; simp only [layOf]; rw [if_neg q1, if_neg q2, if_neg q3, if_pos q4]
    have g1 : (kind == 1) = false := by simpa using q1
    have g2 : (kind == 2) = false := by simpa using q2
    have g3 : (kind == 3) = false := by simpa using q3
    have g4 : (kind == 4) = true := by simpa using q4
    clear q1 q2 q3 q4
    go_wp2_with fail
    refine (wcount_st HS.out n h0 h1 (HF.out.mono (by omega))).mono ?_
    rintro e w5 ⟨rfl, hS⟩
    have cb := blk_cell (hS.box (List.mem_cons_of_mem _ (List.mem_cons_self ..))) 1 _ rfl
    have hzb := heap_lt (hS.box (List.mem_cons_of_mem _ (List.mem_cons_self ..)))
    go_wp2_with fail
    refine (rwcount_any n h0 h1 w5).mono ?_
    rintro e w6 ⟨rfl, hm⟩
    go_wp2
    go_ret
    rw [HL.out]
    exact ⟨rfl, _, hS.mod hm⟩
  have HL : Hid (layOf ⟨kind, n, is, s⟩ = []) := by show _ = _; simp only [layOf]; rw [if_neg q1, if_neg q2, if_neg q3, if_neg q4]
  have g1 : (kind == 1) = false := by simpa using q1
  have g2 : (kind == 2) = false := by simpa using q2
  have g3 : (kind == 3) = false := by simpa using q3
  have g4 : (kind == 4) = false := by simpa using q4
  clear q1 q2 q3 q4
  go_wp2
  go_ret
  rw [HL.out, List.append_nil]
  exact ⟨rfl, _, HS.out⟩

/-- How many bytes some items have together, by the law's own reckoning. -/
def total : List It → Nat
  | [] => 0
  | x :: l => x.s.size + 11 + total l

theorem total_take : ∀ (l : List It) (k : Nat) (x : It), l[k]? = some x → total (l.take (k + 1)) = total (l.take k) + (x.s.size + 11)
  | [], k, x, h => by simp at h
  | y :: l, 0, x, h => by
    simp only [List.getElem?_cons_zero, Option.some.injEq] at h
    subst h
    simp [total]
  | y :: l, k + 1, x, h => by
    simp only [List.take_succ_cons, total]
    rw [total_take l k x (by simpa using h)]; omega

def SizePost (l : List It) (most : Int) (w : World) (e : Ending) (w' : World) : Prop := ∃ m : Int, e = .returned (.int .i64 m) ∧ w' = w ∧ (m ≤ most → (total l : Int) ≤ most)

set_option maxRecDepth 100000 in
theorem size_any (a : Option Addr) (cap n : Nat) (l : List It) (w : World) (hr : Rd w 4 a n cap (itCells l)) (hn : l.length = n) (hok : ∀ x ∈ l, It.ok x) (hnl : n ≤ 2 ^ 63 - 1) (most : Nat) (hmost : most ≤ 2147483648) :
    Calls Try.prog 10 #[.slice a n cap, .int .i64 most] w (SizePost l most w) := by
  have HR := Lib.hid hr
  have HN := Lib.hid hn
  clear hr hn
  go_enter Try.func10, Try.ntmps10
  go_wp2
  go_loopw [5, 6] (fun x i wr => ∃ (k m : Nat), k ≤ n ∧ i = .int .i64 k ∧ total (l.take k) = m ∧ x = .int .i64 m ∧ m ≤ 8589934592 ∧ wr = w) (fun _ i _ => n - (intOf i).toNat)
  case atStart => exact ⟨0, 0, by omega, rfl, rfl, rfl, by omega, rfl⟩
  case round =>
    obtain ⟨k, m, hk, rfl, hm, rfl, hmb, rfl⟩ := hrel
    have HM := Lib.hid hm
    clear hm
    by_cases hlt : k < n
    · have hkl : k < l.length := HN.out ▸ hlt
      have hx : l[k]? = some l[k] := List.getElem?_eq_getElem hkl
      obtain ⟨x, hxx⟩ : ∃ x, l[k] = x := ⟨_, rfl⟩
      rw [hxx] at hx
      have hxo : It.ok x := hok x (List.mem_of_getElem? hx)
      obtain ⟨b, o, hab, c0, c1, c2, c3⟩ := HR.out.item hx
      have HT := Lib.hid (total_take l k x hx)
      subst hab
      have hbl : b < wr.heap.size := World.block_lt_of_cell? wr _ c0
      have hzl : x.s.size ≤ 2 ^ 63 - 1 := hxo.2.le
      by_cases hle : m ≤ most
      · by_cases hzz : most < x.s.size
        · have gz : decide (most < x.s.size) = true := by simpa using hzz
          clear hx hxx hxo hzz
          go_wp2
          go_ret
          exact ⟨_, rfl, rfl, fun h => by omega⟩
        · have gz : decide (most < x.s.size) = false := by simpa using hzz
          have hzz' : x.s.size ≤ most := by omega
          clear hx hxx hxo hzz
          go_wp2
          refine ⟨⟨k + 1, m + x.s.size + 11, by omega, by simp, by rw [HT.out, HM.out]; omega, by simp, by omega, trivial⟩, ?_⟩
          simp only [intOf]; omega
      · clear hx hxx hxo
        go_wp2
        go_ret
        exact ⟨_, rfl, rfl, fun h => by omega⟩
    · obtain rfl : k = n := by omega
      clear hlt
      go_wp2
      go_ret
      refine ⟨_, rfl, rfl, fun h => ?_⟩
      have := HM.out
      rw [List.take_of_length_le (by rw [HN.out]; exact Nat.le_refl _)] at this
      omega

theorem size_bound (a : Option Addr) (cap n : Nat) (l : List It) (w : World) (hr : Rd w 4 a n cap (itCells l)) (hn : l.length = n) (hok : ∀ x ∈ l, It.ok x) (hnl : n ≤ 2 ^ 63 - 1) :
    Calls Try.prog 10 #[.slice a n cap, .int .i64 2147483548] w (SizePost l 2147483548 w) := size_any a cap n l w hr hn hok hnl 2147483548 (by omega)

/-- One item's cells, all in a row. -/
theorem Rd.itemc {w : World} {a : Option Addr} {n cap : Nat} {l : List It} (h : Rd w 4 a n cap (itCells l)) {i : Nat} {x : It} (hx : l[i]? = some x) :
    ∃ b o, a = some ⟨b, o, none⟩ ∧ b < w.heap.size ∧ ∀ j u, x.cells[j]? = some u → w.cell? (Addr.add ⟨b, o + i * 4, none⟩ j) = some u := by
  obtain ⟨b, o, rfl, c0, c1, c2, c3⟩ := h.item hx
  refine ⟨b, o, rfl, World.block_lt_of_cell? w _ c0, fun j u hu => ?_⟩
  rw [add_none]
  match j, hu with
  | 0, hu => obtain rfl : Value.int .i64 x.kind = u := by simpa [It.cells] using hu
             exact c0
  | 1, hu => obtain rfl : Value.int .i64 x.n = u := by simpa [It.cells] using hu
             exact c1
  | 2, hu => obtain rfl : Value.bool x.is = u := by simpa [It.cells] using hu
             exact c2
  | 3, hu => obtain rfl : Value.string x.s = u := by simpa [It.cells] using hu
             exact c3
  | j + 4, hu => simp [It.cells] at hu

/-- What items are laid as, one behind the other. -/
def layAll : List It → List UInt8
  | [] => []
  | x :: l => layOf x ++ layAll l

theorem layAll_append : ∀ (l m : List It), layAll (l ++ m) = layAll l ++ layAll m
  | [], m => rfl
  | x :: l, m => by rw [List.cons_append, layAll, layAll, layAll_append l m, List.append_assoc]

theorem layAll_take {l : List It} {k : Nat} {x : It} (h : l[k]? = some x) : layAll (l.take (k + 1)) = layAll (l.take k) ++ layOf x := by
  obtain ⟨hl, he⟩ := List.getElem?_eq_some_iff.1 h
  rw [List.take_succ_eq_append_getElem hl, layAll_append, he, layAll, layAll, List.append_nil]

theorem layAll_drop {l : List It} {k : Nat} {x : It} (h : l[k]? = some x) : (layAll l).drop (layAll (l.take k)).length = layOf x ++ layAll (l.drop (k + 1)) := by
  obtain ⟨hl, he⟩ := List.getElem?_eq_some_iff.1 h
  have e : layAll l = layAll (l.take k) ++ (layOf x ++ layAll (l.drop (k + 1))) := by
    conv => lhs; rw [← List.take_append_drop k l]
    rw [layAll_append, List.drop_eq_getElem_cons hl, he, layAll]
  rw [e, List.drop_left]

theorem layAll_length : ∀ {l : List It}, (∀ x ∈ l, It.ok x) → (layAll l).length ≤ total l
  | [], _ => Nat.zero_le _
  | x :: l, h => by
    have h1 := layOf_length (h x (List.mem_cons_self ..))
    have h2 := layAll_length (l := l) fun y hy => h y (List.mem_cons_of_mem _ hy)
    rw [layAll, total, List.length_append]; omega

theorem total_le : ∀ (l : List It) (k : Nat), total (l.take k) ≤ total l
  | [], k => by simp
  | x :: l, 0 => by simp [total]
  | x :: l, k + 1 => by rw [List.take_succ_cons, total, total]; have := total_le l k; omega
theorem total_mem {l : List It} {x : It} {k : Nat} (h : l[k]? = some x) : total (l.take k) + (x.s.size + 11) ≤ total l := by
  rw [← total_take l k x h]; exact total_le _ _
end Go.Proofs.Ytecckgapdpmegaa
