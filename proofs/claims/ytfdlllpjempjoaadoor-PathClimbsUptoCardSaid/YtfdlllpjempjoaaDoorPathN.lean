/-
  Numbered: the program's and the document's.
  Conditions: the texts are not longer than any text is; the table of powers of ten lies in the world.
-/
import Derived.Test.YtfdlllpjempjoaaDoorPathR
namespace Go.Proofs.YtfdlllpjempjoaaDoor
open Go.RowKit
set_option linter.unusedSectionVars false
set_option linter.unusedSimpArgs false
set_option linter.unusedVariables false
set_option maxRecDepth 100000

def Tab (w : World) : Prop := Lib.TabIs Tryd.prog w "internal/strconv.uint64pow10" .u64 Lib.pow10Tab
theorem gPow : Tryd.prog.globalNamed "internal/strconv.uint64pow10" = some 1 := by kernel_rfl
theorem Tab.old {w w' : World} (h : Tab w) (k : Old w w') : Tab w' := by
  unfold Tab Lib.TabIs World.var? at h ⊢
  rw [gPow] at h ⊢
  simp only [Option.bind_some] at h ⊢
  have hlt : 1 < w.heap.size := by
    rcases Nat.lt_or_ge 1 w.heap.size with h' | h'
    · exact h'
    · rw [Array.getElem?_eq_none h'] at h; cases h
  rw [k.keep 1 hlt (fun h => h)]
  exact h
theorem Old.grow (w : World) (os : Array Obj) : Old w (Go.Sort.grow w os) := by
  refine ⟨rfl, rfl, rfl, by simp [Go.Sort.grow], fun b hb _ => ?_⟩
  show (w.heap ++ os)[b]? = _
  rw [Array.getElem?_append_left hb]

theorem repeat_zeros : ∀ n, Lib.repeatL [48] n = List.replicate n 48
  | 0 => rfl
  | n + 1 => by rw [Lib.repeatL, repeat_zeros n]; rfl
theorem dg_dec (u j : Nat) : Lib.dg u j = dec (u / 10 ^ j % 10) := rfl
theorem lowT_get : ∀ (u j t : Nat), t < j → (lowT u j)[t]? = some (Lib.dg u (j - 1 - t))
  | u, 0, t, h => by omega
  | u, j + 1, t, h => by
    rw [lowT_front]
    cases t with
    | zero => rw [List.getElem?_cons_zero, dg_dec]; rfl
    | succ t =>
      rw [List.getElem?_cons_succ, lowT_get u j t (by omega)]
      congr 2
      omega
theorem dg_zero {u j : Nat} (h : Lib.nDigits u ≤ j) : Lib.dg u j = 48 := by
  have h1 := Lib.lt_pow_nDigits u
  have h2 : u < 10 ^ j := Nat.lt_of_lt_of_le h1 (Nat.pow_le_pow_right (by omega) h)
  rw [Lib.dg, Nat.div_eq_of_lt h2]
  rfl
/-- The last ten of ten noughts and the digits. -/
theorem last_ten (u : Nat) : (List.replicate 10 48 ++ Lib.decDigits u).drop (Lib.decDigits u).length = lowT u 10 := by
  apply List.ext_getElem?
  intro t
  rw [List.getElem?_drop]
  have hl : (Lib.decDigits u).length = Lib.nDigits u := Lib.decDigits_length u
  by_cases ht : t < 10
  · rw [lowT_get u 10 t ht]
    by_cases h : (Lib.decDigits u).length + t < 10
    · rw [List.getElem?_append_left (by simpa using h), List.getElem?_replicate, if_pos h, dg_zero (by omega)]
    · rw [List.getElem?_append_right (by simpa using h), List.length_replicate, Lib.decDigits_eq]
      rw [List.getElem?_map, ← Lib.decDigits_eq, List.getElem?_range (by omega)]
      simp only [Option.map_some]
      congr 2
      omega
  · rw [List.getElem?_eq_none (by rw [List.length_append, List.length_replicate]; omega), List.getElem?_eq_none (by rw [lowT_length]; omega)]

theorem Numbered_any (p : ByteArray) (n : Int) (hp : p.size ≤ 4611686018427387902) (h0 : -9223372036854775808 ≤ n) (h1 : n ≤ 9223372036854775807) (w : World) (hT : Tab w) :
    Calls Tryd.prog 19 #[.string p, .int .i64 n] w (CopyPost (.string (bs (numL p.data.toList n))) w) := by
  have cR := Tryd.strings_Repeat ⟨#[48]⟩ 10 w (by omega) (by decide)
  have hrp : Lib.repeatL ([48] : List UInt8) 10 = List.replicate 10 48 := repeat_zeros 10
  obtain ⟨u, hu⟩ : ∃ u : Nat, max n 0 = (u : Int) := ⟨(max n 0).toNat, (Int.toNat_of_nonneg (by omega)).symm⟩
  have hu63 : (u : Int) ≤ 9223372036854775807 := by omega
  have cI := fun w hT => Tryd.strconv_Itoa (u : Int) (by omega) hu63 w hT
  have hit : Lib.itoa (u : Int) = Lib.decDigits u := by unfold Lib.itoa; rw [if_neg (by omega)]; simp
  rw [hit] at cI
  obtain ⟨Y, hY⟩ : ∃ Y : ByteArray, (⟨(Lib.decDigits u).toArray⟩ : ByteArray) = Y := ⟨_, rfl⟩
  rw [hY] at cI
  have hYl : Y.data.toList = Lib.decDigits u := by rw [← hY]
  obtain ⟨S, hS⟩ : ∃ S : ByteArray, (⟨#[48, 48, 48, 48, 48, 48, 48, 48, 48, 48]⟩ : ByteArray) ++ Y = S := ⟨_, rfl⟩
  have hSl : S.data.toList = List.replicate 10 48 ++ Lib.decDigits u := by rw [← hS, ByteArray.data_append, Array.toList_append, hYl]; rfl
  have hYs : Y.size ≤ 20 := by
    rw [size_list, hYl, Lib.decDigits_length]
    exact Lib.nDigits_le20 u (by omega)
  have hSs : S.size = Y.size + 10 := by
    rw [size_list, hSl, size_list, hYl, List.length_append, List.length_replicate]; omega
  have zS : (S.size : Int) - 10 = (Y.size : Int) := by omega
  have zS2 : (Y.size : Int) ≤ (S.size : Int) := by omega
  have hX : p ++ S.extract Y.size (Y.size + 10) = bs (numL p.data.toList n) := by
    apply bs_of
    rw [ByteArray.data_append, Array.toList_append, Lib.extract_data, Nat.add_sub_cancel_left, hSl, size_list Y, hYl, last_ten, numL, hu]
    congr 1
  have HX := Lib.hid hX
  have HT := Lib.hid hT
  clear hT hX hSl hYl hY
  go_enter Tryd.func19, Tryd.ntmps19
  go_wp2_with (first
    | (go_at_call 29; refine cR.mono ?_; rintro e w1 ⟨rfl, hb⟩; have hO1 := Old.of hb; clear cR hb)
    | (go_at_call 30; refine (cI w1 (HT.out.old hO1)).mono ?_; rintro e w2 ⟨rfl, kk, os, hw2⟩; have hO2 : Old w1 w2 := (by rw [hw2]; exact Old.join ((Old.rfl' w1).drewN kk) (Old.grow _ os)); clear hw2))
  all_goals
    go_ret
    exact ⟨by first | (rw [← HX.out] <;> rfl) | rfl, hO1.join hO2⟩

/-! ### The document's -/

/-- A block of ten that holds the lowest digits at its end. -/
def Ten (W : World) (b k : Nat) (ds : List UInt8) : Prop := ∃ (c : Array Value) (e : TypeId), W.heap[b]? = some (.cells c e (0, 0)) ∧ c.size = 10 ∧ k + ds.length = 10 ∧ ∀ i v, (bc ds)[i]? = some v → c[k + i]? = some v
theorem Ten.cell {W : World} {b k m : Nat} {ds : List UInt8} (h : Ten W b k ds) (hm : m < 10) : ∃ v, W.cell? ⟨b, m, none⟩ = some v := by
  obtain ⟨c, e, h1, h2, _⟩ := h
  exact ⟨_, blk_cell h1 m c[m] (Array.getElem?_eq_getElem (by omega))⟩
theorem Ten.free {W : World} {b k : Nat} {ds : List UInt8} (h : Ten W b k ds) (m : Nat) : W.frozen? ⟨b, m, none⟩ = false := by
  obtain ⟨c, e, h1, _⟩ := h
  exact blk_free h1 m
theorem dec_val (d : Nat) (h : d < 10) : (48 + (d : Int)) = ((dec d).toNat : Int) := by
  have : ∀ d : Fin 10, (48 + (d.1 : Int)) = ((dec d.1).toNat : Int) := by decide
  exact this ⟨d, h⟩
theorem Ten.put {W : World} {b m : Nat} {ds : List UInt8} (h : Ten W b (m + 1) ds) (d : Nat) (hd : d < 10) : Ten (W.setCell ⟨b, m, none⟩ (.int .u8 (48 + (d : Int)))) b m (dec d :: ds) := by
  rw [dec_val d hd]
  obtain ⟨c, e, h1, h2, h3, h4⟩ := h
  refine ⟨_, e, blk_set (.int .u8 (dec d).toNat) h1, by simpa using h2, by simp; omega, fun i v hv => ?_⟩
  match i, hv with
  | 0, hv =>
    simp [bc] at hv
    subst hv
    rw [Nat.add_zero, Array.getElem?_setIfInBounds]
    simp [h2]; omega
  | i + 1, hv =>
    have := h4 i v (by simpa [bc] using hv)
    rw [Array.getElem?_setIfInBounds, if_neg (by omega), show m + (i + 1) = m + 1 + i by omega]
    exact this
theorem Ten.rd {W : World} {b : Nat} {ds : List UInt8} (h : Ten W b 0 ds) : Rd W 1 (some ⟨b, 0, none⟩) 10 10 (bc ds) := by
  obtain ⟨c, e, h1, h2, h3, h4⟩ := h
  refine ⟨by rw [bc_length]; omega, Nat.le_refl _, by unfold maxLen; omega, .inr ⟨_, rfl, fun i u hu => ?_⟩⟩
  rw [add_none]
  exact blk_cell h1 _ _ (by have := h4 i u hu; simpa using this)
theorem infoU8 : (Tryd.prog.info? 5).map (fun i => (i.zero, i.size, i.bytes)) = some (some (.int .u8 0), 1, 1) := by kernel_rfl
def tenV : Array Value := madeCells #[.int .u8 0] 10
theorem make10 (W : World) : (Instr.makeSlice 39 (.int .i64 10) (.int .i64 10)).run Tryd.prog W = .ok (.slice (some ⟨W.heap.size, 0, none⟩) 10 10) (W.alloc (.cells tenV 5)) := by
  obtain ⟨i, hi, he⟩ := Option.map_eq_some_iff.1 infoU8
  simp only [Prod.mk.injEq] at he
  obtain ⟨hz, hs, hb⟩ := he
  have := run_make (P := Tryd.prog) W 39 5 i _ (by kernel_rfl) hi hz .i64 .i64 10 10 (by omega) (by omega) (by rw [hb]; omega) (by omega)
  rw [hs] at this
  exact this

set_option maxHeartbeats 2000000 in
theorem refNumbered_any (p : ByteArray) (n : Int) (hp : p.size ≤ 4611686018427387902) (h0 : -9223372036854775808 ≤ n) (h1 : n ≤ 9223372036854775807) (w : World) :
    Calls Tryd.prog 20 #[.string p, .int .i64 n] w (CopyPost (.string (bs (numL p.data.toList n))) w) := by
  obtain ⟨N, hN⟩ : ∃ N : Nat, max n 0 = (N : Int) := ⟨(max n 0).toNat, (Int.toNat_of_nonneg (by omega)).symm⟩
  have hN63 : N ≤ 9223372036854775807 := by omega
  have hmk := make10 w
  have hT0 : Ten (w.alloc (.cells tenV 5)) w.heap.size 10 (lowT N 0) := ⟨_, _, heap_alloc_new w _, size_madeCells _ _, rfl, fun i v h => by simp [lowT, bc] at h⟩
  have hO0 : Old w (w.alloc (.cells tenV 5)) := (Old.rfl' w).alloc _
  have hE : bs (numL p.data.toList n) = p ++ ⟨(lowT N 10).toArray⟩ := by
    apply ByteArray.ext
    apply Array.toList_inj.1
    simp [bs, numL, hN, ByteArray.data_append]
  have HE := Lib.hid hE
  clear hE
  generalize w.alloc (.cells tenV 5) = wa at hmk hT0 hO0
  have H0 := Lib.hid hT0
  clear hT0
  generalize hbl : w.heap.size = bl at hmk H0
  go_enter Tryd.func20, Tryd.ntmps20
  go_wp2
  go_loopg [1, 6] 10 (fun g y1 y6 wx => ∃ j : Nat, j + g = 10 ∧ y6 = .int .i64 ((g : Int) - 1) ∧ y1 = .int .i64 ((N / 10 ^ j : Nat) : Int) ∧ Old w wx ∧ Ten wx bl g (lowT N j))
  case atStart => exact ⟨0, by omega, by simp, by simp, hO0, H0.out⟩
  case round =>
    obtain ⟨j, hj, rfl, rfl, hO, hTl⟩ := hrel
    obtain ⟨U, hU⟩ : ∃ U, N / 10 ^ j = U := ⟨_, rfl⟩
    rw [hU]
    have hU63 : U ≤ 9223372036854775807 := hU ▸ Nat.le_trans (Nat.div_le_self _ _) hN63
    have HUU := Lib.hid hU
    clear hU
    by_cases hg0 : gk = 0
    · subst hg0
      have hj2 : j = 10 := by omega
      subst hj2
      generalize hL : lowT N 10 = L at hTl HE
      have hLl : L.length = 10 := by rw [← hL, lowT_length]
      have hL63 : (L.length : Int) = 10 := by omega
      have HT := Lib.hid hTl
      clear hTl hL
      have zz : ((0 : Nat) : Int) - 1 = -1 := by omega
      go_wp2_with ((with_reducible refine at_list ?_); refine wpList_toString 5 (by kernel_rfl) (by kernel_rfl) (by kernel_rfl) (some ⟨bl, 0, none⟩) 10 10 rfl L HT.out.rd ?_)
      go_ret
      exact ⟨by rw [HE.out] <;> rfl, hO⟩
    · obtain ⟨m, rfl⟩ : ∃ m, gk = m + 1 := ⟨gk - 1, by omega⟩
      have zm : ((m + 1 : Nat) : Int) - 1 = (m : Int) := by omega
      obtain ⟨v0, hv0⟩ := hTl.cell (m := m) (by omega)
      have hfz := hTl.free m
      have zm10 : (m : Int) < 10 := by omega
      have zm10' : m < 10 := by omega
      have HT := Lib.hid hTl
      clear hTl
      have hrem : (U : Int) % 10 = ((U % 10 : Nat) : Int) := by omega
      have hremt : Int.tmod (U : Int) 10 = ((U % 10 : Nat) : Int) := by rw [Int.tmod_eq_emod_of_nonneg (by omega)]; omega
      have hquo : (U : Int) / 10 = ((U / 10 : Nat) : Int) := by omega
      have hquot : Int.tdiv (U : Int) 10 = ((U / 10 : Nat) : Int) := by rw [Int.tdiv_eq_ediv_of_nonneg (by omega)]; omega
      have hD : U % 10 < 10 := Nat.mod_lt _ (by omega)
      have zD : ((U % 10 : Nat) : Int) < 10 := by omega
      generalize hDD : U % 10 = D at hrem hremt hD zD
      have HDD := Lib.hid hDD
      clear hDD
      generalize hV : U / 10 = V at hquo hquot
      have HV := Lib.hid hV
      have hV63 : V ≤ 9223372036854775807 := by omega
      clear hV
      go_wp2
      go_roundg m
      case measure => omega
      case rel =>
        refine ⟨j + 1, by omega, rfl, ?_, hO.setCell _ _ (fun h => absurd h (by show ¬ bl < _; omega)), ?_⟩
        · rw [← HV.out, ← HUU.out, Nat.div_div_eq_div_mul, Nat.pow_succ]
        · rw [lowT_front, HUU.out, HDD.out]
          exact HT.out.put D hD
end Go.Proofs.YtfdlllpjempjoaaDoor
