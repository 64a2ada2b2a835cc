/-
  Events, hellos, notes as bytes: package wire's Put.., and the document's.
  Conditions: the texts fit.
-/
import Derived.Test.YtmbkbkfcbloafaaWireB
namespace Go.Proofs.Ytmbkbkfcbloafaa
open Go.RowKit
set_option linter.unusedSectionVars false
set_option linter.unusedSimpArgs false
set_option linter.unusedVariables false
set_option maxRecDepth 100000

theorem mk_size (xs : List UInt8) : (ByteArray.mk xs.toArray).size = xs.length := by show xs.toArray.size = _; simp
theorem mk_append (xs ys : List UInt8) : ByteArray.mk xs.toArray ++ ByteArray.mk ys.toArray = ⟨(xs ++ ys).toArray⟩ := by
  apply ByteArray.ext; simp

/-- The document's nums. -/
theorem rnums_any (a : Option Addr) (n cap : Nat) (ns : List Int) (hn : ns.length = n) (hr : ∀ t ∈ ns, i64 t) (hl : n ≤ 200000000000000) (w : World) (hs : Rd w 1 a n cap (ic ns)) :
    Calls Try.prog 35 #[.slice a n cap] w (TextPost (numsB ns) w) := by
  have HN := Lib.hid hn
  have HR := Lib.hid hr
  have HS := Lib.hid hs
  clear hn hr hs
  go_enter Try.func35, Try.ntmps35
  go_wp2
  go_loopg [3, 4] n (fun g x y wr => ∃ k : Nat, k + g = n ∧ y = .int .i64 k ∧ x = .string ⟨(numsB (ns.take k)).toArray⟩ ∧ Mod (fun _ => False) w wr)
  case atStart => exact ⟨0, by omega, rfl, rfl, Mod.refl _ _⟩
  case round =>
    obtain ⟨k, hkg, rfl, rfl, hM⟩ := hrel
    obtain ⟨A, hA⟩ : ∃ A, ByteArray.mk (numsB (ns.take k)).toArray = A := ⟨_, rfl⟩
    rw [hA]
    have HA := Lib.hid hA
    have hAs : A.size ≤ 10 * k := by
      rw [← hA, mk_size]
      exact Nat.le_trans (numsB_len _ fun t ht => HR.out t (List.mem_of_mem_take ht)) (by rw [List.length_take]; omega)
    clear hA
    by_cases hlt : k < n
    · have hx : ns[k]? = some (ns[k]'(HN.out ▸ hlt)) := List.getElem?_eq_getElem _
      obtain ⟨t, hxx⟩ : ∃ x, ns[k]'(HN.out ▸ hlt) = x := ⟨_, rfl⟩
      rw [hxx] at hx
      obtain ⟨b, o, rfl, hbl, hc⟩ := (HS.out.mod hM (fun _ _ => id)).int hx
      have HX := Lib.hid hx
      have ht := HR.out t (List.mem_of_getElem? hx)
      clear hx hxx
      go_wp2_with fail
      refine (rwnum_any t ht.1 ht.2 wr).mono ?_
      rintro e w1 ⟨rfl, hM1⟩
      obtain ⟨B, hB⟩ : ∃ B, ByteArray.mk (sevens (zig t)).toArray = B := ⟨_, rfl⟩
      rw [hB]
      have hBs : B.size ≤ 10 := by rw [← hB, mk_size]; exact numB_len ht
      have HB := Lib.hid hB
      have hbound : A.size + B.size ≤ 9223372036854775807 := by omega
      clear hB
      go_wp2
      go_roundg (gk - 1)
      case measure => omega
      case rel =>
        refine ⟨k + 1, by omega, by simp, ?_, hM.then hM1 (fun _ _ h => h)⟩
        rw [numsB_snoc HX.out, ← mk_append, HA.out, HB.out]
    · have hk : k = n := by omega
      clear hkg hlt
      go_wp2
      go_ret
      rw [hk, List.take_of_length_le (by rw [HN.out]; exact Nat.le_refl _)] at HA
      exact ⟨by rw [HA.out]; rfl, hM⟩

theorem putEvent_any (x : Ev) (hx : x.ok) (w : World) :
    Calls Try.prog 27 #[.agg x.cells.toArray, .func (.func 28) #[] #[]] w (TextPost x.bytes w) := by
  have hS := (St.start w).box1 x.cells.toArray 23
  have HX := Lib.hid hx
  have hd : x.cells.length = 3 := rfl
  obtain ⟨a, b, c⟩ := x
  simp only [Ev.cells] at hS hd ⊢
  clear hx hd
  go_enter Try.func27, Try.ntmps27
  go_wp2_with fail
  refine (wnew_st hS).mono ?_
  clear hS
  rintro e w1 ⟨pb, rfl, hS⟩
  have c0 := blk_cell (hS.box 1 rfl) 0 (.int .i64 a) rfl
  have c1 := blk_cell (hS.box 1 rfl) 1 (.string b) rfl
  have c2 := blk_cell (hS.box 1 rfl) 2 (.int .i64 c) rfl
  have hz := heap_lt (hS.box 1 rfl)
  go_wp2_with fail
  refine (layEvent_st hS ⟨a, b, c⟩ HX.out).mono ?_
  clear hS
  rintro e w2 ⟨rfl, hS⟩
  go_wp2_with fail
  refine (wbytes_st hS 0 rfl).mono ?_
  rintro e w3 ⟨rfl, rfl⟩
  go_wp2
  go_ret
  exact ⟨rfl, hS.1⟩

theorem PutEvent_any (x : Ev) (hx : x.ok) (w : World) :
    Calls Try.prog 8 #[.agg x.cells.toArray] w (TextPost x.bytes w) := by
  have HX := Lib.hid hx
  obtain ⟨a, b, c⟩ := x
  simp only [Ev.cells]
  clear hx
  go_enter Try.func8, Try.ntmps8
  go_wp2_with fail
  refine (putEvent_any ⟨a, b, c⟩ HX.out _).mono ?_
  rintro e w1 ⟨rfl, hM⟩
  go_wp2
  go_ret
  exact ⟨rfl, ((Mod.refl _ w).alloc _).then hM (fun _ _ h => h)⟩

theorem putHello_any (x : He) (hx : x.ok) (w : World) :
    Calls Try.prog 29 #[.agg x.cells.toArray, .func (.func 30) #[] #[]] w (TextPost x.bytes w) := by
  have hS := (St.start w).box1 x.cells.toArray 25
  have HX := Lib.hid hx
  have hd : x.cells.length = 4 := rfl
  obtain ⟨a, b, c, d⟩ := x
  simp only [He.cells] at hS hd ⊢
  clear hx hd
  go_enter Try.func29, Try.ntmps29
  go_wp2_with fail
  refine (wnew_st hS).mono ?_
  clear hS
  rintro e w1 ⟨pb, rfl, hS⟩
  have c0 := blk_cell (hS.box 1 rfl) 0 (.int .i64 a) rfl
  have c1 := blk_cell (hS.box 1 rfl) 1 (.int .i64 b) rfl
  have c2 := blk_cell (hS.box 1 rfl) 2 (.int .i64 c) rfl
  have c3 := blk_cell (hS.box 1 rfl) 3 (.string d) rfl
  have hz := heap_lt (hS.box 1 rfl)
  go_wp2_with fail
  refine (layHello_st hS ⟨a, b, c, d⟩ HX.out).mono ?_
  clear hS
  rintro e w2 ⟨rfl, hS⟩
  go_wp2_with fail
  refine (wbytes_st hS 0 rfl).mono ?_
  rintro e w3 ⟨rfl, rfl⟩
  go_wp2
  go_ret
  exact ⟨rfl, hS.1⟩

theorem PutHello_any (x : He) (hx : x.ok) (w : World) :
    Calls Try.prog 9 #[.agg x.cells.toArray] w (TextPost x.bytes w) := by
  have HX := Lib.hid hx
  obtain ⟨a, b, c, d⟩ := x
  simp only [He.cells]
  clear hx
  go_enter Try.func9, Try.ntmps9
  go_wp2_with fail
  refine (putHello_any ⟨a, b, c, d⟩ HX.out _).mono ?_
  rintro e w1 ⟨rfl, hM⟩
  go_wp2
  go_ret
  exact ⟨rfl, ((Mod.refl _ w).alloc _).then hM (fun _ _ h => h)⟩

theorem putNote_any (x : No) (hx : x.ok) (w : World) :
    Calls Try.prog 31 #[.agg x.cells.toArray, .func (.func 32) #[] #[]] w (TextPost x.bytes w) := by
  have hS := (St.start w).box1 x.cells.toArray 27
  have HX := Lib.hid hx
  have hd : x.cells.length = 6 := rfl
  obtain ⟨a, b, c, d, e, f⟩ := x
  simp only [No.cells] at hS hd ⊢
  clear hx hd
  go_enter Try.func31, Try.ntmps31
  go_wp2_with fail
  refine (wnew_st hS).mono ?_
  clear hS
  rintro e w1 ⟨pb, rfl, hS⟩
  have c0 := blk_cell (hS.box 1 rfl) 0 (.int .i64 a) rfl
  have c1 := blk_cell (hS.box 1 rfl) 1 (.int .i64 b) rfl
  have c2 := blk_cell (hS.box 1 rfl) 2 (.int .i64 c) rfl
  have c3 := blk_cell (hS.box 1 rfl) 3 (.int .i64 d) rfl
  have c4 := blk_cell (hS.box 1 rfl) 4 (.int .i64 e) rfl
  have c5 := blk_cell (hS.box 1 rfl) 5 (.int .i64 f) rfl
  have hz := heap_lt (hS.box 1 rfl)
  go_wp2_with fail
  refine (layNote_st hS ⟨a, b, c, d, e, f⟩ HX.out).mono ?_
  clear hS
  rintro e w2 ⟨rfl, hS⟩
  go_wp2_with fail
  refine (wbytes_st hS 0 rfl).mono ?_
  rintro e w3 ⟨rfl, rfl⟩
  go_wp2
  go_ret
  exact ⟨rfl, hS.1⟩

theorem PutNote_any (x : No) (hx : x.ok) (w : World) :
    Calls Try.prog 10 #[.agg x.cells.toArray] w (TextPost x.bytes w) := by
  have HX := Lib.hid hx
  obtain ⟨a, b, c, d, e, f⟩ := x
  simp only [No.cells]
  clear hx
  go_enter Try.func10, Try.ntmps10
  go_wp2_with fail
  refine (putNote_any ⟨a, b, c, d, e, f⟩ HX.out _).mono ?_
  rintro e w1 ⟨rfl, hM⟩
  go_wp2
  go_ret
  exact ⟨rfl, ((Mod.refl _ w).alloc _).then hM (fun _ _ h => h)⟩
end Go.Proofs.Ytmbkbkfcbloafaa
