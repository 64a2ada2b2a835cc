/-
  CodecAgain: what is taken up of any bytes is laid again.
  No condition.
-/
import Derived.Test.YtecckgapdpmegaaCodecOpen
namespace Go.Proofs.Ytecckgapdpmegaa
open Go.ChangeShapes Go.WideShapes Go.ChangeAt Go.RowKit Go.Deep
set_option linter.unusedVariables false
set_option linter.unusedSimpArgs false

def roomy (m n : Nat) : Prop := m + n + 10 ≤ 200000000000000
theorem roomy.bf {m n k : Nat} (h : roomy m n) (hk : k ≤ m + n + 10) : bfits k := Nat.le_trans hk h

/-- What holds between the items: the reader's state s, the writer's bytes. -/
def AgRel (W : World) (rb wb : Nat) (bs : List UInt8) (k : Nat) (wr : World) : Prop :=
  ∃ s ys, St W wr [.rd rb bs s, .wr wb ys] ∧ Goes bs s ys ∧ ys.length ≤ bs.length + k ∧ s.ok bs.length

set_option maxRecDepth 100000 in
theorem again_walk (a : Option Addr) (cap n : Nat) (l : List It) (bs : ByteArray) (W : World) (hr : Rd W 4 a n cap (itCells l)) (hn : l.length = n) (hok : ∀ x ∈ l, It.ok x) (hf : bfits bs.size) (hroom : roomy bs.data.toList.length n) (hnl : n ≤ 2 ^ 63 - 1) :
    Calls Try.prog 6 #[.string bs, .slice a n cap] W (AwPost W) := by
  have HR := Lib.hid hr
  have HN := Lib.hid hn
  have HROOM := Lib.hid hroom
  clear hr hn hroom
  go_enter Try.func6, Try.ntmps6
  go_wp2_with fail
  refine (awake_any W).mono ?_
  rintro e w1 ⟨rfl, hm⟩
  go_wp2_with fail
  refine (rread_st ((St.start W).mod hm) bs hf).mono ?_
  clear hm
  rintro e w2 ⟨rb, rfl, hS⟩
  go_wp2_with fail
  refine (wnew_st hS).mono ?_
  clear hS
  rintro e w3 ⟨wb, rfl, hS⟩
  have hS := hS.swap
  go_wp2
  go_loopw [8] (fun i wr => ∃ k : Nat, k ≤ n ∧ i = .int .i64 k ∧ AgRel W rb wb bs.data.toList k wr) (fun i _ => n - (intOf i).toNat)
  case atStart => exact ⟨0, by omega, rfl, ⟨0, 0⟩, [], hS, fun _ => by simp, by simp, Nat.zero_le _, .inl rfl⟩
  case round =>
    clear hS
    obtain ⟨k, hk, rfl, s, ys, hS, hg, hl, hso⟩ := hrel
    by_cases hlt : k < n
    · have hkl : k < l.length := HN.out ▸ hlt
      have hx : l[k]? = some l[k] := List.getElem?_eq_getElem hkl
      obtain ⟨x, hxx⟩ : ∃ x, l[k] = x := ⟨_, rfl⟩
      rw [hxx] at hx
      have hxo : It.ok x := hok x (List.mem_of_getElem? hx)
      obtain ⟨b, o, hab, h0, h1, h2, h3⟩ := (HR.out.mod hS.1 (fun _ _ h => h)).item hx
      subst hab
      have hbl : b < wr.heap.size := World.block_lt_of_cell? wr _ h0
      have hxr := hxo.1
      clear hx hxx hxo
      by_cases q1 : x.kind = 1
      · skip
        have g1 : (x.kind == 1) = true := by simpa using q1
        clear q1

        go_wp2_with fail
        refine (rnum_st hS).mono ?_
        clear hS
        rintro e w5 ⟨rfl, hS⟩
        have hS := hS.swap
        go_wp2_with fail
        refine (wnum_st hS _ (zag_range (rsev_ok hso).1).1 (zag_range (rsev_ok hso).1).2 (HROOM.out.bf (by omega))).mono ?_
        clear hS
        rintro e w6 ⟨rfl, hS⟩
        have hS := hS.swap
        go_wp2
        refine ⟨⟨k + 1, by omega, by simp, _, _, hS, goes_num hg, wide_num hso hg hl, rnum_ok hso⟩, ?_⟩
        simp only [intOf]; omega
      by_cases q2 : x.kind = 2
      · skip
        have g1 : (x.kind == 1) = false := by simpa using q1
        have g2 : (x.kind == 2) = true := by simpa using q2
        clear q1 q2

        go_wp2_with fail
        refine (rflag_st hS).mono ?_
        clear hS
        rintro e w5 ⟨rfl, hS⟩
        have hS := hS.swap
        go_wp2_with fail
        refine (wflag_st hS _ (HROOM.out.bf (by omega))).mono ?_
        clear hS
        rintro e w6 ⟨rfl, hS⟩
        have hS := hS.swap
        go_wp2
        refine ⟨⟨k + 1, by omega, by simp, _, _, hS, goes_flag hg, wide_flag hl, rflag_ok hso⟩, ?_⟩
        simp only [intOf]; omega
      by_cases q3 : x.kind = 3
      · skip
        have HT : Hid (ys.length + 10 + (ByteArray.mk (rtext bs.data.toList x.n s).1.toArray).size ≤ bs.data.toList.length + n + 10) := by
          show _ ≤ _
          have := (wide_text x.n hso hg hl).2
          have e1 : (ByteArray.mk (rtext bs.data.toList x.n s).1.toArray).size = (rtext bs.data.toList x.n s).1.length := by show (rtext bs.data.toList x.n s).1.toArray.size = _; simp
          rw [e1]; omega
        have g1 : (x.kind == 1) = false := by simpa using q1
        have g2 : (x.kind == 2) = false := by simpa using q2
        have g3 : (x.kind == 3) = true := by simpa using q3
        clear q1 q2 q3

        go_wp2_with fail
        refine (rtext_st hS x.n hxr.1 hxr.2).mono ?_
        clear hS
        rintro e w5 ⟨rfl, hS⟩
        have hS := hS.swap
        go_wp2_with fail
        refine (wtext_st hS _ (HROOM.out.bf HT.out)).mono ?_
        clear hS
        rintro e w6 ⟨rfl, hS⟩
        have hS := hS.swap
        go_wp2
        refine ⟨⟨k + 1, by omega, by simp, _, _, hS, goes_text x.n hso hg, (wide_text x.n hso hg hl).1, rtext_ok hso⟩, ?_⟩
        simp only [intOf]; omega
      by_cases q4 : x.kind = 4
      · skip
        have HC : Hid (-9223372036854775808 ≤ ((rcount bs.data.toList x.n s).1 : Int) ∧ ((rcount bs.data.toList x.n s).1 : Int) ≤ 9223372036854775807) := by
          show _ ∧ _
          have := (rcount_ok (most := x.n) hso).2
          omega
        have g1 : (x.kind == 1) = false := by simpa using q1
        have g2 : (x.kind == 2) = false := by simpa using q2
        have g3 : (x.kind == 3) = false := by simpa using q3
        have g4 : (x.kind == 4) = true := by simpa using q4
        clear q1 q2 q3 q4

        go_wp2_with fail
        refine (rcount_st hS x.n hxr.1 hxr.2).mono ?_
        clear hS
        rintro e w5 ⟨rfl, hS⟩
        have hS := hS.swap
        go_wp2_with fail
        refine (wcount_st hS _ HC.out.1 HC.out.2 (HROOM.out.bf (by omega))).mono ?_
        clear hS
        rintro e w6 ⟨rfl, hS⟩
        have hS := hS.swap
        go_wp2
        refine ⟨⟨k + 1, by omega, by simp, _, _, hS, goes_count x.n hg, wide_count x.n hso hg hl, (rcount_ok hso).1⟩, ?_⟩
        simp only [intOf]; omega
      have g1 : (x.kind == 1) = false := by simpa using q1
      have g2 : (x.kind == 2) = false := by simpa using q2
      have g3 : (x.kind == 3) = false := by simpa using q3
      have g4 : (x.kind == 4) = false := by simpa using q4
      clear q1 q2 q3 q4

      go_wp2
      refine ⟨⟨k + 1, by omega, by simp, s, ys, hS, hg, by omega, hso⟩, ?_⟩
      simp only [intOf]; omega
    · obtain rfl : k = n := by omega
      clear hlt
      go_wp2_with fail
      refine (rend_st hS).mono ?_
      clear hS
      rintro e w5 ⟨rfl, hS⟩
      by_cases hend : (rend bs.data.toList s).wr = 0
      · have hys : ys = bs.data.toList := goes_end hso hg hend
        subst hys
        have ge : ((rend bs.data.toList s).wr != 0) = false := by simpa using hend
        clear hend
        go_wp2_with fail
        refine (wbytes_st hS.swap).mono ?_
        rintro e w6 ⟨rfl, rfl⟩
        go_wp2
        go_ret
        refine ⟨?_, hS.1⟩
        simp
      · have ge : ((rend bs.data.toList s).wr != 0) = true := by simpa using hend
        clear hend
        go_wp2
        go_ret
        exact ⟨rfl, hS.1⟩

theorem again_contract {H : Type} {enc : TypeId × Value → H} (W : World) (base : Nat) (v0 : Value) (d0 : DataW H) (p0 : List MemPlace) (v1 : Value) (d1 : DataW H) (p1 : List MemPlace)
    (k0 : DataW.Trod enc Try.prog W 0 (fun _ => true) true 9 v0 d0 p0) (k1 : DataW.Trod enc Try.prog W 0 (fun _ => true) true 22 v1 d1 p1)
    (o0 : Value.okWide Try.prog W .any base 9 v0) (o1 : Value.okWide Try.prog W .any base 22 v1)
    (hsz : (DataW.weightsEach Try.prog [9, 22] [d0, d1]).all (· ≤ reachBytes) = true) :
    Calls Try.prog 6 #[v0, v1] W (AwPost W) := by
  have hw : ∀ x, x ∈ d0.weights Try.prog 9 ∨ x ∈ d1.weights Try.prog 22 → x ≤ reachBytes := fun x hx => by
    have := List.all_eq_true.1 hsz x (by simpa [DataW.weightsEach] using hx)
    simpa using this
  obtain ⟨s, rfl, hf, hf2⟩ := open_str k0 o0 (fun x hx => hw x (.inl hx))
  obtain ⟨a, cap, l, rfl, hr, hl, hok⟩ := open_items k1 o1 (fun x hx => hw x (.inr hx))
  refine again_walk a cap _ l s W hr rfl hok hf ?_ (by omega)
  unfold roomy
  rw [Array.length_toList]
  have : s.data.size = s.size := rfl
  omega
end Go.Proofs.Ytecckgapdpmegaa
