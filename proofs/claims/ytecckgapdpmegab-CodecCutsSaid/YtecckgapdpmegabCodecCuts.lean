/-
  CodecCuts: what is cut off is told.
  No condition.
-/
import Derived.Test.YtecckgapdpmegabCodecL
import Derived.Test.YtecckgapdpmegabCodecV
namespace Go.Proofs.Ytecckgapdpmegab
open Go.ChangeShapes Go.WideShapes Go.ChangeAt Go.RowKit Go.Deep
set_option linter.unusedVariables false
set_option linter.unusedSimpArgs false

def PickPost (n : Nat) (w : World) (e : Ending) (w' : World) : Prop := ∃ r : Nat, e = .returned (.int .i64 r) ∧ r < n ∧ w' = w

theorem pick_any (c : Int) (n : Nat) (h0 : -9223372036854775808 ≤ c) (h1 : c ≤ 9223372036854775807) (hn : 0 < n) (hnl : n ≤ 2 ^ 63 - 1) (w : World) : Calls Try.prog 16 #[.int .i64 c, .int .i64 n] w (PickPost n w) := by
  by_cases hc : c < 0
  · go_enter Try.func16, Try.ntmps16
    go_wp2
    go_ret
    have e1 : -(c + 1).tmod n = (((-(c + 1)).toNat % n : Nat) : Int) := by
      rw [← Int.neg_tmod, Int.tmod_eq_emod_of_nonneg (by omega), Int.natCast_emod, Int.toNat_of_nonneg (by omega)]
    exact ⟨(-(c + 1)).toNat % n, by rw [← e1]; rfl, Nat.mod_lt _ hn, rfl⟩
  · go_enter Try.func16, Try.ntmps16
    go_wp2
    go_ret
    have e1 : c % n = ((c.toNat % n : Nat) : Int) := by
      rw [Int.natCast_emod, Int.toNat_of_nonneg (by omega)]
    exact ⟨c.toNat % n, by rw [← e1]; rfl, Nat.mod_lt _ hn, rfl⟩

/-- What holds between the items when they are laid, and when they are taken up. -/
def CtRel (W : World) (wb : Nat) (ys : List UInt8) (wr : World) : Prop := ∃ t, St W wr (.wr wb ys :: t)
def CuRel (W : World) (rb : Nat) (bs : List UInt8) (p : Nat) (wr : World) : Prop := ∃ s t, St W wr (.rd rb bs s :: t) ∧ Cut s p

set_option maxRecDepth 100000 in
set_option maxHeartbeats 2000000 in
theorem cuts_walk (a : Option Addr) (cap n : Nat) (l : List It) (cut : Int) (hcut : -9223372036854775808 ≤ cut ∧ cut ≤ 9223372036854775807) (W : World) (hr : Rd W 4 a n cap (itCells l)) (hn : l.length = n) (hok : ∀ x ∈ l, It.ok x) (hnl : n ≤ 2 ^ 63 - 1) :
    Calls Try.prog 4 #[.slice a n cap, .int .i64 cut] W (AwPost W) := by
  have HR := Lib.hid hr
  have HN := Lib.hid hn
  have HCUT := Lib.hid hcut
  clear hr hn hcut
  go_enter Try.func4, Try.ntmps4
  go_wp2_with fail
  refine (awake_any W).mono ?_
  rintro e w1 ⟨rfl, hm⟩
  go_wp2_with fail
  refine (wnew_st ((St.start W).mod hm)).mono ?_
  rintro e w3 ⟨wb, rfl, hS⟩
  clear hm
  go_wp2_with fail
  refine (size_bound a cap n l w3 (HR.out.mod hS.1 (fun _ _ h => h)) HN.out hok hnl).mono ?_
  rintro e w2 ⟨m, rfl, rfl, htot⟩
  by_cases hbig : m ≤ 2147483548
  · have gb : decide (2147483548 < m) = false := by simpa using hbig
    have HT := Lib.hid (htot hbig)
    clear htot hbig
    go_wp2
    clear gb
    go_loopw [7] (fun i wr => ∃ k : Nat, k ≤ n ∧ i = .int .i64 k ∧ CtRel W wb (layAll (l.take k)) wr) (fun i _ => n - (intOf i).toNat)
    case atStart => exact ⟨0, by omega, rfl, [], hS⟩
    case round =>
      clear hS
      obtain ⟨k, hk, rfl, t, hS⟩ := hrel
      by_cases hlt : k < n
      · have hkl : k < l.length := HN.out ▸ hlt
        have hx : l[k]? = some l[k] := List.getElem?_eq_getElem hkl
        obtain ⟨x, hxx⟩ : ∃ x, l[k] = x := ⟨_, rfl⟩
        rw [hxx] at hx
        have hxo : It.ok x := hok x (List.mem_of_getElem? hx)
        obtain ⟨b, o, hab, hbl, hc⟩ := (HR.out.mod hS.1 (fun _ _ h => h)).itemc hx
        subst hab
        have HC := Lib.hid hc
        have HX := Lib.hid hxo
        have hmem := total_mem hx
        have HK := Lib.hid (layAll_take hx)
        have hll := layAll_length (l := l.take k) (fun y hy => hok y (List.mem_of_mem_take hy))
        have htl := HT.out
        have hsum1 : (layAll (l.take k)).length + 10 + x.s.size ≤ 200000000000000 := by omega
        clear hx hxx hxo hc hmem hll htl
        go_wp2_with ((with_reducible refine at_list ?_); refine wpList_load_chunk 4 _ Try.underlying39 rfl (by kernel_rfl) ⟨b, o + k * 4, none⟩ rfl x.cells rfl HC.out ?_)
        refine (lay_st hS x HX.out hsum1).mono ?_
        clear hS
        rintro e w5 ⟨rfl, t', hS⟩
        go_wp2
        refine ⟨⟨k + 1, by omega, by simp, t' :: t, by rw [HK.out]; exact hS⟩, ?_⟩
        simp only [intOf]; omega
      · obtain rfl : n = k := by omega
        clear hlt
        have hfull : l.take n = l := List.take_of_length_le (by rw [HN.out]; exact Nat.le_refl _)
        rw [hfull] at hS
        clear hfull
        have hlen := layAll_length hok
        have htl := HT.out
        obtain ⟨full, hfull⟩ : ∃ full, layAll l = full := ⟨_, rfl⟩
        rw [hfull] at hS hlen
        have HFULL := Lib.hid hfull
        obtain ⟨S, hSS⟩ : ∃ S, ByteArray.mk full.toArray = S := ⟨_, rfl⟩
        have HSS := Lib.hid hSS
        obtain ⟨z, hz⟩ : ∃ z, S.size = z := ⟨_, rfl⟩
        have hzf : z = full.length := by rw [← hz, ← hSS]; show full.toArray.size = _; simp
        have hzb : z ≤ 2 ^ 63 - 1 := by omega
        have HZF := Lib.hid hzf
        clear hfull hSS hzf
        go_wp2_with fail
        refine (wbytes_st hS).mono ?_
        rw [HSS.out]
        rintro e w6 ⟨rfl, rfl⟩
        by_cases hz0 : S.toList.isEmpty = true
        · go_wp2
          go_ret
          exact ⟨rfl, hS.1⟩
        · have ge : S.toList.isEmpty = false := by simpa using hz0
          have hzpos : 0 < z := by
            rcases Nat.eq_zero_or_pos z with h | h
            · exfalso
              have hf0 : full = [] := List.eq_nil_of_length_eq_zero (by have := HZF.out; omega)
              apply hz0
              rw [← HSS.out, hf0]
              decide +kernel
            · exact h
          clear hz0
          go_wp2_with fail
          refine (pick_any cut z HCUT.out.1 HCUT.out.2 hzpos hzb wr).mono ?_
          rintro e w7 ⟨r, rfl, hrz, rfl⟩
          go_wp2_with fail
          obtain ⟨S2, hS2⟩ : ∃ S2, S.extract 0 r = S2 := ⟨_, rfl⟩
          rw [hS2]
          have hbs : S2.data.toList = full.take r := by
            rw [← hS2, ← HSS.out]
            simp
          have HBS := Lib.hid hbs
          have hs2 : bfits S2.size := by
            have e1 := congrArg List.length hbs
            rw [Array.length_toList, List.length_take] at e1
            have e2 : S2.data.size = S2.size := rfl
            have e3 := HZF.out
            unfold bfits
            omega
          have HS2 := Lib.hid hs2
          clear hS2 hbs hs2 hlen htl
          refine (rread_st hS S2 HS2.out).mono ?_
          clear hS
          rintro e w8 ⟨rb, rfl, hS⟩
          go_wp2
          go_loopw [10] (fun i wr => ∃ j : Nat, j ≤ n ∧ i = .int .i64 j ∧ CuRel W rb S2.data.toList (layAll (l.take j)).length wr) (fun i _ => n - (intOf i).toNat)
          case atStart => exact ⟨0, by omega, rfl, ⟨0, 0⟩, _, hS, .inr ⟨rfl, rfl⟩⟩
          case round =>
            clear hS ge
            obtain ⟨k, hk, rfl, s, t, hS, hcu⟩ := hrel
            have HCU := Lib.hid hcu
            clear hcu
            by_cases hlt : k < n
            · have hkl : k < l.length := HN.out ▸ hlt
              have hx : l[k]? = some l[k] := List.getElem?_eq_getElem hkl
              obtain ⟨x, hxx⟩ : ∃ x, l[k] = x := ⟨_, rfl⟩
              rw [hxx] at hx
              have hxo : It.ok x := hok x (List.mem_of_getElem? hx)
              obtain ⟨b, o, hab, c0, c1, c2, c3⟩ := (HR.out.mod hS.1 (fun _ _ h => h)).item hx
              subst hab
              have hbl : b < wr.heap.size := World.block_lt_of_cell? wr _ c0
              have hxr := hxo.1
              have hxs : x.s.size ≤ 2 ^ 63 - 1 := hxo.2.le
              have HK := Lib.hid (layAll_take hx)
              have hsp : Split S2.data.toList (layOf x) (layAll (l.take k)).length := by
                rw [HBS.out, ← HFULL.out]
                exact cut_split r (layAll_drop hx)
              clear hx hxx hxo
              by_cases q1 : x.kind = 1
              · skip
                have HL : Hid (layOf x = sevens (zig x.n)) := by show _ = _; simp only [layOf]; rw [if_pos q1]
                have HSP := Lib.hid (HL.out ▸ hsp)
                have g1 : (x.kind == 1) = true := by simpa using q1
                clear q1
                clear hsp
                go_wp2_with fail
                refine (rnum_st hS).mono ?_
                clear hS
                rintro e w5 ⟨rfl, hS⟩
                go_wp2
                refine ⟨⟨k + 1, by omega, by simp, _, t, hS, ?_⟩, ?_⟩
                · rw [HK.out, List.length_append, HL.out]; exact cut_num HCU.out HSP.out hxr
                · simp only [intOf]; omega
              by_cases q2 : x.kind = 2
              · skip
                have HL : Hid (layOf x = [if x.is then 1 else 0]) := by show _ = _; simp only [layOf]; rw [if_neg q1, if_pos q2]
                have HSP := Lib.hid (HL.out ▸ hsp)
                have g1 : (x.kind == 1) = false := by simpa using q1
                have g2 : (x.kind == 2) = true := by simpa using q2
                clear q1 q2
                clear hsp
                go_wp2_with fail
                refine (rflag_st hS).mono ?_
                clear hS
                rintro e w5 ⟨rfl, hS⟩
                go_wp2
                refine ⟨⟨k + 1, by omega, by simp, _, t, hS, ?_⟩, ?_⟩
                · rw [HK.out, List.length_append, HL.out]; exact cut_flag HCU.out HSP.out
                · simp only [intOf]; omega
              by_cases q3 : x.kind = 3
              · skip
                have HL : Hid (layOf x = sevens x.s.size ++ x.s.data.toList) := by show _ = _; simp only [layOf]; rw [if_neg q1, if_neg q2, if_pos q3]
                have HSP := Lib.hid (HL.out ▸ hsp)
                have g1 : (x.kind == 1) = false := by simpa using q1
                have g2 : (x.kind == 2) = false := by simpa using q2
                have g3 : (x.kind == 3) = true := by simpa using q3
                clear q1 q2 q3
                clear hsp
                have HTL : Hid (x.s.size = x.s.data.toList.length) := by show _ = _; rw [Array.length_toList]; rfl
                have hS0 := hS.rok
                have HCT : Hid (s.at_ ≤ S2.data.toList.length → Cut (rtext S2.data.toList (x.s.size : Int) s).2 ((layAll (l.take k)).length + (sevens x.s.size ++ x.s.data.toList).length)) := by
                  show _ → _
                  intro hat
                  have h1 := HSP.out
                  have h2 := HTL.out
                  rw [h2] at h1
                  have h3 : x.s.data.toList.length < 18446744073709551616 := by omega
                  have h4 := cut_text (most := (x.s.size : Int)) HCU.out h1 h3 (by omega) hat
                  rw [← h2] at h4
                  exact h4
                go_wp2_with fail
                refine (rtext_st hS _ (by omega) (by omega)).mono ?_
                clear hS
                rintro e w5 ⟨rfl, hS⟩
                go_wp2
                refine ⟨⟨k + 1, by omega, by simp, _, t, hS, ?_⟩, ?_⟩
                · rw [HK.out, List.length_append, HL.out]; exact HCT.out hS0.1
                · simp only [intOf]; omega
              by_cases q4 : x.kind = 4
              · skip
                have HL : Hid (layOf x = sevens x.n.toNat) := by show _ = _; simp only [layOf]; rw [if_neg q1, if_neg q2, if_neg q3, if_pos q4]
                have HSP := Lib.hid (HL.out ▸ hsp)
                have g1 : (x.kind == 1) = false := by simpa using q1
                have g2 : (x.kind == 2) = false := by simpa using q2
                have g3 : (x.kind == 3) = false := by simpa using q3
                have g4 : (x.kind == 4) = true := by simpa using q4
                clear q1 q2 q3 q4
                clear hsp
                go_wp2_with fail
                refine (rcount_st hS x.n hxr.1 hxr.2).mono ?_
                clear hS
                rintro e w5 ⟨rfl, hS⟩
                go_wp2
                refine ⟨⟨k + 1, by omega, by simp, _, t, hS, ?_⟩, ?_⟩
                · rw [HK.out, List.length_append, HL.out]; exact cut_count HCU.out HSP.out (by omega) (Nat.le_refl _)
                · simp only [intOf]; omega
              have HL : Hid (layOf x = []) := by show _ = _; simp only [layOf]; rw [if_neg q1, if_neg q2, if_neg q3, if_neg q4]
              have g1 : (x.kind == 1) = false := by simpa using q1
              have g2 : (x.kind == 2) = false := by simpa using q2
              have g3 : (x.kind == 3) = false := by simpa using q3
              have g4 : (x.kind == 4) = false := by simpa using q4
              clear q1 q2 q3 q4
              clear hsp
              go_wp2
              refine ⟨⟨k + 1, by omega, by simp, s, t, hS, ?_⟩, ?_⟩
              · rw [HK.out, List.length_append, HL.out]; exact HCU.out
              · simp only [intOf]; omega
            · obtain rfl : k = n := by omega
              clear hlt
              go_wp2_with fail
              refine (rend_st hS).mono ?_
              have hS0 := hS.rok
              have hend : (rend S2.data.toList s).wr = 10 := by
                refine cut_end HCU.out ?_ hS0.1
                have e3 := HZF.out
                have htk : l.take k = l := List.take_of_length_le (by rw [HN.out]; exact Nat.le_refl _)
                rw [htk, HBS.out, HFULL.out, List.length_take]
                omega
              rw [hend]
              clear hS
              rintro e w9 ⟨rfl, hS⟩
              go_wp2
              go_ret
              exact ⟨rfl, hS.1⟩
  · have gb : decide (2147483548 < m) = true := by simpa using hbig
    clear htot hbig
    go_wp2
    go_ret
    exact ⟨rfl, hS.1⟩

theorem cuts_contract {H : Type} {enc : TypeId × Value → H} (W : World) (base : Nat) (v0 : Value) (d0 : DataW H) (p0 : List MemPlace) (v1 : Value) (d1 : DataW H) (p1 : List MemPlace)
    (k0 : DataW.Trod enc Try.prog W 0 (fun _ => true) true 35 v0 d0 p0) (k1 : DataW.Trod enc Try.prog W 0 (fun _ => true) true 3 v1 d1 p1)
    (o0 : Value.okWide Try.prog W .any base 35 v0) (o1 : Value.okWide Try.prog W .any base 3 v1)
    (hsz : (DataW.weightsEach Try.prog [35, 3] [d0, d1]).all (· ≤ reachBytes) = true) :
    Calls Try.prog 4 #[v0, v1] W (AwPost W) := by
  have hw : ∀ x, x ∈ d0.weights Try.prog 35 → x ≤ reachBytes := fun x hx => by
    have := List.all_eq_true.1 hsz x (by simp only [DataW.weightsEach]; exact List.mem_append_left _ hx)
    simpa using this
  obtain ⟨a, cap, l, rfl, hr, hl, hok⟩ := open_items k0 o0 hw
  obtain ⟨c, rfl, hc⟩ := open_int k1 o1
  exact cuts_walk a cap _ l c hc W hr rfl hok (by omega)
end Go.Proofs.Ytecckgapdpmegab
