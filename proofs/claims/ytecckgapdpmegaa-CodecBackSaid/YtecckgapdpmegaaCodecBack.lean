/-
  CodecBack: what items are laid as is taken up by the same calls.
  No condition.
-/
import Derived.Test.YtecckgapdpmegaaCodecL
import Derived.Test.YtecckgapdpmegaaCodecV
import Derived.Deep.RegionHeld3
namespace Go.Proofs.Ytecckgapdpmegaa
open Go.ChangeShapes Go.WideShapes Go.ChangeAt Go.RowKit Go.Deep
set_option linter.unusedVariables false
set_option linter.unusedSimpArgs false

theorem St.rebox {w0 w w' : World} {pb : Nat} {c c' : Array Value} {t : TypeId} {l : List Thing} (h : St w0 w (.bx pb c t :: l)) (hw : w'.heap[pb]? = some (.cells c' t (0, 0))) (hm : Mod (fun b => b = pb) w w') : St w0 w' (.bx pb c' t :: l) := by
  obtain ⟨F1, ⟨hh, hF⟩, ht⟩ := h.turn
  exact ht w' (.bx pb c' t) F1 (hm.mono (fun x _ hx => (hF x).2 hx)) ⟨hw, hF⟩ (fun x hx => .inl hx)

def zeroItem : Array Value := #[.int .i64 0, .int .i64 0, .bool false, .string .empty]
/-- What holds between the items: when they are laid, and when they are taken up. -/
def BkRel (W : World) (wb : Nat) (ys : List UInt8) (wr : World) : Prop := ∃ t, St W wr (.wr wb ys :: t)
def BuRel (W : World) (rb : Nat) (bs : List UInt8) (p : Nat) (wr : World) : Prop := ∃ t, St W wr (.rd rb bs ⟨p, 0⟩ :: t)

theorem layOf_1 {n : Int} {is : Bool} {t : ByteArray} {kind : Int} (h : kind = 1) : layOf ⟨kind, n, is, t⟩ = sevens (zig n) := by simp only [layOf]; rw [if_pos h]
theorem layOf_2 {n : Int} {is : Bool} {t : ByteArray} {kind : Int} (h : kind = 2) : layOf ⟨kind, n, is, t⟩ = [if is then 1 else 0] := by subst h; rfl
theorem layOf_3 {n : Int} {is : Bool} {t : ByteArray} {kind : Int} (h : kind = 3) : layOf ⟨kind, n, is, t⟩ = sevens t.data.toList.length ++ t.data.toList := by subst h; rfl
theorem layOf_4 {n : Int} {is : Bool} {t : ByteArray} {kind : Int} (h : kind = 4) : layOf ⟨kind, n, is, t⟩ = sevens n.toNat := by subst h; rfl
theorem layOf_0 {n : Int} {is : Bool} {t : ByteArray} {kind : Int} (h1 : ¬ kind = 1) (h2 : ¬ kind = 2) (h3 : ¬ kind = 3) (h4 : ¬ kind = 4) : layOf ⟨kind, n, is, t⟩ = [] := by
  simp only [layOf]; rw [if_neg h1, if_neg h2, if_neg h3, if_neg h4]

theorem mk_list (t : ByteArray) : ByteArray.mk t.data.toList.toArray = t := by apply ByteArray.ext; simp

set_option maxRecDepth 100000 in
set_option maxHeartbeats 4000000 in
theorem back_walk (a : Option Addr) (cap n : Nat) (l : List It) (W : World) (hr : Rd W 4 a n cap (itCells l)) (hn : l.length = n) (hok : ∀ x ∈ l, It.ok x) (hnl : n ≤ 2 ^ 63 - 1) :
    Calls Try.prog 5 #[.slice a n cap] W (AwPost W) := by
  have HR := Lib.hid hr
  have HN := Lib.hid hn
  clear hr hn
  go_enter Try.func5, Try.ntmps5
  go_wp2_with fail
  refine (awake_any W).mono ?_
  rintro e w1 ⟨rfl, hm⟩
  go_wp2_with fail
  refine (size_bound a cap n l w1 (HR.out.mod hm (fun _ _ h => h)) HN.out hok hnl).mono ?_
  rintro e w2 ⟨m, rfl, rfl, htot⟩
  by_cases hbig : m ≤ 2147483548
  · have gb : decide (2147483548 < m) = false := by simpa using hbig
    have HT := Lib.hid (htot hbig)
    clear htot hbig
    go_wp2_with fail
    refine (wnew_st ((St.start W).mod hm)).mono ?_
    rintro e w3 ⟨wb, rfl, hS⟩
    clear hm
    go_wp2
    clear gb
    go_loopw [5] (fun i wr => ∃ k : Nat, k ≤ n ∧ i = .int .i64 k ∧ BkRel W wb (layAll (l.take k)) wr) (fun i _ => n - (intOf i).toNat)
    case atStart => exact ⟨0, by omega, rfl, [], hS⟩
    case round =>
      clear hS
      obtain ⟨k, hk, rfl, t, hS⟩ := hrel
      by_cases hlt : k < n
      · have hkl : k < l.length := HN.out ▸ hlt
        have hx : l[k]? = some l[k] := List.getElem?_eq_getElem hkl
        obtain ⟨x, hxx⟩ : ∃ x, l[k] = x := ⟨_, rfl⟩
        rw [hxx] at hx
        have hxo : It.ok x := hok x (List.mem_of_getElem? hx)
        obtain ⟨b, o, hab, hbl, hc⟩ := (HR.out.mod hS.1 (fun _ _ h => h)).itemc hx
        subst hab
        have HC := Lib.hid hc
        have HX := Lib.hid hxo
        have hmem := total_mem hx
        have HK := Lib.hid (layAll_take hx)
        have hll := layAll_length (l := l.take k) (fun y hy => hok y (List.mem_of_mem_take hy))
        have htl := HT.out
        have hsum1 : (layAll (l.take k)).length + 10 + x.s.size ≤ 200000000000000 := by omega
        clear hx hxx hxo hc hmem hll htl
        go_wp2_with ((with_reducible refine at_list ?_); refine wpList_load_chunk 4 _ Try.underlying29 rfl (by kernel_rfl) ⟨b, o + k * 4, none⟩ rfl x.cells rfl HC.out ?_)
        refine (lay_st hS x HX.out hsum1).mono ?_
        clear hS
        rintro e w5 ⟨rfl, t', hS⟩
        go_wp2
        refine ⟨⟨k + 1, by omega, by simp, t' :: t, by rw [HK.out]; exact hS⟩, ?_⟩
        simp only [intOf]; omega
      · obtain rfl : n = k := by omega
        clear hlt
        have hfull : l.take n = l := List.take_of_length_le (by rw [HN.out]; exact Nat.le_refl _)
        rw [hfull] at hS
        clear hfull
        have hlen := layAll_length hok
        have htl := HT.out
        obtain ⟨full, hfull⟩ : ∃ full, layAll l = full := ⟨_, rfl⟩
        rw [hfull] at hS hlen
        have HFULL := Lib.hid hfull
        obtain ⟨S, hSS⟩ : ∃ S, ByteArray.mk full.toArray = S := ⟨_, rfl⟩
        have HSS := Lib.hid hSS
        have hbs : S.data.toList = full := by rw [← hSS]
        have HBS := Lib.hid hbs
        have hs2 : bfits S.size := by
          rw [← hSS]; show full.toArray.size ≤ _; rw [List.size_toArray]; omega
        have HS2 := Lib.hid hs2
        clear hfull hSS hbs hs2 hlen htl
        go_wp2_with fail
        refine (wbytes_st hS).mono ?_
        rw [HSS.out]
        rintro e w6 ⟨rfl, rfl⟩
        go_wp2_with fail
        refine (rread_st hS S HS2.out).mono ?_
        clear hS
        rw [HBS.out]
        rintro e w7 ⟨rb, rfl, hS⟩
        obtain ⟨wo, hwo⟩ : ∃ wo : World, wo = w7 := ⟨_, rfl⟩
        subst hwo
        go_wp2
        go_loopw [7] (fun i wr => ∃ k : Nat, k ≤ n ∧ i = .int .i64 k ∧ BuRel W rb full (layAll (l.take k)).length wr) (fun i _ => n - (intOf i).toNat)
        case atStart => exact ⟨0, by omega, rfl, _, hS⟩
        case round =>
          clear hS
          obtain ⟨j, hj, rfl, tl, hS⟩ := hrel
          by_cases hlt : j < n
          · have hkl : j < l.length := HN.out ▸ hlt
            have hx : l[j]? = some l[j] := List.getElem?_eq_getElem hkl
            obtain ⟨x, hxx⟩ : ∃ x, l[j] = x := ⟨_, rfl⟩
            rw [hxx] at hx
            have hxo : It.ok x := hok x (List.mem_of_getElem? hx)
            have HP : Hid (full.drop (layAll (l.take j)).length = layOf x ++ layAll (l.drop (j + 1))) := by
              have := layAll_drop hx; rw [HFULL.out] at this; exact Lib.hid this
            have HK : Hid ((layAll (l.take (j + 1))).length = (layAll (l.take j)).length + (layOf x).length) := by
              show _ = _; rw [layAll_take hx, List.length_append]
            obtain ⟨b, o, hab, hbl, hc⟩ := (HR.out.mod hS.1 (fun _ _ h => h)).itemc hx
            subst hab
            have HC := Lib.hid hc
            have HX := Lib.hid hxo
            obtain ⟨p, hp⟩ : ∃ p, (layAll (l.take j)).length = p := ⟨_, rfl⟩
            rw [hp] at hS HP HK
            clear hx hxx hxo hc hp
            obtain ⟨kind, m, is, t⟩ := x
            have h0 : -9223372036854775808 ≤ m := HX.out.1.1
            have h1 : m ≤ 9223372036854775807 := HX.out.1.2
            have hsz : t.size ≤ 200000000000000 := HX.out.2
            simp only [It.cells] at HC
            have hS2 := hS.alloc Go.Proofs.Ytecckgapdpmegaa.zeroItem 29
            have HS := Lib.hid hS2
            clear hS hS2
            go_wp2_with (first | ((with_reducible refine at_list ?_); refine wpList_load_chunk 4 _ Try.underlying29 rfl (by kernel_rfl) ⟨b, o + j * 4, none⟩ rfl _ rfl HC.out ?_) | (refine wpList_store_whole 4 (by kernel_rfl) wr.heap.size rfl _ 29 (heap_alloc_new wr _) rfl _ rfl rfl rfl ?_; intro w8 hb8 hm8 hz8; have hS := Lib.hid (HS.out.rebox hb8 hm8); have q0 : w8.cell? ⟨wr.heap.size, 0, none⟩ = some (.int .i64 kind) := blk_cell hb8 0 _ rfl; have q1 : w8.cell? ⟨wr.heap.size, 1, none⟩ = some (.int .i64 m) := blk_cell hb8 1 _ rfl; have q2 : w8.cell? ⟨wr.heap.size, 2, none⟩ = some (.bool is) := blk_cell hb8 2 _ rfl; have q3 : w8.cell? ⟨wr.heap.size, 3, none⟩ = some (.string t) := blk_cell hb8 3 _ rfl; have zb := heap_lt hb8; generalize wr.heap.size = tb at hS q0 q1 q2 q3 zb ⊢; clear hb8 hm8 hz8 HS HC))
            · have g1 : kind = 1 := eq_of_beq (by assumption)
              have HL : Hid (layOf ⟨kind, m, is, t⟩ = sevens (zig m)) := Lib.hid (layOf_1 g1)
              rw [HL.out] at HP HK
              have HD := Lib.hid (rnum_at (bs := full) (s := ⟨p, 0⟩) rfl HP.out ⟨h0, h1⟩)
              clear g1
              go_region_held3 (fun w' => w'.cell? ⟨tb, 1, none⟩ = some (.int .i64 m)) (first | exact q1 | exact c9 | go_keep)
                ((first
                  | (go_at_call 18; refine (rnum_st (hS.out.swap.mod ((Mod.refl _ _).drewN _))).mono ?_; rw [HD.out]; rintro e w9 ⟨rfl, hS9⟩; have c9 := blk_cell (hS9.box (List.mem_cons_of_mem _ (List.mem_cons_self ..))) 1 _ rfl)))
              go_wp2
              refine ⟨⟨j + 1, by omega, by simp, by rw [HK.out]; exact ⟨_, hS9⟩⟩, ?_⟩
              simp only [intOf]; omega
            · have g1 : kind = 2 := eq_of_beq (by assumption)
              have HL : Hid (layOf ⟨kind, m, is, t⟩ = [if is then 1 else 0]) := Lib.hid (layOf_2 g1)
              rw [HL.out] at HP HK
              have HD := Lib.hid (rflag_at (bs := full) (s := ⟨p, 0⟩) rfl HP.out)
              clear g1
              go_region_held3 (fun w' => w'.cell? ⟨tb, 2, none⟩ = some (.bool is)) (first | exact q2 | exact c9 | go_keep)
                ((first
                  | (go_at_call 19; refine (rflag_st (hS.out.swap.mod ((Mod.refl _ _).drewN _))).mono ?_; rw [HD.out]; rintro e w9 ⟨rfl, hS9⟩; have c9 := blk_cell (hS9.box (List.mem_cons_of_mem _ (List.mem_cons_self ..))) 2 _ rfl)))
              go_wp2
              refine ⟨⟨j + 1, by omega, by simp, by rw [HK.out]; exact ⟨_, hS9⟩⟩, ?_⟩
              simp only [intOf]; omega
            · have g1 : kind = 3 := eq_of_beq (by assumption)
              have HL : Hid (layOf ⟨kind, m, is, t⟩ = sevens t.data.toList.length ++ t.data.toList) := Lib.hid (layOf_3 g1)
              rw [HL.out] at HP HK
              have hts : t.data.toList.length = t.size := by rw [Array.length_toList]; rfl
              have HTS := Lib.hid hts
              have HD := Lib.hid (rtext_at (bs := full) (s := ⟨p, 0⟩) (most := (t.size : Int)) rfl HP.out (by rw [hts]; omega) (by rw [hts]; omega))
              clear g1 hts
              obtain ⟨z, hz⟩ : ∃ z, t.size = z := ⟨_, rfl⟩
              rw [hz] at HD hsz
              have hzl : z ≤ 2 ^ 63 - 1 := by omega
              go_region_held3 (fun w' => w'.cell? ⟨tb, 3, none⟩ = some (.string t)) (first | exact q3 | exact c9 | go_keep)
                ((first
                  | (go_at_call 20; refine (rtext_st (hS.out.swap.mod ((Mod.refl _ _).drewN _)) (z : Int) (by omega) (by omega)).mono ?_; rw [HD.out, mk_list]; rintro e w9 ⟨rfl, hS9⟩; have c9 := blk_cell (hS9.box (List.mem_cons_of_mem _ (List.mem_cons_self ..))) 3 _ rfl)))
              go_wp2
              refine ⟨⟨j + 1, by omega, by simp, by rw [HK.out, List.length_append, ← Nat.add_assoc]; exact ⟨_, hS9⟩⟩, ?_⟩
              simp only [intOf]; omega
            · have g1 : kind = 4 := eq_of_beq (by assumption)
              have HL : Hid (layOf ⟨kind, m, is, t⟩ = sevens m.toNat) := Lib.hid (layOf_4 g1)
              rw [HL.out] at HP HK
              clear g1
              by_cases hm0 : 0 ≤ m
              · have HD : Hid (rcount full m ⟨p, 0⟩ = (m.toNat, ⟨p + (sevens m.toNat).length, 0⟩)) := Lib.hid (rcount_at (bs := full) (s := ⟨p, 0⟩) (most := m) rfl HP.out (by omega) (Nat.le_refl _))
                have HMM : Hid (((m.toNat : Nat) : Int) = m) := Lib.hid (Int.toNat_of_nonneg hm0)
                have hn0 : ¬ (0 : Int) > m := by omega
                go_region_held3 (fun w' => w'.cell? ⟨tb, 1, none⟩ = some (.int .i64 m)) (first | exact q1 | exact c9 | go_keep)
                  ((first
                    | (go_at_call 21; refine (rcount_st (hS.out.swap.mod ((Mod.refl _ _).drewN _)) m (by omega) (by omega)).mono ?_; rw [HD.out, HMM.out]; rintro e w9 ⟨rfl, hS9⟩; have c9 := blk_cell (hS9.box (List.mem_cons_of_mem _ (List.mem_cons_self ..))) 1 _ rfl)))
                go_wp2
                all_goals first
                  | omega
                  | (refine ⟨⟨j + 1, by omega, by simp, by rw [HK.out]; exact ⟨_, hS9⟩⟩, ?_⟩
                     simp only [intOf]; omega)
              · have e0 : m.toNat = 0 := by omega
                rw [e0] at HP HK
                have HD : Hid (rcount full 0 ⟨p, 0⟩ = (0, ⟨p + (sevens 0).length, 0⟩)) := Lib.hid (rcount_at (bs := full) (s := ⟨p, 0⟩) (most := 0) rfl HP.out (by omega) (Nat.le_refl _))
                have HMM : Hid (((0 : Nat) : Int) = 0) := Lib.hid rfl
                have hn0 : (0 : Int) > m := by omega
                clear e0
                go_region_held3 (fun w' => w'.cell? ⟨tb, 1, none⟩ = some (.int .i64 m)) (first | exact q1 | exact c9 | go_keep)
                  ((first
                    | (go_at_call 21; refine (rcount_st (hS.out.swap.mod ((Mod.refl _ _).drewN _)) 0 (by omega) (by omega)).mono ?_; rw [HD.out, HMM.out]; rintro e w9 ⟨rfl, hS9⟩; have c9 := blk_cell (hS9.box (List.mem_cons_of_mem _ (List.mem_cons_self ..))) 1 _ rfl)))
                go_wp2
                all_goals first
                  | omega
                  | (refine ⟨⟨j + 1, by omega, by simp, by rw [HK.out]; exact ⟨_, hS9⟩⟩, ?_⟩
                     simp only [intOf]; omega)
            · have HL : Hid (layOf ⟨kind, m, is, t⟩ = []) := Lib.hid (layOf_0 (ne_of_beq_false (by assumption)) (ne_of_beq_false (by assumption)) (ne_of_beq_false (by assumption)) (ne_of_beq_false (by assumption)))
              rw [HL.out] at HK
              refine ⟨⟨j + 1, by omega, by simp, by rw [HK.out]; exact ⟨_, hS.out.swap⟩⟩, ?_⟩
              simp only [intOf]; omega
          · obtain rfl : n = j := by omega
            have hfull2 : l.take n = l := List.take_of_length_le (by rw [HN.out]; exact Nat.le_refl _)
            rw [hfull2, HFULL.out] at hS
            have HE : Hid ((rend full ⟨full.length, 0⟩).wr = 0) := by
              show _ = _; unfold rend; rw [if_neg (by simp)]
            clear hlt hfull2
            go_wp2_with fail
            refine (rend_st hS).mono ?_
            rw [HE.out]
            clear hS
            rintro e w9 ⟨rfl, hS⟩
            go_wp2
            go_ret
            exact ⟨rfl, hS.1⟩
  · have gb : decide (2147483548 < m) = true := by simpa using hbig
    clear htot hbig
    go_wp2
    go_ret
    exact ⟨rfl, hm⟩

theorem back_contract {H : Type} {enc : TypeId × Value → H} (W : World) (base : Nat) (v0 : Value) (d0 : DataW H) (p0 : List MemPlace)
    (k0 : DataW.Trod enc Try.prog W 0 (fun _ => true) true 22 v0 d0 p0) (o0 : Value.okWide Try.prog W .any base 22 v0)
    (hsz : (DataW.weightsEach Try.prog [22] [d0]).all (· ≤ reachBytes) = true) :
    Calls Try.prog 5 #[v0] W (AwPost W) := by
  have hw : ∀ x, x ∈ d0.weights Try.prog 22 → x ≤ reachBytes := fun x hx => by
    have := List.all_eq_true.1 hsz x (by simpa [DataW.weightsEach] using hx)
    simpa using this
  obtain ⟨a, cap, l, rfl, hr, hl, hok⟩ := open_items k0 o0 hw
  exact back_walk a cap _ l W hr rfl hok (by omega)
end Go.Proofs.Ytecckgapdpmegaa
