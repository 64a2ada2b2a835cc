/-
  Two ends: move: one of all that may be done.
  Conditions: the net's ('Inv'); the lists are not too long.
-/
import Derived.Test.YtoeokdachojhjaaTwoC
import Derived.Deep.RegionLaw
namespace Go.Proofs.Ytoeokdachojhjaa
open Go.RowKit
set_option linter.unusedSectionVars false
set_option linter.unusedSimpArgs false
set_option linter.unusedVariables false

def MvPost (W : World) (tb B : Nat) (e : Ending) (w' : World) : Prop :=
  e = .returned (.bool true) ∧ ∃ (E : Nat → Lk) (S G : Nat → List ByteArray) (P : List Pk), Two W tb E S G P w' ∧ Inv E S G P ∧ P.length ≤ B

/-- In move: two, taken apart. -/
abbrev TwP (tb : Nat) (pb cn : Nat → Nat) (sa ga : Nat → Option Addr) (sc gc : Nat → Nat) (pa : Option Addr) (pl pc : Nat) (E : Nat → Lk) (S G : Nat → List ByteArray) (P : List Pk) : List Thing :=
  [bx tb (twc pb sa ga sc gc S G pa pl pc) 32, lk (pb 0) ((E 0).wc (cn 0)), lk (pb 1) ((E 1).wc (cn 1)), tx (sa 0) (sc 0) (S 0), tx (sa 1) (sc 1) (S 1), tx (ga 0) (gc 0) (G 0), tx (ga 1) (gc 1) (G 1), sl 41 8 pa pl pc (flat P)]

theorem sent_at (t0 t1 t2 t5 t6 t7 : Thing) (sa : Nat → Option Addr) (sc : Nat → Nat) (S : Nat → List ByteArray) {k : Nat} (h : k < 2) :
    [t0, t1, t2, tx (sa 0) (sc 0) (S 0), tx (sa 1) (sc 1) (S 1), t5, t6, t7][3 + k]? = some (tx (sa k) (sc k) (S k)) := by
  rcases two_cases h with rfl | rfl <;> rfl
theorem cut_flat (P : List Pk) (k m : Nat) (hm : P.length = m) : (flat P).take (k * 8) ++ ((flat P).drop ((k + 1) * 8)).take ((m - (k + 1)) * 8) = flat (P.take k ++ P.drop (k + 1)) := by
  rw [List.take_of_length_le (l := (flat P).drop ((k + 1) * 8)) (by rw [List.length_drop, flat_length, hm]; omega), flat_take, flat_drop, flat_append]

theorem Two.mk1 {W w : World} {tb : Nat} {E : Nat → Lk} {S G : Nat → List ByteArray} {P : List Pk} {pb cn : Nat → Nat} {sa ga : Nat → Option Addr} {sc gc : Nat → Nat} {pa : Option Addr} {pl pc : Nat} (hpl : P.length = pl) (h : St W w (TwP tb pb cn sa ga sc gc pa pl pc E S G P)) : Two W tb E S G P w := by
  subst hpl
  exact ⟨_, _, _, _, _, _, _, _, h⟩
theorem pklen (p : Pk) : p.cells.length = 8 := rfl
theorem box_chunk {w : World} {pb : Nat} {cs : List Value} {T : TypeId} (h : w.heap[pb]? = some (.cells cs.toArray T (0, 0))) : ∀ j u, cs[j]? = some u → w.cell? ((⟨pb, 0, none⟩ : Addr).add j) = some u := by
  intro j u hj
  have e : (⟨pb, 0, none⟩ : Addr).add j = ⟨pb, j, none⟩ := by
    unfold Addr.add
    simp only [Nat.zero_add]
    split
    · next h0 => subst h0; rfl
    · rfl
  rw [e]
  exact blk_cell h j u (by simpa using hj)

set_option maxRecDepth 100000 in
set_option maxHeartbeats 40000000 in
theorem move_two {W w : World} {tb : Nat} {E : Nat → Lk} {S G : Nat → List ByteArray} {P : List Pk} (h : Two W tb E S G P w) (hI : Inv E S G P) {B : Nat} (hP : P.length + 61 ≤ B) (hB : B ≤ 100000) (x : Mv) (hx : x.wf) (i : Nat) (hi : i < 400)
    (hfull : pickN x.what 8 ≤ 1 → (S 0).length < 60 ∧ (S 1).length < 60) :
    Calls Try.prog 9 #[.pointer (some ⟨tb, 0, none⟩), x.agg, .int .i64 (i : Int)] w (MvPost W tb B) := by
  obtain ⟨pb, cn, sa, ga, sc, gc, pa, pc, hS⟩ := h
  obtain ⟨pl, hpl⟩ : ∃ pl, P.length = pl := ⟨_, rfl⟩
  rw [hpl] at hS hP
  have hX := hS.box1 x.cells.toArray 35
  obtain ⟨hx1, hx2⟩ := hx
  have HI := Lib.hid hI
  have HPL := Lib.hid hpl
  have HF := Lib.hid hfull
  have hpr := pickN_range x.what 8 (by omega)
  clear hS hI hpl hfull
  simp only [Mv.agg]
  go_enter Try.func9, Try.ntmps9
  go_upto_region 1 with (fail)
  change Code.wp _ _ _ _ (w.alloc (.cells x.cells.toArray 35))
  generalize w.alloc (.cells x.cells.toArray 35) = w1 at hX ⊢
  generalize w.heap.size = xb at hX ⊢
  have hbx := hX.box 0 rfl
  have x0 := blk_cell hbx 0 (.int .i64 x.what) rfl
  have x1 := blk_cell hbx 1 (.int .i64 x.n) rfl
  have x2 := blk_cell hbx 2 (.bool x.second) rfl
  obtain ⟨sec, hsec⟩ : ∃ sec, sec = x.second := ⟨_, rfl⟩
  rw [← hsec] at x2 ⊢
  clear hsec
  have hxb := heap_lt hbx
  have htb := heap_lt (hX.box 1 rfl)
  have t8 := blk_cell (hX.box 1 rfl) 8 (.slice pa pl pc) rfl
  have HX := Lib.hid hX
  clear hX hbx
  go_upto_if 14 with (fail)
  go_cut [7] (fun v wx => w1 = wx ∧ ∃ k : Nat, k < 2 ∧ v = .int .i64 k)
  case first =>
    cases sec with
    | true =>
      go_wp2
      go_meet
      exact ⟨rfl, 1, by omega, rfl⟩
    | false =>
      go_wp2
      go_meet
      exact ⟨rfl, 0, by omega, rfl⟩
  case rest =>
  obtain ⟨rfl, k, hk, rfl⟩ := hcut
  clear x2
  go_upto_if 20 with (fail)
  go_cut [8] (fun v wx => ∃ at' : Nat, v = .int .i64 at' ∧ (pl = 0 ∨ at' < pl) ∧ St W wx (bx xb x.cells.toArray 35 :: TwP tb pb cn sa ga sc gc pa pl pc E S G P))
  case first =>
    by_cases hpl0 : 0 < pl
    · have hr := pickN_range x.n pl (by omega)
      go_upto_region 6 with (fail)
      go_region_held3 (fun w' => w'.cell? ⟨xb, 1, none⟩ = some (.int .i64 x.n) ∧ w'.cell? ⟨tb, 8, none⟩ = some (.slice pa pl pc))
        (first | exact ⟨x1, t8⟩ | go_keep)
        ((first
          | (go_at_call 8; refine (pick_is x.n pl _ hx2.1 hx2.2 (by omega) (by omega)).mono ?_; rintro e w2 ⟨rfl, rfl⟩)))
      all_goals
        (try go_wp2_with fail)
        go_meet
        exact ⟨(pickN x.n pl).toNat, by rw [Int.toNat_of_nonneg hr.1], .inr (by omega), HX.out.drewN _⟩
    · obtain rfl : pl = 0 := by omega
      go_wp2
      go_meet
      refine ⟨0, rfl, ?_, HX.out⟩
      first | exact .inl rfl | exact .inl trivial
  case rest =>
  clear x0 x1 t8 hxb htb HX
  obtain ⟨at', rfl, hat, hS⟩ := hcut
  have x0 := blk_cell (hS.box 0 rfl) 0 (.int .i64 x.what) rfl
  have hxb := heap_lt (hS.box 0 rfl)
  have HS := Lib.hid hS.tail
  clear hS
  go_upto_block 0 with (refine (pick_is x.what 8 _ hx1.1 hx1.2 (by omega) (by omega)).mono ?_; rintro e w2 ⟨rfl, rfl⟩)
  obtain ⟨v, hv⟩ : ∃ v : Nat, pickN x.what 8 = (v : Int) := ⟨(pickN x.what 8).toNat, by omega⟩
  rw [hv] at HF hpr ⊢
  clear hv x0 hxb
  have hk0 : (0 : Int) ≤ (k : Int) := by omega
  have hk2 : (k : Int) < 2 := by omega
  obtain ⟨ip, hip1, hip2, hip3⟩ := info_parts infoP
  have HIP := Lib.hid (And.intro hip1 (And.intro hip2 hip3))
  clear hip1 hip2 hip3
  by_cases h1 : v ≤ 1
  · have g1 : decide ((v : Int) ≤ 1) = true := by simp; omega
    obtain ⟨f0, f1⟩ := HF.out (by omega)
    have hkS : (S k).length < 60 := by rcases two_cases hk with rfl | rfl <;> assumption
    obtain ⟨ba, bb, hba, hbb⟩ := two_bytes i hi
    obtain ⟨s, hs⟩ : ∃ s : ByteArray, (⟨[ba, bb].toArray⟩ : ByteArray) = s := ⟨_, rfl⟩
    have hq : ((E k).wc (cn k)).queue.length ≤ 64 := by have := HI.out.qlen hk; show (E k).queue.length ≤ 64; omega
    have hl0 : 0 ≤ ((E k).wc (cn k)).last := by show 0 ≤ (E k).last; rw [(HI.out.lk k hk).last]; omega
    have hl1 : ((E k).wc (cn k)).last < 9223372036854775807 := by show (E k).last < 9223372036854775807; rw [(HI.out.lk k hk).last]; omega
    have herr : ((E k).wc (cn k)).sendErr = 0 := by
      rw [(wc_send (E k) (cn k) s).2]
      unfold Lk.sendErr
      rw [HI.out.notfull hk]
      rfl
    have HERR := Lib.hid herr
    have HSE : Hid (((E k).wc (cn k)).send s = ((E k).send s).wc (cn k)) := Lib.hid (wc_send (E k) (cn k) s).1
    have HS0 := Lib.hid hs
    have hE := HS.out.end1 hk
    have te := blk_cell (hE.box 1 rfl) k _ (twc_end pb sa ga sc gc S G pa pl pc hk)
    have htb := heap_lt (hE.box 1 rfl)
    have HE := Lib.hid hE
    clear hE hs herr f0 f1
    go_wp2_with ((with_reducible refine at_list ?_); refine wpList_toString 5 (by kernel_rfl) (by kernel_rfl) (by kernel_rfl) (some ⟨wc.heap.size, 0, none⟩) 2 2 rfl [ba, bb] (Sl.new (E := 5) (k := 1) (n := 2) (c := #[.int .u8 ba.toNat, .int .u8 bb.toNat]) (heap_alloc_new wc _) rfl (by unfold maxLen; omega)).rd ?_)
    rw [HS0.out]
    refine (lSend_st (HE.out.mod ((Mod.refl _ _).alloc _)) s hq hl0 hl1).mono ?_
    rw [HERR.out, HSE.out]
    rintro e w3 ⟨rfl, hS3⟩
    have hT3 := St.end2 (E := E) (cn := cn) hk hS3
    obtain ⟨sn, hsn⟩ : ∃ sn, (S k).length = sn := ⟨_, rfl⟩
    have hsl := hT3.slice (3 + k) (sent_at _ _ _ _ _ _ sa sc S hk)
    rw [hsn] at hsl hkS
    have t4 : w3.cell? ⟨tb, 4 + k, none⟩ = some (.slice (sa k) sn (sc k)) := by rw [← hsn]; exact blk_cell (hT3.box 0 rfl) (4 + k) _ (twc_sent pb sa ga sc gc S G pa pl pc hk)
    have htb3 := heap_lt (hT3.box 0 rfl)
    have HSN := Lib.hid hsn
    have HSL := Lib.hid hsl
    have HT3 := Lib.hid hT3
    obtain ⟨iq, hiq1, hiq2, hiq3⟩ := info_parts infoS
    have HQ := Lib.hid (And.intro hiq1 (And.intro hiq2 hiq3))
    clear hS3 hT3 hsl te htb HE hiq1 hiq2 hiq3
    go_upto_region 18 with (fail)
    go_region_law ((refine step_append rfl rfl 9 iq _ 1 16 (by kernel_rfl) HQ.out.1 HQ.out.2.1 HQ.out.2.2.1 HQ.out.2.2.2 rfl (sa k) sn (sc k) ((S k).map .string) (by rfl) ?hv (some ⟨w3.heap.size, 0, none⟩) 1 1 [.string s] (by rfl) ?hs ?h1 ?h63 ?hb ?_
                    case hv => exact HSL.out.mod (S := fun _ => False) (by first | exact ((Mod.refl _ _).alloc _).drew | exact ((Mod.refl _ _).drew).alloc _) (fun _ _ => id)
                    case hs => exact (Sl.new (E := 9) (k := 1) (n := 1) (c := #[.string s]) (by first | exact heap_alloc_new w3 _ | exact heap_alloc_new w3.drew _) rfl (by unfold maxLen; omega)).rd
                    case h1 => exact str_one [s]
                    case h63 => unfold maxLen; omega
                    case hb => omega
                    intro a2 cap2 w5 hS5 hM5 hF5 hN5 hR5
                    have hSA := HT3.out.mod (by first | exact ((Mod.refl _ w3).alloc (.cells #[.string s] 9)).drew | exact ((Mod.refl _ w3).drew).alloc (.cells #[.string s] 9))
                    have hSB := hSA.regrow (cs' := (S k).map .string ++ [.string s]) (3 + k) (by have := sent_at (bx tb (twc pb sa ga sc gc S G pa pl pc) 32) (lk (pb 0) ((upd2 E k ((E k).send s) 0).wc (upd2 cn k (cn k) 0))) (lk (pb 1) ((upd2 E k ((E k).send s) 1).wc (upd2 cn k (cn k) 1))) (tx (ga 0) (gc 0) (G 0)) (tx (ga 1) (gc 1) (G 1)) (sl 41 8 pa pl pc (flat P)) sa sc S hk; unfold tx at this; rw [HSN.out] at this; exact this) hS5 hM5 hF5
                    have hb2 := hSB.box 0 (by rw [show 3 + k = (2 + k) + 1 by omega]; rfl)
                    have hc2 : w5.cell? ⟨tb, 4 + k, none⟩ = some (.slice (sa k) sn (sc k)) := by rw [← HSN.out]; exact blk_cell hb2 (4 + k) _ (twc_sent pb sa ga sc gc S G pa pl pc hk)
                    have hf2 := blk_free hb2 (4 + k)
                    have htb5 := heap_lt hb2
                    have HSB := Lib.hid hSB
                    clear hN5 hR5 hb2 hSA hSB hS5))
    all_goals
      have hC : St W (w5.setCell ⟨tb, 4 + k, none⟩ (.slice a2 (sn + 1) cap2)) (bx tb ((twc pb sa ga sc gc S G pa pl pc).setIfInBounds (4 + k) (.slice a2 (sn + 1) cap2)) 32 :: lk (pb 0) ((upd2 E k ((E k).send s) 0).wc (upd2 cn k (cn k) 0)) :: lk (pb 1) ((upd2 E k ((E k).send s) 1).wc (upd2 cn k (cn k) 1)) :: [tx (sa 0) (sc 0) (S 0), tx (sa 1) (sc 1) (S 1), tx (ga 0) (gc 0) (G 0), tx (ga 1) (gc 1) (G 1), sl 41 8 pa pl pc (flat P)].set k (sl 9 1 a2 (sn + 1) cap2 ((S k).map .string ++ [.string s]))) := by
        have h := HSB.out.set 0 (pb := tb) (c := twc pb sa ga sc gc S G pa pl pc) (t := 32) (by rw [show 3 + k = (2 + k) + 1 by omega]; rfl) (4 + k) (.slice a2 (sn + 1) cap2)
        clear HSB HT3 HSL t4 htb3 hc2 hf2 htb5 HERR HSE hq hl0 hl1
        rcases two_cases hk with rfl | rfl <;> exact h
      clear t4 htb3
      have hlen : (S k ++ [s]).length = sn + 1 := by rw [List.length_append, HSN.out]; rfl
      rw [twc_set_sent pb sa ga sc gc S G pa pl pc hk (S k ++ [s]) (sn + 1) hlen, show (S k).map Value.string ++ [.string s] = (S k ++ [s]).map .string by rw [List.map_append]; rfl, ← hlen] at hC
      rw [← hlen]
      have HC := Lib.hid hC
      have HLT := Lib.hid (show (S k).length < 60 by rw [HSN.out]; exact hkS)
      clear hC hlen HT3 HSL
      go_wp2
      go_ret
      refine ⟨rfl, upd2 E k ((E k).send s), upd2 S k (S k ++ [s]), G, P, ⟨pb, upd2 cn k (cn k), upd2 sa k a2, ga, upd2 sc k cap2, gc, pa, pc, ?_⟩, HI.out.send hk HLT.out s, by rw [HPL.out]; omega⟩
      have h := HC.out
      rw [HPL.out]
      clear HC HLT HSN hkS hq hl0 hl1 HERR HSE
      rcases two_cases hk with rfl | rfl <;> exact h
  · have g1 : decide ((v : Int) ≤ 1) = false := by simp; omega
    by_cases h2 : v = 2
    · subst h2
      obtain ⟨xs, hxs⟩ : ∃ xs, (E k).out (E k).sent = xs := ⟨_, rfl⟩
      obtain ⟨m, hm⟩ : ∃ m, xs.length = m := ⟨_, rfl⟩
      have hml : m ≤ 61 := by have h1 := out_len (E k) (E k).sent; have h2 := HI.out.qlen hk; rw [hxs, hm] at h1; omega
      have hq : ((E k).wc (cn k)).queue.length ≤ 64 := by have := HI.out.qlen hk; show (E k).queue.length ≤ 64; omega
      have HXS : Hid (((E k).wc (cn k)).out ((E k).wc (cn k)).sent = xs) := Lib.hid hxs
      have HBH : Hid (((E k).wc (cn k)).behind ((E k).wc (cn k)).sent = ((E k).behind (E k).sent).wc (cn k)) := Lib.hid (wc_behind (E k) (cn k) (E k).sent).1
      have HXO := Lib.hid hxs
      have HM := Lib.hid hm
      have hE := HS.out.end1 hk
      have t8 := blk_cell (hE.box 1 rfl) 8 (.slice pa pl pc) rfl
      have te := blk_cell (hE.box 1 rfl) k _ (twc_end pb sa ga sc gc S G pa pl pc hk)
      have htb := heap_lt (hE.box 1 rfl)
      have HE := Lib.hid hE
      clear hE hxs hm
      go_upto_region 20 with (fail)
      go_region_law (first
        | (refine step_append rfl rfl 41 ip _ 8 72 (by kernel_rfl) HIP.out.1 HIP.out.2.1 HIP.out.2.2.1 HIP.out.2.2.2 rfl pa pl pc (flat P) (by rfl) (HT3.out.slice 8 rfl) a3 m cap3 (flat xs) (by rfl) (HT3.out.slice 3 rfl).rd (flat_one _) (by unfold maxLen; omega) (by omega) ?_; intro a6 cap6 w6 hS6 hM6 hF6 hN6 hR6; have hSA := HT3.out.regrow 8 rfl hS6 hM6 hF6; have v8 := blk_cell (hSA.box 0 rfl) 8 (.slice pa pl pc) rfl; have vf := blk_free (hSA.box 0 rfl) 8; have htb6 := heap_lt (hSA.box 0 rfl); have HSA := Lib.hid hSA; clear hN6 hR6 hSA hS6)
        | (go_simp; go_at_call 18; refine (lFlush_st (HE.out.mod (by first | exact Mod.refl _ _ | exact (Mod.refl _ _).drew | exact (Mod.refl _ _).drewN _)) hq).mono ?_; rw [HXS.out, HBH.out]; rintro e w3 ⟨a3, cap3, rfl, hS3⟩; rw [HM.out] at hS3 ⊢; have hT3 := St.end2 (E := E) (cn := cn) hk (hS3.perm (perm3 _ _ _ _ _).symm); have u8 := blk_cell (hT3.box 0 rfl) 8 (.slice pa pl pc) rfl; have htb3 := heap_lt (hT3.box 0 rfl); have HT3 := Lib.hid hT3; clear hS3 hT3))
      all_goals
        have hz := HSA.out.set 0 rfl 8 (.slice a6 (pl + m) cap6)
        have HZ := Lib.hid ((hz.perm (perm3 _ _ _ _ _)).tail)
        clear hz
        go_wp2
        go_ret
        have hII := HI.out.out hk (E k).sent
        rw [HXO.out] at hII
        refine ⟨rfl, upd2 E k ((E k).behind (E k).sent), S, G, P ++ xs, ⟨pb, upd2 cn k (cn k), sa, ga, sc, gc, a6, cap6, ?_⟩, hII, by rw [List.length_append, HPL.out, HM.out]; omega⟩
        rw [List.length_append, HPL.out, HM.out, flat_append]
        exact HZ.out
    · have g2 : ((v : Int) == 2) = false := by simp; omega
      by_cases h3 : v = 3
      · subst h3
        obtain ⟨xs, hxs⟩ : ∃ xs, (E k).out 0 = xs := ⟨_, rfl⟩
        obtain ⟨m, hm⟩ : ∃ m, xs.length = m := ⟨_, rfl⟩
        have hml : m ≤ 61 := by have h1 := out_len (E k) 0; have h2 := HI.out.qlen hk; rw [hxs, hm] at h1; omega
        have hq : ((E k).wc (cn k)).queue.length ≤ 64 := by have := HI.out.qlen hk; show (E k).queue.length ≤ 64; omega
        have HXS : Hid (((E k).wc (cn k)).out 0 = xs) := Lib.hid hxs
        have HBH : Hid (((E k).wc (cn k)).behind 0 = ((E k).behind 0).wc (cn k)) := Lib.hid (wc_behind (E k) (cn k) 0).1
        have HXO := Lib.hid hxs
        have HM := Lib.hid hm
        have hE := HS.out.end1 hk
        have t8 := blk_cell (hE.box 1 rfl) 8 (.slice pa pl pc) rfl
        have te := blk_cell (hE.box 1 rfl) k _ (twc_end pb sa ga sc gc S G pa pl pc hk)
        have htb := heap_lt (hE.box 1 rfl)
        have HE := Lib.hid hE
        clear hE hxs hm
        go_upto_region 22 with (fail)
        go_region_law (first
          | (refine step_append rfl rfl 41 ip _ 8 72 (by kernel_rfl) HIP.out.1 HIP.out.2.1 HIP.out.2.2.1 HIP.out.2.2.2 rfl pa pl pc (flat P) (by rfl) (HT3.out.slice 8 rfl) a3 m cap3 (flat xs) (by rfl) (HT3.out.slice 3 rfl).rd (flat_one _) (by unfold maxLen; omega) (by omega) ?_; intro a6 cap6 w6 hS6 hM6 hF6 hN6 hR6; have hSA := HT3.out.regrow 8 rfl hS6 hM6 hF6; have v8 := blk_cell (hSA.box 0 rfl) 8 (.slice pa pl pc) rfl; have vf := blk_free (hSA.box 0 rfl) 8; have htb6 := heap_lt (hSA.box 0 rfl); have HSA := Lib.hid hSA; clear hN6 hR6 hSA hS6)
          | (go_simp; go_at_call 11; refine (lTick_st (HE.out.mod (by first | exact Mod.refl _ _ | exact (Mod.refl _ _).drew | exact (Mod.refl _ _).drewN _)) hq).mono ?_; rw [HXS.out, HBH.out]; rintro e w3 ⟨a3, cap3, rfl, hS3⟩; rw [HM.out] at hS3 ⊢; have hT3 := St.end2 (E := E) (cn := cn) hk (hS3.perm (perm3 _ _ _ _ _).symm); have u8 := blk_cell (hT3.box 0 rfl) 8 (.slice pa pl pc) rfl; have htb3 := heap_lt (hT3.box 0 rfl); have HT3 := Lib.hid hT3; clear hS3 hT3))
        all_goals
          have hz := HSA.out.set 0 rfl 8 (.slice a6 (pl + m) cap6)
          have HZ := Lib.hid ((hz.perm (perm3 _ _ _ _ _)).tail)
          clear hz
          go_wp2
          go_ret
          have hII := HI.out.out hk 0
          rw [HXO.out] at hII
          refine ⟨rfl, upd2 E k ((E k).behind 0), S, G, P ++ xs, ⟨pb, upd2 cn k (cn k), sa, ga, sc, gc, a6, cap6, ?_⟩, hII, by rw [List.length_append, HPL.out, HM.out]; omega⟩
          rw [List.length_append, HPL.out, HM.out, flat_append]
          exact HZ.out
      · have g3 : ((v : Int) == 3) = false := by simp; omega
        have t8 := blk_cell (HS.out.box 0 rfl) 8 (.slice pa pl pc) rfl
        have htb := heap_lt (HS.out.box 0 rfl)
        by_cases hp0 : pl = 0
        · have gz : ((pl : Int) == 0) = true := by simp; omega
          clear hp0
          go_wp2
          go_ret
          exact ⟨rfl, E, S, G, P, Two.mk1 HPL.out HS.out, HI.out, by rw [HPL.out]; omega⟩
        have gz : ((pl : Int) == 0) = false := by simp; omega
        have hat' : at' < pl := by omega
        have hat0 : (0 : Int) ≤ (at' : Int) := by omega
        have hat1 : (at' : Int) < (pl : Int) := by omega
        obtain ⟨p, hp0⟩ : ∃ p, P[at']? = some p := ⟨P[at']'(by rw [HPL.out]; exact hat'), List.getElem?_eq_getElem _⟩
        obtain ⟨k', hk', hpk⟩ : ∃ k', k' < 2 ∧ PkI (1 - k') (S (1 - k')) (G (1 - k')) p := by
          obtain ⟨j, hj, H⟩ := HI.out.post p (List.mem_of_getElem? hp0)
          rcases two_cases hj with rfl | rfl
          · exact ⟨1, by omega, H⟩
          · exact ⟨0, by omega, H⟩
        have hS := HS.out
        obtain ⟨ub, uo, rfl, hub, hcc⟩ := (show Rd wc 8 pa pl pc (P.flatMap Pk.cells) from (hS.slice 7 rfl).rd).elem Pk.cells pklen (by omega) hp0
        have HC := Lib.hid (show ∀ t u, p.cells[t]? = some u → wc.cell? ((⟨ub, uo + at' * 8, none⟩ : Addr).add t) = some u from fun t u hu => by
          rw [add_none]
          exact hcc t u hu)
        have hu1 := (hS.slice 7 rfl).2.1
        have hpc : at' ≤ pc := by omega
        clear hcc hp0 hS hat
        go_upto_region 9 with (first | ((with_reducible refine at_list ?_); refine wpList_load_chunk 8 _ Try.underlying41 rfl sizeP ⟨ub, uo + at' * 8, none⟩ rfl p.cells rfl HC.out ?_) | (refine wpList_store_whole 8 sizeP wc.heap.size rfl _ _ (heap_alloc_new wc _) rfl p.cells rfl rfl (by kernel_rfl) ?_; intro w8 hb8 hm8 hz8; have hS8 := (HS.out.box1 _ _).rebox 0 rfl hb8 hm8; have HS8 := Lib.hid hS8; have zb := heap_lt hb8; clear hb8 hm8 hz8 hS8; generalize wc.heap.size = nb at zb HS8 ⊢))
        clear HC HS hub t8 htb
        have t8 := blk_cell (HS8.out.box 1 rfl) 8 (.slice (some ⟨ub, uo, none⟩) pl pc) rfl
        have htb := heap_lt (HS8.out.box 1 rfl)
        by_cases h6 : v = 6
        · have g6 : ((v : Int) != 6) = false := by simp; omega
          have g7 : ((v : Int) != 7) = true := by simp; omega
          have HSQ := HS8
          have HQL := HPL
          have HIQ := HI
          go_wp2_with ((with_reducible refine at_list ?_); refine wpList_load_chunk 8 _ Try.underlying41 rfl sizeP ⟨nb, 0, none⟩ rfl p.cells rfl (box_chunk (HSQ.out.box 0 rfl)) ?_)
          refine (hand_two (Two.mk1 HQL.out HSQ.out.tail) HIQ.out hk' p hpk).mono ?_
          rintro e w12 ⟨rfl, hT⟩
          have HT := Lib.hid hT
          clear hT
          go_wp2
          go_ret
          exact ⟨rfl, _, _, _, _, HT.out, (HIQ.out.hear hk' hpk).1, by have := HQL.out; omega⟩
        have g6 : ((v : Int) != 6) = true := by simp; omega
        have HV8 := Lib.hid (HS8.out.slice 8 rfl)
        go_upto_region 13 with (first
          | (at_builtin; refine wpList_append 41 ip _ 8 72 (by kernel_rfl) HIP.out.1 HIP.out.2.1 HIP.out.2.2.1 HIP.out.2.2.2 rfl none 0 0 [] rfl (Sl.nil _ _ _) (some ⟨ub, uo, none⟩) at' pc _ rfl (HV8.out.rd.upto at' (by omega)) (fun u hu => flat_one P u (List.mem_of_mem_take hu)) (by unfold maxLen; omega) (by omega) ?_; rw [Nat.zero_add, List.nil_append]; intro a9 cap9 w9 hS9 hM9 hF9 hN9 hG9; clear hN9 hG9; have hT89 : Mod (fun _ => False) w8 w9 := hM9.mono (fun x _ hx => by cases hx); have t9 := hT89.cell t8 id; have tb9 := Nat.lt_of_lt_of_le htb hT89.size)
          | ((with_reducible refine at_list ?_); refine wpList_cutR 41 8 (by kernel_rfl) cellsP isP (some ⟨ub, uo, none⟩) pl pc (flat P) rfl (HV8.out.rd.mod hT89 (fun _ _ => id)) _ _ _ rfl rfl rfl (at' + 1) pl pc (bounds_l _ _ _ _ (by omega) (by omega)) (by omega) (Nat.le_refl _) hu1 (Nat.le_refl _) ?_; intro p10 hR10 hO10)
          | (at_builtin; refine wpList_append 41 ip _ 8 72 (by kernel_rfl) HIP.out.1 HIP.out.2.1 HIP.out.2.2.1 HIP.out.2.2.2 rfl a9 at' cap9 _ rfl hS9 p10 (pl - (at' + 1)) (pc - (at' + 1)) _ rfl hR10 (fun u hu => flat_one P u (List.mem_of_mem_drop (List.mem_of_mem_take hu))) (by unfold maxLen; omega) (by omega) ?_; rw [show at' + (pl - (at' + 1)) = pl - 1 from by omega, cut_flat P at' pl HPL.out]; intro a11 cap11 w11 hS11 hM11 hF11 hN11 hG11; clear hN11 hG11; have hz89 := hT89.size; have ho9 : ∀ x, own a9 = some x → w8.heap.size ≤ x := (fun x hx => (hF9 x hx).elim (fun h => by cases h) (fun h => h.1)); have hT811 : Mod (fun _ => False) w8 w11 := hT89.then hM11 (fun x hx h => by have := ho9 x h; omega); have HSN := Lib.hid (HS8.out.newSlice hT811 hS11 (fun x hx => (hF11 x hx).elim (fun h => ho9 x h) (fun h => by omega))); have t8n := blk_cell (HSN.out.box 2 rfl) 8 (.slice (some ⟨ub, uo, none⟩) pl pc) rfl; have f8n := blk_free (HSN.out.box 2 rfl) 8; have tbn := heap_lt (HSN.out.box 2 rfl); clear hR10 hO10 hS9 hM9 hF9 hS11 hM11 hF11 hT89 hT811 ho9 t9 tb9 hz89))
        have hz := HSN.out.set 2 rfl 8 (.slice a11 (pl - 1) cap11)
        have hz := hz.perm (List.perm_append_comm (l₁ := [_, _, _, _, _, _, _, _, _]) (l₂ := [_]))
        have hz := hz.tail.perm (List.perm_append_comm (l₁ := [_]) (l₂ := [_, _, _, _, _, _, _, _]))
        obtain ⟨Q, hQ⟩ : ∃ Q, P.take at' ++ P.drop (at' + 1) = Q := ⟨_, rfl⟩
        rw [hQ] at hz
        have HQL : Hid (Q.length = pl - 1) := Lib.hid (by rw [← hQ, List.length_append, List.length_take, List.length_drop, HPL.out]; omega)
        have HIQ : Hid (Inv E S G Q) := Lib.hid (HI.out.sub (fun y hy => by
          rw [← hQ] at hy
          rcases List.mem_append.1 hy with h | h
          · exact List.mem_of_mem_take h
          · exact List.mem_of_mem_drop h))
        have hq : St W (w11.setCell ⟨tb, 8, none⟩ (.slice a11 (pl - 1) cap11)) (bx nb p.cells.toArray 41 :: TwP tb pb cn sa ga sc gc a11 (pl - 1) cap11 E S G Q) := hz
        have HSQ := Lib.hid hq
        clear hz hq hQ t8 htb t8n f8n tbn HSN HV8 HS8
        by_cases h7 : v = 7
        · have g7 : ((v : Int) != 7) = false := by simp; omega
          go_wp2
          go_ret
          exact ⟨rfl, E, S, G, Q, Two.mk1 HQL.out HSQ.out.tail, HIQ.out, by rw [HQL.out]; omega⟩
        · have g7 : ((v : Int) != 7) = true := by simp; omega
          go_wp2_with ((with_reducible refine at_list ?_); refine wpList_load_chunk 8 _ Try.underlying41 rfl sizeP ⟨nb, 0, none⟩ rfl p.cells rfl (box_chunk (HSQ.out.box 0 rfl)) ?_)
          refine (hand_two (Two.mk1 HQL.out HSQ.out.tail) HIQ.out hk' p hpk).mono ?_
          rintro e w12 ⟨rfl, hT⟩
          have HT := Lib.hid hT
          clear hT
          go_wp2
          go_ret
          exact ⟨rfl, _, _, _, _, HT.out, (HIQ.out.hear hk' hpk).1, by have := HQL.out; omega⟩
end Go.Proofs.Ytoeokdachojhjaa
