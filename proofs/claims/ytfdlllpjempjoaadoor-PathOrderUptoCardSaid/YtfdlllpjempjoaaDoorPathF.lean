/-
  The document's Names and Check.
  Conditions: the text is not longer than 4000000000.
-/
import Derived.Test.YtfdlllpjempjoaaDoorPathE
import Derived.Test.YtfdlllpjempjoaaDoorSt
namespace Go.Proofs.YtfdlllpjempjoaaDoor
open Go.RowKit
set_option linter.unusedSectionVars false
set_option linter.unusedSimpArgs false
set_option linter.unusedVariables false
set_option maxRecDepth 100000

theorem St.regrow {w0 w w' : World} {l : List Thing} (h : St w0 w l) (i : Nat) {E k n cap n' cap' : Nat} {a a' : Option Addr} {cs cs' : List Value} (hi : l[i]? = some (sl E k a n cap cs)) (hs : Sl w' E k a' n' cap' cs') (hm : Mod (fun x => own a = some x) w w')
    (hF : ∀ b, own a' = some b → own a = some b ∨ (w.heap.size ≤ b ∧ b < w'.heap.size)) : St w0 w' (l.set i (sl E k a' n' cap' cs')) := by
  obtain ⟨F1, ⟨hh, hF1⟩, hz, hk⟩ := h.at i hi
  exact hk w' (sl E k a' n' cap' cs') (fun x => own a' = some x) (hm.mono (fun x _ hx => (hF1 x).2 hx)) ⟨hs, fun _ => Iff.rfl⟩ (fun x hx => (hF x hx).imp (fun h => (hF1 x).2 h) (·.1))
theorem St.newSlice {w0 w w' : World} {l : List Thing} (h : St w0 w l) {E k n cap : Nat} {a : Option Addr} {cs : List Value} (hm : Mod (fun _ => False) w w') (hs : Sl w' E k a n cap cs) (hF : ∀ b, own a = some b → w.heap.size ≤ b) : St w0 w' (sl E k a n cap cs :: l) :=
  h.cons (F := fun x => own a = some x) hm ⟨hs, fun _ => Iff.rfl⟩ hF
theorem St.nilSlice {w0 w : World} {l : List Thing} (h : St w0 w l) (E k : Nat) : St w0 w (sl E k none 0 0 [] :: l) :=
  h.newSlice (Mod.refl _ _) (Sl.nil _ _ _) (fun b hb => by simp [own] at hb)
theorem infoStr : (Tryd.prog.info? 9).map (fun i => (i.zero, i.size, i.bytes)) = some (some (.string .empty), 1, 16) := by kernel_rfl
theorem parts_of {P : Program} {t : TypeId} {z : Value} {k b : Nat} (h : (P.info? t).map (fun i => (i.zero, i.size, i.bytes)) = some (some z, k, b)) : ∃ i : TypeInfo, P.info? t = some i ∧ i.zero = some z ∧ i.size = k ∧ i.bytes = b := by
  obtain ⟨i, hi, he⟩ := Option.map_eq_some_iff.1 h
  simp only [Prod.mk.injEq] at he
  exact ⟨i, hi, he.1, he.2.1, he.2.2⟩
theorem src_str (w : World) (s : ByteArray) : Rd (w.alloc (.cells #[.string s] 9)) 1 (some ⟨w.heap.size, 0, none⟩) 1 1 [.string s] := by
  refine ⟨rfl, Nat.le_refl _, by simp [maxLen], .inr ⟨_, rfl, fun i u hu => ?_⟩⟩
  rw [add_none, Nat.zero_add]
  refine blk_cell (heap_alloc_new w _) i u ?_
  match i, hu with
  | 0, hu => exact hu
  | i + 1, hu => simp at hu

theorem joinL_length : ∀ ns : List (List UInt8), ns.length ≤ (joinL ns).length
  | [] => Nat.le_refl _
  | n :: ns => by have := joinL_length ns; rw [joinL_cons]; simp; omega
/-- How the names read so far stand in a text. -/
structure Read (l rest : List UInt8) (ds : List (List UInt8)) : Prop where
  eq : l = joinL ds ++ rest
  all : ds.all isNm = true
  next : ds = [] ∨ rest = [] ∨ ∃ t, rest = 47 :: t
theorem Read.end' {l : List UInt8} {ds : List (List UInt8)} (h : Read l [] ds) : formL l = decide (ds ≠ []) ∧ (parts l).length - 1 = ds.length := by
  have hp : parts l = [] :: ds := by rw [h.eq, List.append_nil]; exact parts_join ds (fun n hn => isNm_no (List.all_eq_true.1 h.all n hn))
  refine ⟨?_, by rw [hp, List.length_cons, Nat.add_sub_cancel]⟩
  rw [formL, hp]
  simp [h.all]
theorem Read.other {l t : List UInt8} {c : UInt8} {ds : List (List UInt8)} (h : Read l (c :: t) ds) (hc : c ≠ 47) : formL l = false := by
  rcases h.next with rfl | h2 | ⟨t', h2⟩
  · have e := h.eq
    rw [joinL_nil, List.nil_append] at e
    obtain ⟨x, r, h1, h2⟩ := parts_other hc t
    rw [formL, e, h2]
    simp
  · cases h2
  · exact absurd (List.cons.inj h2).1 hc
theorem Read.mid {l n r : List UInt8} {ds : List (List UInt8)} (h : Read l (47 :: (n ++ r)) ds) (hn : (47 : UInt8) ∉ n) (hr : r = [] ∨ ∃ t, r = 47 :: t) :
    (isNm n = false → formL l = false) ∧ (isNm n = true → Read l r (ds ++ [n])) := by
  constructor
  · intro hx
    have hp : parts l = ([] :: ds) ++ parts (n ++ r) := by rw [h.eq, parts_mid, parts_join ds (fun m hm => isNm_no (List.all_eq_true.1 h.all m hm))]
    have hq : ∃ q, parts (n ++ r) = n :: q := by
      rcases hr with rfl | ⟨t, rfl⟩
      · exact ⟨[], by rw [List.append_nil, parts_clean n hn]⟩
      · exact ⟨parts t, by rw [parts_mid, parts_clean n hn]; rfl⟩
    obtain ⟨q, hq⟩ := hq
    rw [formL, hp, hq]
    simp [hx]
  · intro hx
    refine ⟨by rw [h.eq, joinL_snoc]; simp, by simp [h.all, hx], .inr hr⟩

set_option maxHeartbeats 4000000 in
theorem Names_any (s : ByteArray) (hs : s.size ≤ 4000000000) (w : World) :
    Calls Tryd.prog 23 #[.string s] w fun e w' => ∃ (a : Option Addr) (n cap : Nat), e = .returned (.tuple #[.slice a n cap, .bool (formL s.data.toList)]) ∧ n ≤ cap ∧ cap ≤ maxLen ∧ (formL s.data.toList = true → n = (parts s.data.toList).length - 1) ∧ Old w w' := by
  obtain ⟨ip, hi1, hi2, hi3, hi4⟩ := parts_of infoStr
  have HI := Lib.hid (And.intro hi1 (And.intro hi2 (And.intro hi3 hi4)))
  obtain ⟨l, hl⟩ : ∃ l, s.data.toList = l := ⟨_, rfl⟩
  have hls : l.length ≤ 4000000000 := by rw [← hl, ← size_list]; exact hs
  rw [hl]
  clear hi1 hi2 hi3 hi4
  go_enter Tryd.func23, Tryd.ntmps23
  go_wp2
  go_loopg [0, 4] s.size (fun g y0 y4 wr => ∃ (r : ByteArray) (k : Nat) (pa : Option Addr) (cap : Nat) (cs : List Value) (ds : List (List UInt8)), y0 = .string r ∧ y4 = .slice pa k cap ∧ k = ds.length ∧ r.size ≤ g ∧ r.size ≤ s.size ∧ Read l r.data.toList ds ∧ St w wr [sl 9 1 pa k cap cs])
  case atStart => exact ⟨s, 0, none, 0, [], [], rfl, rfl, rfl, Nat.le_refl _, Nat.le_refl _, ⟨by rw [hl]; rfl, rfl, .inl rfl⟩, (St.start w).nilSlice _ _⟩
  case round =>
    obtain ⟨r, k, pa, cap, cs, ds, rfl, rfl, hk, hrg, hrs, hrd, hS⟩ := hrel
    have hrs' : r.size ≤ 9223372036854775807 := by omega
    have hkl : k ≤ 4000000000 := by
      have h1 := joinL_length ds
      have h2 := congrArg List.length hrd.eq
      rw [List.length_append] at h2
      omega
    have HS := Lib.hid hS
    have hnc := hS.slice 0 rfl
    have hn1 := hnc.2.1
    have hn2 := hnc.2.2.1
    clear hS hnc
    by_cases h0 : r.data.toList = []
    · have q0 := toList_beq' h0
      rw [h0] at hrd
      have he := hrd.end'
      have HE := Lib.hid he
      have HK := Lib.hid hk
      have HN2 := Lib.hid hn2
      clear he hrd hk hn2
      go_wp2
      all_goals try (exfalso; simp_all; done)
      go_ret2
      refine ⟨pa, k, cap, ?_, hn1, HN2.out, fun _ => by rw [HE.out.2, HK.out], HS.out.1⟩
      rw [HE.out.1, show decide (ds ≠ []) = decide (0 < k) by
        rw [HK.out, Bool.eq_iff_iff]; simp only [decide_eq_true_eq]
        cases ds <;> simp]
      rfl
    · have q0 := toList_beq h0
      have hr1 : 1 ≤ r.size := by
        rw [size_list]
        exact List.length_pos_iff.2 h0
      have zr1 : (1 : Int) ≤ (r.size : Int) := by omega
      have hlt0 : 0 < r.size := by omega
      have hcons : r.data.toList = r[0] :: r.data.toList.drop 1 := by
        have := drop_cons r 0 hlt0
        rwa [List.drop_zero] at this
      by_cases hc : r[0] = 47
      · have z47 : ((r[0].toNat : Int) == 47) = true := by rw [hc]; rfl
        have z47' : ((r[0].toNat : Int) != 47) = false := by rw [hc]; rfl
        have HC := Lib.hid hcons
        have HCC := Lib.hid hc
        have HRD := Lib.hid hrd
        have HK := Lib.hid hk
        have HN2 := Lib.hid hn2
        clear hcons hc hrd hk hn2 h0
        go_wp2
        all_goals try (exfalso; simp_all; done)
        go_loopg [5] r.size (fun g y5 wx => ∃ i : Nat, y5 = .int .i64 (i : Int) ∧ 1 ≤ i ∧ i ≤ r.size ∧ (47 : UInt8) ∉ (r.data.toList.drop 1).take (i - 1) ∧ r.size ≤ i + g ∧ wx = wr)
        case atStart => exact ⟨1, rfl, Nat.le_refl _, hr1, by simp, by omega, rfl⟩
        case round =>
          obtain ⟨i, rfl, hi1, hir, hno, hfu, rfl⟩ := hrel
          have zi1 : (1 : Int) ≤ (i : Int) := by omega
          have zir : (i : Int) ≤ (r.size : Int) := by omega
          have hstop : (i < r.size ∧ ∃ h : i < r.size, r[i] ≠ 47) ∨ (i = r.size ∨ ∃ h : i < r.size, r[i] = 47) := by
            by_cases hx : i < r.size
            · by_cases hy : r[i] = 47
              · exact .inr (.inr ⟨hx, hy⟩)
              · exact .inl ⟨hx, hx, hy⟩
            · exact .inr (.inl (by omega))
          rcases hstop with ⟨hx, hx', hy⟩ | hend
          · have zx : (i : Int) < (r.size : Int) := by omega
            have hy' : r[i].toNat ≠ 47 := fun e => hy (UInt8.toNat_inj.1 e)
            have zy : ((r[i].toNat : Int) == 47) = false := by rw [Bool.eq_false_iff]; intro e; have := beq_iff_eq.1 e; omega
            have zy' : ((r[i].toNat : Int) != 47) = true := by simp only [bne, zy]; rfl
            have hno2 : (47 : UInt8) ∉ (r.data.toList.drop 1).take (i + 1 - 1) := by
              obtain ⟨j, rfl⟩ : ∃ j, i = j + 1 := ⟨i - 1, by omega⟩
              rw [Nat.add_sub_cancel] at hno ⊢
              have hg : (r.data.toList.drop 1)[j]? = some r[j + 1] := by
                rw [List.getElem?_drop, Nat.add_comm]
                rw [Array.getElem?_toList, Array.getElem?_eq_getElem (show j + 1 < r.data.size from hx)]; rfl
              obtain ⟨hj, hje⟩ := List.getElem?_eq_some_iff.1 hg
              rw [List.take_succ_eq_append_getElem hj, hje, List.mem_append]
              rintro (h | h)
              · exact hno h
              · exact hy (List.mem_singleton.1 h).symm
            have HNO := Lib.hid hno2
            clear hno hno2 hy hy'
            go_wp2
            go_roundg (gk - 1)
            case measure => omega
            case rel => exact ⟨i + 1, rfl, by omega, by omega, HNO.out, by omega, rfl⟩
          · obtain ⟨X, hX⟩ : ∃ X, r.extract 1 i = X := ⟨_, rfl⟩
            obtain ⟨R', hR'⟩ : ∃ R', r.extract i r.size = R' := ⟨_, rfl⟩
            have hXl : X.data.toList = (r.data.toList.drop 1).take (i - 1) := by rw [← hX, Lib.extract_data]
            have hRl : R'.data.toList = r.data.toList.drop i := by
              rw [← hR', Lib.extract_data]
              exact List.take_of_length_le (by rw [List.length_drop, size_list]; exact Nat.le_refl _)
            have hXs : X.size ≤ r.size := by rw [size_list, hXl, List.length_take, List.length_drop, ← size_list]; omega
            have hRs : R'.size = r.size - i := by rw [size_list, hRl, List.length_drop, ← size_list]
            have hnext : R'.data.toList = [] ∨ ∃ t, R'.data.toList = 47 :: t := by
              rw [hRl]
              rcases hend with h | ⟨h, he⟩
              · exact .inl (List.drop_eq_nil_of_le (by rw [← size_list]; omega))
              · exact .inr ⟨_, by rw [drop_cons r i h, he]⟩
            have heq : r.data.toList = 47 :: (X.data.toList ++ R'.data.toList) := by
              rw [HC.out, HCC.out, hXl, hRl]
              congr 1
              obtain ⟨j, rfl⟩ : ∃ j, i = j + 1 := ⟨i - 1, by omega⟩
              rw [Nat.add_sub_cancel, Nat.add_comm j 1, ← List.drop_drop, List.take_append_drop]
            have hmid := HRD.out
            rw [heq] at hmid
            have hm2 := hmid.mid (hXl ▸ hno) hnext
            have HM := Lib.hid hm2
            have cN := refIsName_any X (by omega) wr
            have hz : ((decide ((i : Int) < (r.size : Int)) = true ∧ ∃ h : i < r.size, ((r[i].toNat : Int) == 47) = true ∧ ((r[i].toNat : Int) != 47) = false) ∨ ¬ ((i : Int) < (r.size : Int))) := by
              rcases hend with h | ⟨h, he⟩
              · exact .inr (by omega)
              · exact .inl ⟨by simp; omega, h, by rw [he]; rfl, by rw [he]; rfl⟩
            clear hno hXl hRl hnext heq hmid hm2 hend
            have hRlt : R'.size < r.size := by omega
            rcases hz with ⟨hd1, h, z1, z2⟩ | hz
            all_goals
              cases hn : isNm X.data.toList
              all_goals
                rw [hn] at cN
            · have hf := HM.out.1 hn
              have HF := Lib.hid hf
              have zx : (i : Int) < (r.size : Int) := by simpa using hd1
              clear hf hn hd1
              go_wp2_with (go_at_call 32; refine cN.mono ?_; rintro e w2 ⟨rfl, hO2⟩; clear cN)
              go_ret2
              exact ⟨none, 0, 0, by rw [HF.out]; rfl, Nat.le_refl _, Nat.zero_le _, (fun h => absurd (HF.out.symm.trans h) (by decide)), HS.out.1.trans hO2 (fun _ _ h => h) (fun _ _ h => h)⟩
            · have hf := HM.out.2 hn
              have HF := Lib.hid hf
              have zx : (i : Int) < (r.size : Int) := by simpa using hd1
              clear hf hn hd1
              go_wp2_with (first
                | (go_at_call 32; refine cN.mono ?_; rintro e w2 ⟨rfl, hO2⟩; have HS2 := Lib.hid (HS.out.mod hO2); clear cN)
                | (at_builtin; refine wpList_append 9 ip _ 1 16 (by kernel_rfl) HI.out.1 HI.out.2.1 HI.out.2.2.1 HI.out.2.2.2 rfl pa k cap cs rfl ((HS2.out.mod ((Mod.refl _ _).alloc _)).slice 0 rfl) (some ⟨w2.heap.size, 0, none⟩) 1 1 _ rfl (src_str w2 X) (by intro u hu; simp only [List.mem_singleton] at hu; subst hu; rfl) (by unfold maxLen; omega) (by omega) ?_; intro a7 cap7 w7 hS7 hM7 hF7 hN7 hR7; have HS7 := Lib.hid ((HS2.out.mod ((Mod.refl _ w2).alloc (.cells #[.string X] 9))).regrow 0 rfl hS7 hM7 hF7); clear hS7 hM7 hF7 hN7 hR7))
              go_roundg R'.size
              case measure => omega
              case rel => exact ⟨R', k + 1, a7, cap7, _, _, rfl, rfl, by rw [List.length_append, HK.out]; rfl, Nat.le_refl _, by omega, HF.out, HS7.out⟩
            · have hf := HM.out.1 hn
              have HF := Lib.hid hf
              clear hf hn
              go_wp2_with (go_at_call 32; refine cN.mono ?_; rintro e w2 ⟨rfl, hO2⟩; clear cN)
              go_ret2
              exact ⟨none, 0, 0, by rw [HF.out]; rfl, Nat.le_refl _, Nat.zero_le _, (fun h => absurd (HF.out.symm.trans h) (by decide)), HS.out.1.trans hO2 (fun _ _ h => h) (fun _ _ h => h)⟩
            · have hf := HM.out.2 hn
              have HF := Lib.hid hf
              clear hf hn
              go_wp2_with (first
                | (go_at_call 32; refine cN.mono ?_; rintro e w2 ⟨rfl, hO2⟩; have HS2 := Lib.hid (HS.out.mod hO2); clear cN)
                | (at_builtin; refine wpList_append 9 ip _ 1 16 (by kernel_rfl) HI.out.1 HI.out.2.1 HI.out.2.2.1 HI.out.2.2.2 rfl pa k cap cs rfl ((HS2.out.mod ((Mod.refl _ _).alloc _)).slice 0 rfl) (some ⟨w2.heap.size, 0, none⟩) 1 1 _ rfl (src_str w2 X) (by intro u hu; simp only [List.mem_singleton] at hu; subst hu; rfl) (by unfold maxLen; omega) (by omega) ?_; intro a7 cap7 w7 hS7 hM7 hF7 hN7 hR7; have HS7 := Lib.hid ((HS2.out.mod ((Mod.refl _ w2).alloc (.cells #[.string X] 9))).regrow 0 rfl hS7 hM7 hF7); clear hS7 hM7 hF7 hN7 hR7))
              go_roundg R'.size
              case measure => omega
              case rel => exact ⟨R', k + 1, a7, cap7, _, _, rfl, rfl, by rw [List.length_append, HK.out]; rfl, Nat.le_refl _, by omega, HF.out, HS7.out⟩
      · have hf : formL l = false := by
          rw [hcons] at hrd
          exact hrd.other hc
        have hc' : r[0].toNat ≠ 47 := fun e => hc (UInt8.toNat_inj.1 e)
        have z47 : ((r[0].toNat : Int) == 47) = false := by rw [Bool.eq_false_iff]; intro e; have := beq_iff_eq.1 e; omega
        have z47' : ((r[0].toNat : Int) != 47) = true := by simp only [bne, z47]; rfl
        have HF := Lib.hid hf
        clear hcons hc hrd hk hn2 h0 hf hc'
        go_wp2
        all_goals try (exfalso; simp_all; done)
        go_ret2
        exact ⟨none, 0, 0, by rw [HF.out]; rfl, Nat.le_refl _, Nat.zero_le _, (fun h => absurd (HF.out.symm.trans h) (by decide)), HS.out.1⟩

theorem refCheck_any (s : ByteArray) (hs : s.size ≤ 4000000000) (w : World) :
    Calls Tryd.prog 10 #[.string s] w (CopyPost (.int .i64 (checkL s.data.toList)) w) := by
  have hs' : s.size ≤ 9223372036854775807 := by omega
  by_cases hr : s.data.toList = [47]
  · have hv : checkL s.data.toList = 0 := by rw [checkL, if_pos hr]
    have hq := toList_beq' hr
    rw [hv]
    go_enter Tryd.func10, Tryd.ntmps10
    go_wp2
    go_ret
    exact ⟨rfl, Old.rfl' _⟩
  have hq := toList_beq hr
  have cN := Names_any s hs w
  have hcl : checkL s.data.toList = if formL s.data.toList = false then 40 else if 60 < s.size ∨ 6 < (parts s.data.toList).length - 1 then 41 else 0 := by
    rw [checkL, if_neg hr, ← size_list]
  rw [hcl]
  clear hcl
  cases hf : formL s.data.toList
  · rw [hf] at cN
    rw [if_pos rfl]
    go_enter Tryd.func10, Tryd.ntmps10
    go_wp2_with (go_at_call 23; refine cN.mono ?_; rintro e w2 ⟨a, n, cap, rfl, h1, h2, h3, hO⟩; clear cN h3)
    go_ret
    exact ⟨rfl, hO⟩
  · rw [hf] at cN
    rw [if_neg (by decide)]
    obtain ⟨M, hM⟩ : ∃ M, (parts s.data.toList).length - 1 = M := ⟨_, rfl⟩
    rw [hM] at cN ⊢
    by_cases h60 : 60 < s.size
    · have z60 : (60 : Int) < (s.size : Int) := by omega
      rw [if_pos (.inl h60)]
      go_enter Tryd.func10, Tryd.ntmps10
      go_wp2_with (go_at_call 23; refine cN.mono ?_; rintro e w2 ⟨a, n, cap, rfl, h1, h2, h3, hO⟩; clear cN h3)
      go_ret
      exact ⟨rfl, hO⟩
    · have z60 : ¬ (60 : Int) < (s.size : Int) := by omega
      by_cases h6 : 6 < M
      · have z6 : (6 : Int) < (M : Int) := by omega
        rw [if_pos (.inr h6)]
        go_enter Tryd.func10, Tryd.ntmps10
        go_wp2_with (go_at_call 23; refine cN.mono ?_; rintro e w2 ⟨a, n, cap, rfl, h1, h2, h3, hO⟩; obtain rfl := h3 rfl; clear cN h3)
        go_ret
        exact ⟨rfl, hO⟩
      · have z6 : ¬ (6 : Int) < (M : Int) := by omega
        rw [if_neg (by omega)]
        go_enter Tryd.func10, Tryd.ntmps10
        go_wp2_with (go_at_call 23; refine cN.mono ?_; rintro e w2 ⟨a, n, cap, rfl, h1, h2, h3, hO⟩; obtain rfl := h3 rfl; clear cN h3)
        go_ret
        exact ⟨rfl, hO⟩
end Go.Proofs.YtfdlllpjempjoaaDoor
