/-
  CodecApart: things one behind the other are told apart.
  No condition.
-/
import Derived.Test.YtecckgapdpmegabCodecOpen
import Derived.Test.YtecckgapdpmegabCodecV
namespace Go.Proofs.Ytecckgapdpmegab
open Go.ChangeShapes Go.WideShapes Go.ChangeAt Go.RowKit Go.Deep
set_option linter.unusedVariables false
set_option linter.unusedSimpArgs false

theorem St.third {w0 w : World} {r s t : Thing} {l : List Thing} (h : St w0 w (r :: s :: t :: l)) : St w0 w (t :: r :: s :: l) :=
  h.perm ((List.Perm.cons _ (.swap _ _ _)).trans (.swap _ _ _))

def txt (t : ByteArray) : List UInt8 := sevens t.size ++ t.data.toList
theorem txt_size (t : ByteArray) : t.data.toList.length = t.size := by rw [Array.length_toList]; rfl
theorem mk_toList (t : ByteArray) : ByteArray.mk t.data.toList.toArray = t := by apply ByteArray.ext; simp

theorem ne_toList {a b : ByteArray} (h : ¬ a = b) : (a.toList == b.toList) = false := by
  rw [ByteArray.toList_eq, ByteArray.toList_eq]
  rw [beq_eq_false_iff_ne]
  exact fun e => h (ByteArray.ext (by simpa using e))

/-- The plain law: a number and a text begin no other ones. -/
theorem begins_law {a b : Int} {s t : ByteArray} {rest : List UInt8} (ha : -9223372036854775808 ≤ a ∧ a ≤ 9223372036854775807) (hb : -9223372036854775808 ≤ b ∧ b ≤ 9223372036854775807) (hs : s.size < 18446744073709551616) (ht : t.size < 18446744073709551616)
    (h : sevens (zig b) ++ txt t = sevens (zig a) ++ txt s ++ rest) : a = b ∧ s = t := by
  have e1 := sv_back (zig b) 0 0 (txt t) (by omega) (by have := zig_lt b hb.1 hb.2; omega)
  have e2 := sv_back (zig a) 0 0 (txt s ++ rest) (by omega) (by have := zig_lt a ha.1 ha.2; omega)
  rw [← List.append_assoc, ← h, e1] at e2
  simp only [Nat.zero_add, Nat.pow_zero, Nat.mul_one, Prod.mk.injEq, and_true] at e2
  obtain rfl : a = b := by rw [← zag_zig a, ← e2.1, zag_zig]
  refine ⟨rfl, ?_⟩
  rw [List.append_assoc] at h
  have h2 := List.append_cancel_left h
  unfold txt at h2
  have f1 := sv_back t.size 0 0 t.data.toList (by omega) (by omega)
  have f2 := sv_back s.size 0 0 (s.data.toList ++ rest) (by omega) (by omega)
  rw [← List.append_assoc, ← h2, f1] at f2
  simp only [Nat.zero_add, Nat.pow_zero, Nat.mul_one, Prod.mk.injEq, and_true] at f2
  rw [f2.1, List.append_assoc] at h2
  have h3 := List.append_cancel_left h2
  have h4 : rest = [] := by
    have := congrArg List.length h3
    rw [List.length_append, txt_size, txt_size] at this
    exact List.eq_nil_of_length_eq_zero (by omega)
  rw [h4, List.append_nil] at h3
  rw [← mk_toList s, ← mk_toList t, h3]

set_option maxRecDepth 100000 in
set_option maxHeartbeats 4000000 in
theorem apart_walk (a b : Int) (ha : -9223372036854775808 ≤ a ∧ a ≤ 9223372036854775807) (hb : -9223372036854775808 ≤ b ∧ b ≤ 9223372036854775807) (s t : ByteArray) (hs : s.size ≤ 140737488351232) (ht : t.size ≤ 140737488351232) (W : World) :
    Calls Try.prog 3 #[.int .i64 a, .int .i64 b, .string s, .string t] W (AwPost W) := by
  obtain ⟨n, hn⟩ : ∃ n, s.size = n := ⟨_, rfl⟩
  obtain ⟨m, hm⟩ : ∃ m, t.size = m := ⟨_, rfl⟩
  have HA := Lib.hid ha
  have HB := Lib.hid hb
  have HN := Lib.hid hn
  have HM := Lib.hid hm
  rw [hn] at hs
  rw [hm] at ht
  clear ha hb
  go_enter Try.func3, Try.ntmps3
  go_wp2_with fail
  refine (awake_any W).mono ?_
  rintro e w1 ⟨rfl, hmo⟩
  have hnm : n + m ≤ 2 ^ 63 - 1 := by omega
  by_cases hbig : 1073741774 < n + m
  · have gb : decide (1073741774 < (n : Int) + m) = true := by simp; omega
    have gb2 : decide (1073741774 < n + m) = true := by simp; omega
    go_wp2
    go_ret
    exact ⟨rfl, hmo⟩
  · have gb : decide (1073741774 < (n : Int) + m) = false := by simp; omega
    have gb2 : decide (1073741774 < n + m) = false := by simp; omega
    have HSM := Lib.hid hbig
    clear hbig hs ht
    go_wp2_with fail
    refine (wnew_st ((St.start W).mod hmo)).mono ?_
    clear hmo
    rintro e w2 ⟨wb, rfl, hS⟩
    go_wp2_with fail
    refine (wnew_st hS).mono ?_
    clear hS
    rintro e w3 ⟨vb, rfl, hS⟩
    go_wp2_with fail
    refine (wnew_st hS).mono ?_
    clear hS
    rintro e w4 ⟨xb, rfl, hS⟩
    have hS := hS.third
    have l1 : (sevens (zig a)).length ≤ 10 := sevens_length 10 _ (by have := zig_lt a HA.out.1 HA.out.2; omega) (by omega)
    have l2 : (sevens (zig b)).length ≤ 10 := sevens_length 10 _ (by have := zig_lt b HB.out.1 HB.out.2; omega) (by omega)
    have l3 : (sevens s.size).length ≤ 10 := sevens_length 10 _ (by have := HSM.out; have := HN.out; omega) (by omega)
    have l4 : (sevens t.size).length ≤ 10 := sevens_length 10 _ (by have := HSM.out; have := HM.out; omega) (by omega)
    have lS : s.data.toList.length = n := (txt_size s).trans hn
    have lT : t.data.toList.length = m := (txt_size t).trans hm
    have HL := Lib.hid (And.intro l1 (And.intro l2 (And.intro l3 (And.intro l4 (And.intro lS lT)))))
    clear l1 l2 l3 l4 lS lT
    have HF : Hid (∀ k, k ≤ 1073741774 + 100 → bfits k) := by
      show ∀ k, _ → _
      intro k hk
      unfold bfits; omega
    clear gb gb2
    go_wp2_with fail
    refine (wnum_st hS a HA.out.1 HA.out.2 (HF.out _ (by have h := HL.out; have h2 := HSM.out; simp only [List.length_append, List.length_nil]; omega))).mono ?_
    clear hS
    rintro e w5 ⟨rfl, hS⟩
    go_wp2_with fail
    refine (wnum_st hS b HB.out.1 HB.out.2 (HF.out _ (by have h := HL.out; have h2 := HSM.out; simp only [List.length_append, List.length_nil]; omega))).mono ?_
    clear hS
    rintro e w5 ⟨rfl, hS⟩
    go_wp2_with fail
    refine (wtext_st hS s (HF.out _ (by have h3 := HN.out; have h := HL.out; have h2 := HSM.out; simp only [List.length_append, List.length_nil]; omega))).mono ?_
    clear hS
    rintro e w5 ⟨rfl, hS⟩
    go_wp2_with fail
    refine (wtext_st hS t (HF.out _ (by have h3 := HN.out; have h4 := HM.out; have h := HL.out; have h2 := HSM.out; simp only [List.length_append, List.length_nil]; omega))).mono ?_
    clear hS
    rintro e w5 ⟨rfl, hS⟩
    obtain ⟨full, hfull⟩ : ∃ full, ([] ++ sevens (zig a) ++ sevens (zig b) ++ sevens s.size ++ s.data.toList ++ sevens t.size ++ t.data.toList) = full := ⟨_, rfl⟩
    rw [hfull] at hS
    have HFULL : Hid (full = sevens (zig a) ++ (sevens (zig b) ++ (sevens s.data.toList.length ++ s.data.toList ++ (sevens t.data.toList.length ++ t.data.toList ++ [])))) := by
      show _ = _
      rw [← hfull, txt_size, txt_size]; simp
    have hfl : bfits full.length := HF.out _ (by rw [← hfull]; have h3 := HN.out; have h4 := HM.out; have h := HL.out; have h2 := HSM.out; simp only [List.length_append, List.length_nil]; omega)
    clear hfull
    go_wp2_with fail
    refine (wbytes_st hS).mono ?_
    rintro e w6 ⟨rfl, rfl⟩
    obtain ⟨S, hSS⟩ : ∃ S, ByteArray.mk full.toArray = S := ⟨_, rfl⟩
    rw [hSS]
    have hSl : S.data.toList = full := by rw [← hSS]
    have hSf : bfits S.size := by rw [← hSS]; show bfits full.toArray.size; simpa using hfl
    have HSl := Lib.hid hSl
    clear hSS hSl
    go_wp2_with fail
    refine (rread_st hS S hSf).mono ?_
    rw [HSl.out]
    clear hS
    rintro e w7 ⟨rb, rfl, hS⟩
    have d1 := rnum_at (bs := full) (s := ⟨0, 0⟩) rfl (by rw [HFULL.out, List.drop_zero]) HA.out
    obtain ⟨p1, hp1⟩ : ∃ p1 : RS, (⟨0 + (sevens (zig a)).length, 0⟩ : RS) = p1 := ⟨_, rfl⟩
    have q1 : full.drop p1.at_ = sevens (zig b) ++ (sevens s.data.toList.length ++ s.data.toList ++ (sevens t.data.toList.length ++ t.data.toList ++ [])) := by
      rw [← hp1, HFULL.out]; simp only [Nat.zero_add]; rw [List.drop_left]
    have z1 : p1.wr = 0 := by rw [← hp1]
    rw [hp1] at d1
    have d2 := rnum_at (bs := full) (s := p1) z1 q1 HB.out
    obtain ⟨p2, hp2⟩ : ∃ p2 : RS, (⟨p1.at_ + (sevens (zig b)).length, 0⟩ : RS) = p2 := ⟨_, rfl⟩
    have q2 : full.drop p2.at_ = sevens s.data.toList.length ++ s.data.toList ++ (sevens t.data.toList.length ++ t.data.toList ++ []) := by
      rw [← hp2]; simp only; rw [← List.drop_drop, q1, List.drop_left]
    have z2 : p2.wr = 0 := by rw [← hp2]
    rw [hp2] at d2
    have d3 := rtext_at (bs := full) (s := p2) (most := (n : Int)) z2 q2 (by rw [txt_size]; have h2 := HSM.out; have h3 := HN.out; omega) (by rw [txt_size]; have h3 := HN.out; omega)
    obtain ⟨p3, hp3⟩ : ∃ p3 : RS, (⟨p2.at_ + (sevens s.data.toList.length).length + s.data.toList.length, 0⟩ : RS) = p3 := ⟨_, rfl⟩
    have q3 : full.drop p3.at_ = sevens t.data.toList.length ++ t.data.toList ++ [] := by
      rw [← hp3]; simp only; rw [Nat.add_assoc, ← List.length_append, ← List.drop_drop, q2, List.drop_left]
    have z3 : p3.wr = 0 := by rw [← hp3]
    rw [hp3] at d3
    have d4 := rtext_at (bs := full) (s := p3) (most := (m : Int)) z3 q3 (by rw [txt_size]; have h2 := HSM.out; have h3 := HM.out; omega) (by rw [txt_size]; have h3 := HM.out; omega)
    obtain ⟨p4, hp4⟩ : ∃ p4 : RS, (⟨p3.at_ + (sevens t.data.toList.length).length + t.data.toList.length, 0⟩ : RS) = p4 := ⟨_, rfl⟩
    have q4 : full.drop p4.at_ = [] := by
      rw [← hp4]; simp only; rw [Nat.add_assoc, ← List.length_append, ← List.drop_drop, q3, List.drop_left]
    have z4 : p4.wr = 0 := by rw [← hp4]
    rw [hp4] at d4
    have d5 : (rend full p4).wr = 0 := by
      unfold rend
      rw [if_neg (by have := List.drop_eq_nil_iff.1 q4; omega)]
      exact z4
    have H1 := Lib.hid d1
    have H2 := Lib.hid d2
    have H3 := Lib.hid d3
    have H4 := Lib.hid d4
    have H5 := Lib.hid d5
    clear d1 d2 d3 d4 d5 q1 q2 q3 q4 z1 z2 z3 z4 hp1 hp2 hp3 hp4
    go_wp2_with fail
    refine (rnum_st hS).mono ?_
    rw [H1.out]
    clear hS
    rintro e w8 ⟨rfl, hS⟩
    go_wp2_with fail
    refine (rnum_st hS).mono ?_
    rw [H2.out]
    clear hS
    rintro e w8 ⟨rfl, hS⟩
    go_wp2_with fail
    refine (rtext_st hS (n : Int) (by omega) (by omega)).mono ?_
    rw [H3.out, mk_toList]
    clear hS
    rintro e w8 ⟨rfl, hS⟩
    go_wp2_with fail
    refine (rtext_st hS (m : Int) (by omega) (by omega)).mono ?_
    rw [H4.out, mk_toList]
    clear hS
    rintro e w8 ⟨rfl, hS⟩
    have hS := St.third hS.swap.drop
    go_wp2_with fail
    refine (wnum_st hS a HA.out.1 HA.out.2 (HF.out _ (by have h := HL.out; have h2 := HSM.out; have h3 := HN.out; have h4 := HM.out; simp only [List.length_append, List.length_nil]; omega))).mono ?_
    clear hS
    rintro e w8 ⟨rfl, hS⟩
    go_wp2_with fail
    refine (wtext_st hS s (HF.out _ (by have h := HL.out; have h2 := HSM.out; have h3 := HN.out; have h4 := HM.out; simp only [List.length_append, List.length_nil]; omega))).mono ?_
    clear hS
    rintro e w8 ⟨rfl, hS⟩
    have hS := hS.third
    go_wp2_with fail
    refine (wnum_st hS b HB.out.1 HB.out.2 (HF.out _ (by have h := HL.out; have h2 := HSM.out; have h3 := HN.out; have h4 := HM.out; simp only [List.length_append, List.length_nil]; omega))).mono ?_
    clear hS
    rintro e w8 ⟨rfl, hS⟩
    go_wp2_with fail
    refine (wtext_st hS t (HF.out _ (by have h := HL.out; have h2 := HSM.out; have h3 := HN.out; have h4 := HM.out; simp only [List.length_append, List.length_nil]; omega))).mono ?_
    clear hS
    rintro e w8 ⟨rfl, hS⟩
    rw [show [] ++ sevens (zig a) ++ sevens s.size ++ s.data.toList = sevens (zig a) ++ txt s by simp [txt], show [] ++ sevens (zig b) ++ sevens t.size ++ t.data.toList = sevens (zig b) ++ txt t by simp [txt]] at hS
    obtain ⟨P, hP⟩ : ∃ P, ByteArray.mk (sevens (zig a) ++ txt s).toArray = P := ⟨_, rfl⟩
    obtain ⟨Q, hQ⟩ : ∃ Q, ByteArray.mk (sevens (zig b) ++ txt t).toArray = Q := ⟨_, rfl⟩
    obtain ⟨np, hnp⟩ : ∃ np, P.size = np := ⟨_, rfl⟩
    obtain ⟨nq, hnq⟩ : ∃ nq, Q.size = nq := ⟨_, rfl⟩
    have hpl : (sevens (zig a) ++ txt s).length = np := by rw [← hnp, ← hP]; show _ = (sevens (zig a) ++ txt s).toArray.size; simp
    have hql : (sevens (zig b) ++ txt t).length = nq := by rw [← hnq, ← hQ]; show _ = (sevens (zig b) ++ txt t).toArray.size; simp
    have hpb : np ≤ 2 ^ 63 - 1 := by rw [← hpl]; unfold txt; have h := HL.out; have h2 := HSM.out; have h3 := HN.out; have h4 := HM.out; simp only [List.length_append, List.length_nil]; omega
    have hqb : nq ≤ 2 ^ 63 - 1 := by rw [← hql]; unfold txt; have h := HL.out; have h2 := HSM.out; have h3 := HN.out; have h4 := HM.out; simp only [List.length_append, List.length_nil]; omega
    have HP := Lib.hid hP
    have HQ := Lib.hid hQ
    have HPL := Lib.hid hpl
    have HQL := Lib.hid hql
    have hpre : np ≤ nq → Q.extract 0 np = P → a = b ∧ s = t := by
      intro h1 h2
      have h3 : (sevens (zig b) ++ txt t).take np = sevens (zig a) ++ txt s := by
        have := congrArg (fun x : ByteArray => x.data.toList) h2
        rw [← HP.out, ← HQ.out] at this
        simpa using this
      refine begins_law (rest := (sevens (zig b) ++ txt t).drop np) HA.out HB.out (by have h2 := HSM.out; have h3 := HN.out; omega) (by have h2 := HSM.out; have h3 := HM.out; omega) ?_
      rw [← h3, List.take_append_drop]
    have HPRE := Lib.hid hpre
    clear hP hQ hpl hql hpre
    go_wp2_with fail
    refine (wbytes_st hS.swap).mono ?_
    rw [HP.out]
    rintro e w9 ⟨rfl, rfl⟩
    go_wp2_with fail
    refine (wbytes_st hS).mono ?_
    rw [HQ.out]
    rintro e w9 ⟨rfl, rfl⟩
    have hS := hS.third
    by_cases hE : a = b ∧ s = t
    · obtain ⟨rfl, rfl⟩ := hE
      have hPQ : P = Q := HP.out.symm.trans HQ.out
      subst hPQ
      obtain rfl : np = nq := hnp.symm.trans hnq
      have hx : P.extract 0 np = P := by
        rw [← hnp]; exact ByteArray.extract_zero_size
      go_wp2_with fail
      refine (rend_st hS).mono ?_
      rw [H5.out]
      clear hS
      rintro e w10 ⟨rfl, hS⟩
      go_wp2
      go_ret
      exact ⟨by simp, hS.1⟩
    · by_cases hle : np ≤ nq
      · have hx : ¬ Q.extract 0 np = P := fun h => hE (HPRE.out hle h)
        by_cases hab : a = b
        · subst hab
          have hst : ¬ s = t := fun h => hE ⟨rfl, h⟩
          have HX := Lib.hid (ne_toList hx)
          have HST := Lib.hid (ne_toList hst)
          clear hE hx hst
          go_wp2_with fail
          refine (rend_st hS).mono ?_
          rw [H5.out]
          clear hS
          rintro e w10 ⟨rfl, hS⟩
          go_wp2
          go_ret
          exact ⟨by rw [HX.out, HST.out]; simp, hS.1⟩
        · have gab : (a == b) = false := by simpa using hab
          have HX := Lib.hid (ne_toList hx)
          clear hE hx
          go_wp2_with fail
          refine (rend_st hS).mono ?_
          rw [H5.out]
          clear hS
          rintro e w10 ⟨rfl, hS⟩
          go_wp2
          go_ret
          exact ⟨by rw [HX.out]; simp, hS.1⟩
      · have gle : decide (np ≤ nq) = false := by simpa using hle
        by_cases hab : a = b
        · subst hab
          have hst : ¬ s = t := fun h => hE ⟨rfl, h⟩
          have HST := Lib.hid (ne_toList hst)
          clear hE hle hst
          go_wp2_with fail
          refine (rend_st hS).mono ?_
          rw [H5.out]
          clear hS
          rintro e w10 ⟨rfl, hS⟩
          go_wp2
          go_ret
          exact ⟨by rw [HST.out]; simp, hS.1⟩
        · have gab : (a == b) = false := by simpa using hab
          clear hE hle
          go_wp2_with fail
          refine (rend_st hS).mono ?_
          rw [H5.out]
          clear hS
          rintro e w10 ⟨rfl, hS⟩
          go_wp2
          go_ret
          exact ⟨by simp, hS.1⟩

theorem apart_contract {H : Type} {enc : TypeId × Value → H} (W : World) (base : Nat) (v0 : Value) (d0 : DataW H) (p0 : List MemPlace) (v1 : Value) (d1 : DataW H) (p1 : List MemPlace) (v2 : Value) (d2 : DataW H) (p2 : List MemPlace) (v3 : Value) (d3 : DataW H) (p3 : List MemPlace)
    (k0 : DataW.Trod enc Try.prog W 0 (fun _ => true) true 3 v0 d0 p0) (k1 : DataW.Trod enc Try.prog W 0 (fun _ => true) true 3 v1 d1 p1) (k2 : DataW.Trod enc Try.prog W 0 (fun _ => true) true 9 v2 d2 p2) (k3 : DataW.Trod enc Try.prog W 0 (fun _ => true) true 9 v3 d3 p3)
    (o0 : Value.okWide Try.prog W .any base 3 v0) (o1 : Value.okWide Try.prog W .any base 3 v1) (o2 : Value.okWide Try.prog W .any base 9 v2) (o3 : Value.okWide Try.prog W .any base 9 v3)
    (hsz : (DataW.weightsEach Try.prog [3, 3, 9, 9] [d0, d1, d2, d3]).all (· ≤ reachBytes) = true) :
    Calls Try.prog 3 #[v0, v1, v2, v3] W (AwPost W) := by
  have hw : ∀ x, x ∈ d2.weights Try.prog 9 ∨ x ∈ d3.weights Try.prog 9 → x ≤ reachBytes := fun x hx => by
    have := List.all_eq_true.1 hsz x (by simp only [DataW.weightsEach, List.mem_append]; rcases hx with hx | hx <;> simp [hx])
    simpa using this
  obtain ⟨a, rfl, ha⟩ := open_int k0 o0
  obtain ⟨b, rfl, hb⟩ := open_int k1 o1
  obtain ⟨s, rfl, hf, hf2⟩ := open_str k2 o2 (fun x hx => hw x (.inl hx))
  obtain ⟨t, rfl, hg, hg2⟩ := open_str k3 o3 (fun x hx => hw x (.inr hx))
  exact apart_walk a b ha hb s t hf2 hg2 W
end Go.Proofs.Ytecckgapdpmegab
