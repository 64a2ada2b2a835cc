/-
  LinkOrders: rounds: both tick, and all is heard.
  Conditions: the net's.
-/
import Derived.Test.YtoeokdachojhjaaTwoF
import Derived.Test.YtoeokdachojhjaaTwoD
namespace Go.Proofs.Ytoeokdachojhjaa
open Go.RowKit
set_option linter.unusedSectionVars false
set_option linter.unusedSimpArgs false
set_option linter.unusedVariables false

noncomputable def ordMid : Code := ((Try.f3.body.bind (codeAt 15)).getD .skip)

set_option maxRecDepth 100000 in
set_option maxHeartbeats 40000000 in
theorem ord_mid (x0 x1 x2 x3 x5 x6 x7 x8 x9 x10 x11 x12 x13 x14 x15 x16 x17 x18 x19 x20 x21 x22 x23 x24 x25 x26 x27 x28 x29 x30 x31 x32 x33 x34 x35 x36 x37 x38 x39 x40 x41 x42 x43 x44 x45 x46 x47 x48 x49 x50 x51 x52 x53 x54 x55 x56 x57 x58 x59 x60 x61 x62 x63 x64 x65 x66 x67 x68 x69 x70 x71 x72 x73 x74 x75 x76 x77 x78 x79 x80 x81 x82 x83 x84 x85 x86 x87 x88 x89 x90 x91 x92 x93 x94 x95 x96 x97 x98 x99 x100 x101 x102 x103 x104 x105 x106 x107 x108 x109 x110 x111 x112 x113 x114 x115 x116 x117 x118 x119 x120 x121 x122 x123 x124 x125 x126 x127 x128 x129 x130 x131 x132 x133 x134 x135 x136 x137 x138 x139 x140 x141 x142 x143 x144 x145 x146 x147 x148 x149 x150 x151 x152 x153 x154 x155 x156 x157 x158 x159 x160 x161 x162 x163 x164 x165 x166 x167 x168 x169 x170 x171 x172 x173 x174 x175 x176 x177 x178 x179 x180 x181 x182 x183 x184 x185 x186 x187 x188 x189 x190 x191 x192 x193 x194 x195 x196 x197 x198 x199 x200 x201 x202 x203 x204 x205 x206 x207 x208 : Value) {W w : World} {tb : Nat} {E : Nat → Lk} {S G : Nat → List ByteArray} {P : List Pk} (h : Two W tb E S G P w) (ha : AtR 0 E S G P) (hP : P.length ≤ 40000) :
    Code.wp Try.prog ordMid (bodyPost Try.prog Try.f3 (AwakePost W)) ⟨#[x0, x1, x2, x3, .pointer (some ⟨tb, 0, none⟩), x5, x6, x7, x8, x9, x10, x11, x12, x13, x14, x15, x16, x17, x18, x19, x20, x21, x22, x23, x24, x25, x26, x27, x28, x29, x30, x31, x32, x33, x34, x35, x36, x37, x38, x39, x40, x41, x42, x43, x44, x45, x46, x47, x48, x49, x50, x51, x52, x53, x54, x55, x56, x57, x58, x59, x60, x61, x62, x63, x64, x65, x66, x67, x68, x69, x70, x71, x72, x73, x74, x75, x76, x77, x78, x79, x80, x81, x82, x83, x84, x85, x86, x87, x88, x89, x90, x91, x92, x93, x94, x95, x96, x97, x98, x99, x100, x101, x102, x103, x104, x105, x106, x107, x108, x109, x110, x111, x112, x113, x114, x115, x116, x117, x118, x119, x120, x121, x122, x123, x124, x125, x126, x127, x128, x129, x130, x131, x132, x133, x134, x135, x136, x137, x138, x139, x140, x141, x142, x143, x144, x145, x146, x147, x148, x149, x150, x151, x152, x153, x154, x155, x156, x157, x158, x159, x160, x161, x162, x163, x164, x165, x166, x167, x168, x169, x170, x171, x172, x173, x174, x175, x176, x177, x178, x179, x180, x181, x182, x183, x184, x185, x186, x187, x188, x189, x190, x191, x192, x193, x194, x195, x196, x197, x198, x199, x200, x201, x202, x203, x204, x205, x206, x207, x208], []⟩ w := by
  obtain ⟨ip, hip1, hip2, hip3⟩ := info_parts infoP
  have HIP := Lib.hid (And.intro hip1 (And.intro hip2 hip3))
  have H0 := Lib.hid h
  have A0 := Lib.hid ha
  clear hip1 hip2 hip3 h ha
  conv => arg 2; whnf
  dsimp only
  go_upto_block 2 with fail
  go_cut [] (fun wx => ∃ (E : Nat → Lk) (G : Nat → List ByteArray) (P : List Pk), Two W tb E S G P wx ∧ G 0 = S 1 ∧ G 1 = S 0 ∧ (E 0).queue = [] ∧ (E 1).queue = [])
  case rest =>
    obtain ⟨E, G, P, hT, hall⟩ := hcut
    apply_assumption
    exact ord_end _ _ _ _ _ _ _ _ _ _ _ _ _ _ _ _ _ _ _ _ _ _ _ _ _ _ _ _ _ _ _ _ _ _ _ _ _ _ _ _ _ _ _ _ _ _ _ _ _ _ _ _ _ _ _ _ _ _ _ _ _ _ _ _ _ _ _ _ _ _ _ _ _ _ _ _ _ _ _ _ _ _ _ _ _ _ _ _ _ _ _ _ _ _ _ _ _ _ _ _ _ _ _ _ _ _ _ _ _ _ _ _ _ _ _ _ _ _ _ _ _ _ _ _ _ _ _ _ _ _ _ _ _ _ _ _ _ _ _ _ _ _ _ _ _ _ _ _ _ _ _ _ _ _ _ _ _ _ _ _ _ _ _ _ _ _ _ _ _ _ _ _ _ _ _ _ _ _ _ _ _ _ _ _ _ _ _ _ _ _ _ _ _ _ _ _ _ _ _ _ _ _ _ _ _ _ _ _ hT hall
  go_wp2_with fail
  go_loopg [8] 70 (fun g y wr => ∃ (j : Nat) (E : Nat → Lk) (G : Nat → List ByteArray) (P : List Pk), j + g = 70 ∧ y = .int .i64 j ∧ Two W tb E S G P wr ∧ AtR j E S G P ∧ P.length ≤ 40000)
  case atStart => exact ⟨0, E, G, P, rfl, rfl, H0.out, A0.out, hP⟩
  case round =>
    clear H0 A0 hP
    obtain ⟨j, E, G, P, hj, rfl, hT, hA, hP⟩ := hrel
    have HT := Lib.hid hT
    have HA := Lib.hid hA
    have HI := Lib.hid hA.inv
    have HPB := Lib.hid (show P.length ≤ 50000 by omega)
    clear hT hA
    by_cases hj7 : j < 70
    · have gj : decide ((j : Int) < 70) = true := by simp; omega
      go_upto_region 18 with (fail)
      go_cut [] (fun wx => Two W tb (upd2 E 0 ((E 0).behind 0)) S G (P ++ (E 0).out 0) wx)
      case first =>
        obtain ⟨pb, cn, sa, ga, sc, gc, pa, pc, hS⟩ := HT.out
        obtain ⟨pl, hpl⟩ : ∃ pl, (P).length = pl := ⟨_, rfl⟩
        rw [hpl] at hS
        obtain ⟨xs, hxs⟩ : ∃ xs, (E 0).out 0 = xs := ⟨_, rfl⟩
        obtain ⟨m, hm⟩ : ∃ m, xs.length = m := ⟨_, rfl⟩
        have hml : m ≤ 61 := by have h1 := out_len (E 0) 0; have h2 := HI.out.qlen (show 0 < 2 by omega); rw [hxs, hm] at h1; omega
        have hplb : pl ≤ 50000 := by have := HPB.out; omega
        have hq : ((E 0).wc (cn 0)).queue.length ≤ 64 := by have := HI.out.qlen (show 0 < 2 by omega); show (E 0).queue.length ≤ 64; omega
        have HXS : Hid (((E 0).wc (cn 0)).out 0 = xs) := Lib.hid hxs
        have HBH : Hid (((E 0).wc (cn 0)).behind 0 = ((E 0).behind 0).wc (cn 0)) := Lib.hid (wc_behind (E 0) (cn 0) 0).1
        have HXO := Lib.hid hxs
        have HM := Lib.hid hm
        have HPL := Lib.hid hpl
        have hE := hS.end1 (k := 0) (by omega)
        have t8 := blk_cell (hE.box 1 rfl) 8 (.slice pa pl pc) rfl
        have te := blk_cell (hE.box 1 rfl) 0 (.pointer (some ⟨pb 0, 0, none⟩)) rfl
        have htb := heap_lt (hE.box 1 rfl)
        have HE := Lib.hid hE
        clear hE hxs hm hS hpl
        go_region_law (first
            | (refine step_append rfl rfl 41 ip _ 8 72 (by kernel_rfl) HIP.out.1 HIP.out.2.1 HIP.out.2.2.1 HIP.out.2.2.2 rfl pa pl pc (flat (P)) (by rfl) (HT3.out.slice 8 rfl) a3 m cap3 (flat xs) (by rfl) (HT3.out.slice 3 rfl).rd (flat_one _) (by unfold maxLen; omega) (by omega) ?_; intro a6 cap6 w6 hS6 hM6 hF6 hN6 hR6; have hSA := HT3.out.regrow 8 rfl hS6 hM6 hF6; have v8 := blk_cell (hSA.box 0 rfl) 8 (.slice pa pl pc) rfl; have vf := blk_free (hSA.box 0 rfl) 8; have htb6 := heap_lt (hSA.box 0 rfl); have HSA := Lib.hid hSA; clear hN6 hR6 hSA hS6)
            | (go_simp; go_at_call 11; refine (lTick_st (HE.out.mod (by first | exact Mod.refl _ _ | exact (Mod.refl _ _).drew | exact (Mod.refl _ _).drewN _)) hq).mono ?_; rw [HXS.out, HBH.out]; rintro e w3 ⟨a3, cap3, rfl, hS3⟩; rw [HM.out] at hS3 ⊢; have hT3 := St.end2 (E := E) (cn := cn) (k := 0) (by omega) (hS3.perm (perm3 _ _ _ _ _).symm); have u8 := blk_cell (hT3.box 0 rfl) 8 (.slice pa pl pc) rfl; have htb3 := heap_lt (hT3.box 0 rfl); have HT3 := Lib.hid hT3; clear hS3 hT3))
        all_goals
          have hz := HSA.out.set 0 rfl 8 (.slice a6 (pl + m) cap6)
          have HZ := Lib.hid ((hz.perm (perm3 _ _ _ _ _)).tail)
          clear hz
          (try go_wp2_with fail)
          go_meet
          rw [HXO.out]
          refine ⟨pb, upd2 cn 0 (cn 0), sa, ga, sc, gc, a6, cap6, ?_⟩
          rw [List.length_append, HPL.out, HM.out, flat_append]
          exact HZ.out
      case rest =>
      have HT1 := Lib.hid hcut
      clear hcut HT
      have HI1 : Hid (Inv (upd2 E 0 ((E 0).behind 0)) S G (P ++ (E 0).out 0)) := Lib.hid (HI.out.out (show 0 < 2 by omega) 0)
      have HPB1 : Hid ((P ++ (E 0).out 0).length ≤ 50000) := Lib.hid (by
        have h1 := out_len (E 0) 0
        have h2 := HI.out.qlen (show 0 < 2 by omega)
        rw [List.length_append]
        omega)
      have HAT := Lib.hid HA.out.ticks
      obtain ⟨E', hE'⟩ : ∃ E', upd2 E 0 ((E 0).behind 0) = E' := ⟨_, rfl⟩
      obtain ⟨P', hP'⟩ : ∃ P', P ++ (E 0).out 0 = P' := ⟨_, rfl⟩
      have e1 : E 1 = E' 1 := by rw [← hE']; rfl
      rw [hE', hP'] at HT1 HI1
      rw [hE', hP', e1] at HAT
      rw [hP'] at HPB1
      clear hE' hP' e1 HI HPB HA hP
      have HT := HT1
      have HI := HI1
      have HPB := HPB1
      clear HT1 HI1 HPB1
      go_upto_region 19 with (fail)
      go_cut [] (fun wx => Two W tb (upd2 E' 1 ((E' 1).behind 0)) S G (P' ++ (E' 1).out 0) wx)
      case first =>
        obtain ⟨pb, cn, sa, ga, sc, gc, pa, pc, hS⟩ := HT.out
        obtain ⟨pl, hpl⟩ : ∃ pl, (P').length = pl := ⟨_, rfl⟩
        rw [hpl] at hS
        obtain ⟨xs, hxs⟩ : ∃ xs, (E' 1).out 0 = xs := ⟨_, rfl⟩
        obtain ⟨m, hm⟩ : ∃ m, xs.length = m := ⟨_, rfl⟩
        have hml : m ≤ 61 := by have h1 := out_len (E' 1) 0; have h2 := HI.out.qlen (show 1 < 2 by omega); rw [hxs, hm] at h1; omega
        have hplb : pl ≤ 50000 := by have := HPB.out; omega
        have hq : ((E' 1).wc (cn 1)).queue.length ≤ 64 := by have := HI.out.qlen (show 1 < 2 by omega); show (E' 1).queue.length ≤ 64; omega
        have HXS : Hid (((E' 1).wc (cn 1)).out 0 = xs) := Lib.hid hxs
        have HBH : Hid (((E' 1).wc (cn 1)).behind 0 = ((E' 1).behind 0).wc (cn 1)) := Lib.hid (wc_behind (E' 1) (cn 1) 0).1
        have HXO := Lib.hid hxs
        have HM := Lib.hid hm
        have HPL := Lib.hid hpl
        have hE := hS.end1 (k := 1) (by omega)
        have t8 := blk_cell (hE.box 1 rfl) 8 (.slice pa pl pc) rfl
        have te := blk_cell (hE.box 1 rfl) 1 (.pointer (some ⟨pb 1, 0, none⟩)) rfl
        have htb := heap_lt (hE.box 1 rfl)
        have HE := Lib.hid hE
        clear hE hxs hm hS hpl
        go_region_law (first
            | (refine step_append rfl rfl 41 ip _ 8 72 (by kernel_rfl) HIP.out.1 HIP.out.2.1 HIP.out.2.2.1 HIP.out.2.2.2 rfl pa pl pc (flat (P')) (by rfl) (HT3.out.slice 8 rfl) a3 m cap3 (flat xs) (by rfl) (HT3.out.slice 3 rfl).rd (flat_one _) (by unfold maxLen; omega) (by omega) ?_; intro a6 cap6 w6 hS6 hM6 hF6 hN6 hR6; have hSA := HT3.out.regrow 8 rfl hS6 hM6 hF6; have v8 := blk_cell (hSA.box 0 rfl) 8 (.slice pa pl pc) rfl; have vf := blk_free (hSA.box 0 rfl) 8; have htb6 := heap_lt (hSA.box 0 rfl); have HSA := Lib.hid hSA; clear hN6 hR6 hSA hS6)
            | (go_simp; go_at_call 11; refine (lTick_st (HE.out.mod (by first | exact Mod.refl _ _ | exact (Mod.refl _ _).drew | exact (Mod.refl _ _).drewN _)) hq).mono ?_; rw [HXS.out, HBH.out]; rintro e w3 ⟨a3, cap3, rfl, hS3⟩; rw [HM.out] at hS3 ⊢; have hT3 := St.end2 (E := E') (cn := cn) (k := 1) (by omega) (hS3.perm (perm3 _ _ _ _ _).symm); have u8 := blk_cell (hT3.box 0 rfl) 8 (.slice pa pl pc) rfl; have htb3 := heap_lt (hT3.box 0 rfl); have HT3 := Lib.hid hT3; clear hS3 hT3))
        all_goals
          have hz := HSA.out.set 0 rfl 8 (.slice a6 (pl + m) cap6)
          have HZ := Lib.hid ((hz.perm (perm3 _ _ _ _ _)).tail)
          clear hz
          (try go_wp2_with fail)
          go_meet
          rw [HXO.out]
          refine ⟨pb, upd2 cn 1 (cn 1), sa, ga, sc, gc, a6, cap6, ?_⟩
          rw [List.length_append, HPL.out, HM.out, flat_append]
          exact HZ.out
      case rest =>
      have hpn : (P' ++ (E' 1).out 0).length ≤ 50100 := by
        have h1 := out_len (E' 1) 0
        have h2 := HI.out.qlen (show 1 < 2 by omega)
        have h3 := HPB.out
        rw [List.length_append]
        omega
      have HT2 := Lib.hid hcut
      clear hcut HT HI HPB
      obtain ⟨En, hEn⟩ : ∃ En, upd2 E' 1 ((E' 1).behind 0) = En := ⟨_, rfl⟩
      obtain ⟨Pn, hPn⟩ : ∃ Pn, P' ++ (E' 1).out 0 = Pn := ⟨_, rfl⟩
      rw [hEn, hPn] at HT2 HAT
      rw [hPn] at hpn
      have HPN : Hid (Pn.length ≤ 50100) := Lib.hid hpn
      clear hEn hPn hpn
      obtain ⟨np, hnp⟩ : ∃ np, Pn.length = np := ⟨_, rfl⟩
      have HNP := Lib.hid hnp
      have hnpb : np ≤ 50100 := by rw [← hnp]; exact HPN.out
      clear hnp
      go_wp2
      go_loopg [] np (fun g wr => ∃ (E : Nat → Lk) (G : Nat → List ByteArray) (P : List Pk), P.length = g ∧ g ≤ 50100 ∧ Two W tb E S G P wr ∧ InR j E S G P)
      case atStart => exact ⟨En, G, Pn, HNP.out, hnpb, HT2.out, HAT.out⟩
      case round =>
        clear HT2 HAT
        obtain ⟨E, G, P, hpl, hgb, hT, hR⟩ := hrel
        obtain ⟨pb, cn, sa, ga, sc, gc, pa, pc, hS⟩ := hT
        rcases P with _ | ⟨p, P⟩
        · have t8 := blk_cell (hS.box 0 rfl) 8 (.slice pa 0 pc) rfl
          have htb := heap_lt (hS.box 0 rfl)
          have HS := Lib.hid hS
          have HR := Lib.hid hR
          clear hS hR
          go_wp2
          go_roundg (70 - (j + 1))
          case measure => omega
          case rel => exact ⟨j + 1, E, G, [], by omega, by simp, ⟨pb, cn, sa, ga, sc, gc, pa, pc, HS.out⟩, HR.out.ends, by simp⟩
        · obtain ⟨pl, hpll⟩ : ∃ pl, (p :: P).length = pl := ⟨_, rfl⟩
          rw [hpll] at hS hpl
          subst hpl
          have hpl1 : 1 ≤ pl := by rw [← hpll]; simp
          have hplP : P.length = pl - 1 := by rw [← hpll]; simp
          obtain ⟨k', hk', hpk⟩ : ∃ k', k' < 2 ∧ PkI (1 - k') (S (1 - k')) (G (1 - k')) p := by
            obtain ⟨i, hi, H⟩ := hR.inv.post p List.mem_cons_self
            rcases two_cases hi with rfl | rfl
            · exact ⟨1, by omega, H⟩
            · exact ⟨0, by omega, H⟩
          obtain ⟨ub, uo, rfl, hub, hcc⟩ := (show Rd wr 8 pa pl pc ((p :: P).flatMap Pk.cells) from (hS.slice 7 rfl).rd).elem Pk.cells pklen (by omega) (i := 0) (x := p) rfl
          rw [Nat.zero_mul, Nat.add_zero] at hcc
          have HC := Lib.hid (show ∀ t u, p.cells[t]? = some u → wr.cell? ((⟨ub, uo, none⟩ : Addr).add t) = some u from fun t u hu => by
            rw [add_none]
            exact hcc t u hu)
          have hu1 := (hS.slice 7 rfl).2.1
          have gz : decide ((0 : Int) < (pl : Int)) = true := by simp; omega
          have t8 := blk_cell (hS.box 0 rfl) 8 (.slice (some ⟨ub, uo, none⟩) pl pc) rfl
          have htb := heap_lt (hS.box 0 rfl)
          have HS := Lib.hid hS
          have HR := Lib.hid hR
          have HPLP := Lib.hid hplP
          clear hS hR hcc hpll hplP
          go_upto_region 22 with (first | ((with_reducible refine at_list ?_); refine wpList_load_chunk 8 _ Try.underlying41 rfl sizeP ⟨ub, uo, none⟩ rfl p.cells rfl HC.out ?_) | (refine wpList_store_whole 8 sizeP wr.heap.size rfl _ _ (heap_alloc_new wr _) rfl p.cells rfl rfl (by kernel_rfl) ?_; intro w8 hb8 hm8 hz8; have hS8 := (HS.out.box1 _ _).rebox 0 rfl hb8 hm8; have HS8 := Lib.hid hS8; have zb := heap_lt hb8; clear hb8 hm8 hz8 hS8; generalize wr.heap.size = nb at zb HS8 ⊢))
          clear HC HS hub t8 htb
          have t8 := blk_cell (HS8.out.box 1 rfl) 8 (.slice (some ⟨ub, uo, none⟩) pl pc) rfl
          have f8 := blk_free (HS8.out.box 1 rfl) 8
          have htb := heap_lt (HS8.out.box 1 rfl)
          have HV8 := Lib.hid (HS8.out.slice 8 rfl)
          have hcut8 : ((flat (p :: P)).drop (1 * 8)).take ((pl - 1) * 8) = flat P := by
            rw [flat_drop, List.drop_succ_cons, List.drop_zero, List.take_of_length_le (by rw [flat_length, HPLP.out]; exact Nat.le_refl _)]
          have HC8 := Lib.hid hcut8
          clear hcut8
          go_upto_region 23 with ((with_reducible refine at_list ?_); refine wpList_cut 41 8 (by kernel_rfl) cellsP isP (some ⟨ub, uo, none⟩) pl pc (flat (p :: P)) rfl HV8.out _ _ _ rfl rfl rfl 1 pl pc (bounds_l _ pl pc (1 : Int) (by omega) (by omega)) hpl1 (Nat.le_refl _) hu1 (Nat.le_refl _) ?_; rw [HC8.out]; intro p10 hS10 hO10; have HSN := Lib.hid (HS8.out.regrow 8 rfl hS10 (Mod.refl _ _) (fun x hx => .inl (by rw [← hO10]; exact hx))); clear hS10 hO10)
          have hz : St W (w8.setCell ⟨tb, 8, none⟩ (.slice p10 (pl - 1) (pc - 1))) (bx nb p.cells.toArray 41 :: TwP tb pb cn sa ga sc gc p10 (pl - 1) (pc - 1) E S G P) := HSN.out.set 1 rfl 8 (.slice p10 (pl - 1) (pc - 1))
          have HZ := Lib.hid hz
          clear hz HSN HV8 HS8 t8 f8 htb
          go_wp2_with ((with_reducible refine at_list ?_); refine wpList_load_chunk 8 _ Try.underlying41 rfl sizeP ⟨nb, 0, none⟩ rfl p.cells rfl (box_chunk (HZ.out.box 0 rfl)) ?_)
          refine (hand_two (Two.mk1 HPLP.out HZ.out.tail) HR.out.inv hk' p hpk).mono ?_
          rintro e w12 ⟨rfl, hT⟩
          have HT := Lib.hid hT
          clear hT HZ
          go_wp2
          go_roundg (pl - 1)
          case measure => omega
          case rel => exact ⟨_, _, P, HPLP.out, by omega, HT.out, HR.out.step hk' hpk⟩
    · obtain rfl : j = 70 := by omega
      have gj : decide (((70 : Nat) : Int) < 70) = false := by simp
      have hall := HA.out.all (by omega)
      have HALL := Lib.hid hall
      clear hall
      go_wp2_with fail
      go_meet
      exact ⟨E, G, P, HT.out, HALL.out⟩
end Go.Proofs.Ytoeokdachojhjaa
