/-
  The document's link: Hear behind its tests.
  Conditions: what is kept is ahead and not far.
-/
import Derived.Test.YtoeokdachojhjaaRefD
namespace Go.Proofs.Ytoeokdachojhjaa
open Go.RowKit
set_option linter.unusedSectionVars false
set_option linter.unusedSimpArgs false
set_option linter.unusedVariables false

def Lk.racked (L : Lk) (p : Pk) : Lk := { L with far := p.d, queue := if p.e = L.life then L.queue.dropWhile (fun t => !stays p.g t) else L.queue }

noncomputable def rhearTail : Code := ((Try.f30.body.bind (codeAt 11)).getD .skip)

set_option maxRecDepth 100000 in
set_option maxHeartbeats 4000000 in
theorem rhear_tail0 (x1 x2 x4 x5 x6 x7 x8 x9 x10 x11 x12 x13 x14 x15 x16 x17 x18 x19 x20 x21 x22 x23 x24 x25 x26 x27 x28 x29 x30 x31 x32 x33 x34 x35 x36 x37 x38 x39 x40 x41 x42 x43 x44 x45 x46 x47 x48 x49 x50 x51 x52 x53 x54 x55 x56 x57 x58 x59 x60 x61 x62 x63 x64 x65 x66 x67 x68 x69 x70 x71 x72 x73 x74 x75 x76 x77 x78 x79 x80 x81 x82 x83 x84 x85 x86 x87 x88 x89 x90 x91 x92 x93 x94 x95 x96 x97 x98 x99 x100 x101 x102 x103 x104 x105 x106 x107 x108 x109 x110 x111 x112 x113 x114 x115 x116 x117 x118 x119 x120 x121 x122 x123 x124 x125 x126 x127 x128 x129 x130 x131 x132 x133 x134 x135 x136 x137 x138 x139 x140 x141 x142 x143 x144 x145 x146 x147 x148 x149 x150 x151 x152 x153 x154 x155 x156 x157 x158 x159 x160 x161 x162 x163 x164 x165 x166 x167 x168 x169 x170 x171 x172 x173 x174 x175 x176 x177 x178 x179 x180 x181 x182 x183 x184 x185 x186 x187 x188 x189 x190 x191 x192 x193 x194 x195 x196 x197 x198 x199 x200 x201 x202 x203 x204 x205 x206 x207 x208 x209 x210 x211 x212 x213 x214 x215 x216 x217 x218 x219 x220 x221 x222 x223 x224 x225 x226 x227 x228 x229 x230 x231 x232 x233 x234 x235 x236 x237 x238 x239 x240 x241 x242 x243 x244 x245 x246 x247 x248 x249 : Value) {w0 w : World} {tb pb : Nat} {p : Pk} {L : Lk} {K : List Tx} {l : List Thing} (h : HearR w0 tb pb p L K l w) (hn : near L.got K) (hKl : K.length < 2000000000000) (hf0 : -9223372036854775808 ≤ p.f) (hf1 : p.f ≤ 9223372036854775807) (xs : List ByteArray) (b : Bool) (M : Lk) (N : List Tx)
    (hxs : xs = (L.racked p).rout K p) (hb : b = false) (hM : M = (L.racked p).rlink K p) (hN : N = (L.racked p).rkept K p) (h1 : (p.e == L.life) = false) :
    Code.wp Try.prog rhearTail (bodyPost Try.prog Try.f30 (StTexts w0 xs b (rk pb M N :: l))) ⟨#[.pointer (some ⟨pb, 0, none⟩), x1, x2, .pointer (some ⟨tb, 0, none⟩), x4, x5, x6, x7, x8, x9, x10, x11, x12, x13, x14, x15, x16, x17, x18, x19, x20, x21, x22, x23, x24, x25, x26, x27, x28, x29, x30, x31, x32, x33, x34, x35, x36, x37, x38, x39, x40, x41, x42, x43, x44, x45, x46, x47, x48, x49, x50, x51, x52, x53, x54, x55, x56, x57, x58, x59, x60, x61, x62, x63, x64, x65, x66, x67, x68, x69, x70, x71, x72, x73, x74, x75, x76, x77, x78, x79, x80, x81, x82, x83, x84, x85, x86, x87, x88, x89, x90, x91, x92, x93, x94, x95, x96, x97, x98, x99, x100, x101, x102, x103, x104, x105, x106, x107, x108, x109, x110, x111, x112, x113, x114, x115, x116, x117, x118, x119, x120, x121, x122, x123, x124, x125, x126, x127, x128, x129, x130, x131, x132, x133, x134, x135, x136, x137, x138, x139, x140, x141, x142, x143, x144, x145, x146, x147, x148, x149, x150, x151, x152, x153, x154, x155, x156, x157, x158, x159, x160, x161, x162, x163, x164, x165, x166, x167, x168, x169, x170, x171, x172, x173, x174, x175, x176, x177, x178, x179, x180, x181, x182, x183, x184, x185, x186, x187, x188, x189, x190, x191, x192, x193, x194, x195, x196, x197, x198, x199, x200, x201, x202, x203, x204, x205, x206, x207, x208, x209, x210, x211, x212, x213, x214, x215, x216, x217, x218, x219, x220, x221, x222, x223, x224, x225, x226, x227, x228, x229, x230, x231, x232, x233, x234, x235, x236, x237, x238, x239, x240, x241, x242, x243, x244, x245, x246, x247, x248, x249], []⟩ w := by
  have HE : Hid (L.racked p = { L with far := p.d }) := by show _ = _; rw [Lk.racked, if_neg (by simpa using h1)]
  rw [hb]
  clear hb
  have HX := Lib.hid hxs
  have HMM := Lib.hid hM
  have HNN := Lib.hid hN
  have HN := Lib.hid hn
  clear hxs hM hN hn
  obtain ⟨a, cap, b, cab, hS⟩ := h
  have hbp := hS.box 1 rfl
  have hpk := hS.box 0 rfl
  have p3 := blk_cell hpk 3 (.int .i64 p.d) rfl
  have c3 := blk_cell hbp 3 (.int .i64 L.far) rfl
  have f3 := blk_free hbp 3
  have hpb := heap_lt hbp
  have htb := heap_lt hpk
  have HS := Lib.hid hS
  clear hS hbp hpk
  conv => arg 2; whnf
  go_upto_region 12 with (fail)
  have HT : Hid (HearR w0 tb pb p { L with far := p.d } K l (w.setCell ⟨pb, 3, none⟩ (.int .i64 p.d))) := Lib.hid ⟨a, cap, b, cab, HS.out.set 1 rfl 3 (.int .i64 p.d)⟩
  clear HS c3 p3 f3 hpb htb
  change Code.wp _ _ _ _ (w.setCell ⟨pb, 3, none⟩ (.int .i64 p.d))
  generalize w.setCell ⟨pb, 3, none⟩ (.int .i64 p.d) = wd at HT ⊢
  obtain ⟨a, cap, b, cab, hS⟩ := HT.out
  have hbp := hS.box 1 rfl
  have hpk := hS.box 0 rfl
  have c2 := blk_cell hbp 2 (.int .i64 L.life) rfl
  have p4 := blk_cell hpk 4 (.int .i64 p.e) rfl
  have hpb := heap_lt hbp
  have htb := heap_lt hpk
  clear hS hbp hpk
  go_quiet (fail)
  go_upto_if 108 with (fail)
  have HTD := Lib.hid (HT.out.drewN nq)
  clear HT c2 p4 hpb htb
  generalize wd.drewN nq = we at HTD ⊢
  go_cut [] (fun wx => HearR w0 tb pb p (L.racked p) K l wx)
  case first =>
    go_wp2_with fail
    go_meet
    rw [HE.out]
    exact HTD.out
  case rest =>
    (try apply_assumption)
    exact rhear_mid _ _ _ _ _ _ _ _ _ _ _ _ _ _ _ _ _ _ _ _ _ _ _ _ _ _ _ _ _ _ _ _ _ _ _ _ _ _ _ _ _ _ _ _ _ _ _ _ _ _ _ _ _ _ _ _ _ _ _ _ _ _ _ _ _ _ _ _ _ _ _ _ _ _ _ _ _ _ _ _ _ _ _ _ _ _ _ _ _ _ _ _ _ _ _ _ _ _ _ _ _ _ _ _ _ _ _ _ _ _ _ _ _ _ _ _ _ _ _ _ _ _ _ _ _ _ _ _ _ _ _ _ _ _ _ _ _ _ _ _ _ _ _ _ _ _ _ _ _ _ _ _ _ _ _ _ _ _ _ _ _ _ _ _ _ _ _ _ _ _ _ _ _ _ _ _ _ _ _ _ _ _ _ _ _ _ _ _ _ _ _ _ _ _ _ _ _ _ _ _ _ _ _ _ _ _ _ _ _ _ _ _ _ _ _ _ _ _ _ _ _ _ _ _ _ _ _ _ _ _ _ _ _ _ _ _ _ _ _ _ _ _ _ _ _ _ _ _ hcut HN.out hKl hf0 hf1 _ _ _ HX.out HMM.out HNN.out

set_option maxRecDepth 100000 in
set_option maxHeartbeats 4000000 in
theorem rhear_tail1 (x1 x2 x4 x5 x6 x7 x8 x9 x10 x11 x12 x13 x14 x15 x16 x17 x18 x19 x20 x21 x22 x23 x24 x25 x26 x27 x28 x29 x30 x31 x32 x33 x34 x35 x36 x37 x38 x39 x40 x41 x42 x43 x44 x45 x46 x47 x48 x49 x50 x51 x52 x53 x54 x55 x56 x57 x58 x59 x60 x61 x62 x63 x64 x65 x66 x67 x68 x69 x70 x71 x72 x73 x74 x75 x76 x77 x78 x79 x80 x81 x82 x83 x84 x85 x86 x87 x88 x89 x90 x91 x92 x93 x94 x95 x96 x97 x98 x99 x100 x101 x102 x103 x104 x105 x106 x107 x108 x109 x110 x111 x112 x113 x114 x115 x116 x117 x118 x119 x120 x121 x122 x123 x124 x125 x126 x127 x128 x129 x130 x131 x132 x133 x134 x135 x136 x137 x138 x139 x140 x141 x142 x143 x144 x145 x146 x147 x148 x149 x150 x151 x152 x153 x154 x155 x156 x157 x158 x159 x160 x161 x162 x163 x164 x165 x166 x167 x168 x169 x170 x171 x172 x173 x174 x175 x176 x177 x178 x179 x180 x181 x182 x183 x184 x185 x186 x187 x188 x189 x190 x191 x192 x193 x194 x195 x196 x197 x198 x199 x200 x201 x202 x203 x204 x205 x206 x207 x208 x209 x210 x211 x212 x213 x214 x215 x216 x217 x218 x219 x220 x221 x222 x223 x224 x225 x226 x227 x228 x229 x230 x231 x232 x233 x234 x235 x236 x237 x238 x239 x240 x241 x242 x243 x244 x245 x246 x247 x248 x249 : Value) {w0 w : World} {tb pb : Nat} {p : Pk} {L : Lk} {K : List Tx} {l : List Thing} (h : HearR w0 tb pb p L K l w) (hn : near L.got K) (hKl : K.length < 2000000000000) (hf0 : -9223372036854775808 ≤ p.f) (hf1 : p.f ≤ 9223372036854775807) (xs : List ByteArray) (b : Bool) (M : Lk) (N : List Tx)
    (hxs : xs = (L.racked p).rout K p) (hb : b = false) (hM : M = (L.racked p).rlink K p) (hN : N = (L.racked p).rkept K p) (h1 : (p.e == L.life) = true) :
    Code.wp Try.prog rhearTail (bodyPost Try.prog Try.f30 (StTexts w0 xs b (rk pb M N :: l))) ⟨#[.pointer (some ⟨pb, 0, none⟩), x1, x2, .pointer (some ⟨tb, 0, none⟩), x4, x5, x6, x7, x8, x9, x10, x11, x12, x13, x14, x15, x16, x17, x18, x19, x20, x21, x22, x23, x24, x25, x26, x27, x28, x29, x30, x31, x32, x33, x34, x35, x36, x37, x38, x39, x40, x41, x42, x43, x44, x45, x46, x47, x48, x49, x50, x51, x52, x53, x54, x55, x56, x57, x58, x59, x60, x61, x62, x63, x64, x65, x66, x67, x68, x69, x70, x71, x72, x73, x74, x75, x76, x77, x78, x79, x80, x81, x82, x83, x84, x85, x86, x87, x88, x89, x90, x91, x92, x93, x94, x95, x96, x97, x98, x99, x100, x101, x102, x103, x104, x105, x106, x107, x108, x109, x110, x111, x112, x113, x114, x115, x116, x117, x118, x119, x120, x121, x122, x123, x124, x125, x126, x127, x128, x129, x130, x131, x132, x133, x134, x135, x136, x137, x138, x139, x140, x141, x142, x143, x144, x145, x146, x147, x148, x149, x150, x151, x152, x153, x154, x155, x156, x157, x158, x159, x160, x161, x162, x163, x164, x165, x166, x167, x168, x169, x170, x171, x172, x173, x174, x175, x176, x177, x178, x179, x180, x181, x182, x183, x184, x185, x186, x187, x188, x189, x190, x191, x192, x193, x194, x195, x196, x197, x198, x199, x200, x201, x202, x203, x204, x205, x206, x207, x208, x209, x210, x211, x212, x213, x214, x215, x216, x217, x218, x219, x220, x221, x222, x223, x224, x225, x226, x227, x228, x229, x230, x231, x232, x233, x234, x235, x236, x237, x238, x239, x240, x241, x242, x243, x244, x245, x246, x247, x248, x249], []⟩ w := by
  have HE : Hid (L.racked p = { L with far := p.d, queue := L.queue.dropWhile (fun t => !stays p.g t) }) := by show _ = _; rw [Lk.racked, if_pos (by simpa using h1)]
  rw [hb]
  clear hb
  have HX := Lib.hid hxs
  have HMM := Lib.hid hM
  have HNN := Lib.hid hN
  have HN := Lib.hid hn
  clear hxs hM hN hn
  obtain ⟨a, cap, b, cab, hS⟩ := h
  have hbp := hS.box 1 rfl
  have hpk := hS.box 0 rfl
  have p3 := blk_cell hpk 3 (.int .i64 p.d) rfl
  have c3 := blk_cell hbp 3 (.int .i64 L.far) rfl
  have f3 := blk_free hbp 3
  have hpb := heap_lt hbp
  have htb := heap_lt hpk
  have HS := Lib.hid hS
  clear hS hbp hpk
  conv => arg 2; whnf
  go_upto_region 12 with (fail)
  have HT : Hid (HearR w0 tb pb p { L with far := p.d } K l (w.setCell ⟨pb, 3, none⟩ (.int .i64 p.d))) := Lib.hid ⟨a, cap, b, cab, HS.out.set 1 rfl 3 (.int .i64 p.d)⟩
  clear HS c3 p3 f3 hpb htb
  change Code.wp _ _ _ _ (w.setCell ⟨pb, 3, none⟩ (.int .i64 p.d))
  generalize w.setCell ⟨pb, 3, none⟩ (.int .i64 p.d) = wd at HT ⊢
  obtain ⟨a, cap, b, cab, hS⟩ := HT.out
  have hbp := hS.box 1 rfl
  have hpk := hS.box 0 rfl
  have c2 := blk_cell hbp 2 (.int .i64 L.life) rfl
  have p4 := blk_cell hpk 4 (.int .i64 p.e) rfl
  have hpb := heap_lt hbp
  have htb := heap_lt hpk
  clear hS hbp hpk
  go_quiet (fail)
  go_upto_if 108 with (fail)
  have HTD := Lib.hid (HT.out.drewN nq)
  clear HT c2 p4 hpb htb
  generalize wd.drewN nq = we at HTD ⊢
  go_cut [] (fun wx => HearR w0 tb pb p (L.racked p) K l wx)
  case first =>
    go_wp2_with fail
    go_loopg [] L.queue.length (fun g wr => ∃ qs : List Tx, qs.length = g ∧ Hid (qs.dropWhile (fun t => !stays p.g t) = L.queue.dropWhile (fun t => !stays p.g t)) ∧ HearR w0 tb pb p { L with far := p.d, queue := qs } K l wr)
    case atStart => exact ⟨L.queue, rfl, Lib.hid rfl, HTD.out⟩
    case round =>
      clear HTD
      obtain ⟨qs, hql, HQ, a, cap, b, cab, hS⟩ := hrel
      have HS := Lib.hid hS
      have hbp := hS.box 1 rfl
      have hpk := hS.box 0 rfl
      have p6 := blk_cell hpk 6 (.int .i64 p.g) rfl
      have hpb := heap_lt hbp
      have htb := heap_lt hpk
      have f4 := blk_free hbp 4
      match qs, hql with
      | [], hql =>
        have c4 := blk_cell hbp 4 (.slice a 0 cap) rfl
        have HQL := Lib.hid hql
        clear hS hbp hpk hql
        go_wp2_with fail
        go_quiet (fail)
        go_wp2_with fail
        go_meet
        rw [HE.out, ← HQ.out]
        exact ⟨a, cap, b, cab, HS.out.drewN _⟩
      | t :: r, hql =>
        have c4 := blk_cell hbp 4 (.slice a (r.length + 1) cap) rfl
        obtain ⟨bb, o, rfl, e0, e1⟩ := (hS.slice 2 rfl).rd.at2 (k := 0) (p := t) rfl
        have hsl := hS.slice 2 rfl
        have hbl := hsl.lt bb rfl
        rw [Nat.zero_mul, Nat.add_zero] at e0 e1
        have hcap : r.length + 1 ≤ cap := hsl.2.1
        have HSL := Lib.hid hsl
        have HQL := Lib.hid hql
        clear hS hbp hpk hql hsl
        by_cases hs : t.n ≤ p.g
        · have g : decide (t.n ≤ p.g) = true := by simpa using hs
          have HP : Hid ((!stays p.g t) = true) := by show _ = _; unfold stays; simp; omega
          clear hs
          go_wp2_with fail
          go_quiet (fail)
          have hSd := HS.out.drewN nq
          have hbd := hSd.box 1 rfl
          have c4 := blk_cell hbd 4 (.slice (some ⟨bb, o, none⟩) (r.length + 1) cap) rfl
          have f4 := blk_free hbd 4
          have hpb := heap_lt hbd
          have HSL2 := Lib.hid (hSd.slice 2 rfl)
          have HSD := Lib.hid hSd
          clear hSd hbd HS HSL p6 e0 e1 hbl htb
          generalize wr.drewN nq = wf at *
          go_wp2_with ((with_reducible refine at_list ?_); refine wpList_cut 80 2 (by kernel_rfl) cellsX isX (some ⟨bb, o, none⟩) (r.length + 1) cap _ rfl HSL2.out _ _ _ rfl rfl rfl 1 (r.length + 1) cap (bounds_l _ _ _ _ (by omega) (by omega)) (by omega) (Nat.le_refl _) hcap (Nat.le_refl _) ?_; intro p' hp' hown')
          have HQ1 := HQL.out
          simp only [List.length_cons] at HQ1
          have hp2 : Sl wf 80 2 p' r.length (cap - 1) (ftx r) := by
            have e : (((t :: r).flatMap Tx.cells).drop (1 * 2)).take ((r.length + 1 - 1) * 2) = ftx r := by
              rw [flatk_drop Tx.cells txlen, List.drop_succ_cons, List.drop_zero, Nat.add_sub_cancel, List.take_of_length_le (by rw [flatk_length Tx.cells txlen]; exact Nat.le_refl _)]; rfl
            have h := hp'
            rw [show ftx (t :: r) = (t :: r).flatMap Tx.cells from rfl, e, Nat.add_sub_cancel] at h
            exact h
          have hS2 := (HSD.out.regrow 2 rfl hp2 (Mod.refl _ _) (fun x hx => .inl (by rw [← hown']; exact hx))).set 1 rfl 4 (.slice p' r.length (cap - 1))
          go_roundg (gk - 1)
          case measure => omega
          case rel =>
            have hq := HQ.out
            rw [List.dropWhile_cons_of_pos (by exact HP.out)] at hq
            refine ⟨r, by omega, Lib.hid hq, p', cap - 1, b, cab, ?_⟩
            exact hS2
        · have g : decide (t.n ≤ p.g) = false := by simpa using hs
          have HP : Hid ((!stays p.g t) = false) := by show _ = _; unfold stays; simp; omega
          clear hs
          go_wp2_with fail
          go_quiet (fail)
          go_wp2_with fail
          go_meet
          have hq := HQ.out
          rw [List.dropWhile_cons_of_neg (by rw [HP.out]; simp)] at hq
          rw [HE.out, ← hq]
          exact ⟨_, cap, b, cab, HS.out.drewN _⟩
  case rest =>
    (try apply_assumption)
    exact rhear_mid _ _ _ _ _ _ _ _ _ _ _ _ _ _ _ _ _ _ _ _ _ _ _ _ _ _ _ _ _ _ _ _ _ _ _ _ _ _ _ _ _ _ _ _ _ _ _ _ _ _ _ _ _ _ _ _ _ _ _ _ _ _ _ _ _ _ _ _ _ _ _ _ _ _ _ _ _ _ _ _ _ _ _ _ _ _ _ _ _ _ _ _ _ _ _ _ _ _ _ _ _ _ _ _ _ _ _ _ _ _ _ _ _ _ _ _ _ _ _ _ _ _ _ _ _ _ _ _ _ _ _ _ _ _ _ _ _ _ _ _ _ _ _ _ _ _ _ _ _ _ _ _ _ _ _ _ _ _ _ _ _ _ _ _ _ _ _ _ _ _ _ _ _ _ _ _ _ _ _ _ _ _ _ _ _ _ _ _ _ _ _ _ _ _ _ _ _ _ _ _ _ _ _ _ _ _ _ _ _ _ _ _ _ _ _ _ _ _ _ _ _ _ _ _ _ _ _ _ _ _ _ _ _ _ _ _ _ _ _ _ _ _ _ _ _ _ _ _ hcut HN.out hKl hf0 hf1 _ _ _ HX.out HMM.out HNN.out

end Go.Proofs.Ytoeokdachojhjaa
