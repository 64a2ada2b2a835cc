/-
  The program's link: Hear behind its tests.
  Conditions: what is kept is ahead and not far ('ok').
-/
import Derived.Test.YtoeokdachojhjaaLinkH
namespace Go.Proofs.Ytoeokdachojhjaa
open Go.RowKit
set_option linter.unusedSectionVars false
set_option linter.unusedSimpArgs false
set_option linter.unusedVariables false

noncomputable def hearTail : Code := ((Try.f17.body.bind (codeAt 11)).getD .skip)

set_option maxRecDepth 100000 in
set_option maxHeartbeats 4000000 in
theorem hear_tail (x1 x2 x4 x5 x6 x7 x8 x9 x10 x11 x12 x13 x14 x15 x16 x17 x18 x19 x20 x21 x22 x23 x24 x25 x26 x27 x28 x29 x30 x31 x32 x33 x34 x35 x36 x37 x38 x39 x40 x41 x42 x43 x44 x45 x46 x47 x48 x49 x50 x51 x52 x53 x54 x55 x56 x57 x58 x59 x60 x61 x62 x63 x64 x65 x66 x67 x68 x69 x70 x71 x72 x73 x74 x75 x76 x77 x78 x79 x80 x81 x82 x83 x84 x85 x86 x87 x88 x89 x90 x91 x92 x93 x94 x95 x96 x97 x98 x99 x100 x101 x102 x103 x104 x105 x106 x107 x108 x109 x110 x111 x112 x113 x114 x115 x116 x117 x118 x119 x120 x121 x122 x123 x124 x125 x126 x127 x128 x129 x130 x131 x132 x133 x134 x135 x136 x137 x138 x139 x140 x141 x142 x143 x144 x145 x146 x147 x148 x149 x150 x151 x152 x153 x154 x155 x156 x157 x158 x159 x160 x161 x162 x163 x164 x165 x166 x167 x168 x169 x170 x171 x172 x173 x174 x175 x176 x177 x178 x179 x180 x181 x182 x183 x184 x185 x186 x187 x188 x189 x190 x191 x192 x193 x194 x195 x196 x197 x198 x199 x200 x201 x202 x203 x204 x205 x206 x207 x208 x209 x210 x211 x212 x213 x214 x215 x216 x217 x218 x219 x220 x221 x222 : Value) {w0 w : World} {tb pb : Nat} {p : Pk} {L : Lk} {l : List Thing} (h : HearSt w0 tb pb p L l w) (hok : L.ok) (hcnt : L.cnt < maxLen) (hf0 : -9223372036854775808 ≤ p.f) (hf1 : p.f ≤ 9223372036854775807) (xs : List ByteArray) (b : Bool) (M : Lk) (hxs : xs = (L.main p).came) (hb : b = false) (hM : M = (L.main p).taken) :
    Code.wp Try.prog hearTail (bodyPost Try.prog Try.f17 (StTexts w0 xs b (lk pb M :: l))) ⟨#[.pointer (some ⟨pb, 0, none⟩), x1, x2, .pointer (some ⟨tb, 0, none⟩), x4, x5, x6, x7, x8, x9, x10, x11, x12, x13, x14, x15, x16, x17, x18, x19, x20, x21, x22, x23, x24, x25, x26, x27, x28, x29, x30, x31, x32, x33, x34, x35, x36, x37, x38, x39, x40, x41, x42, x43, x44, x45, x46, x47, x48, x49, x50, x51, x52, x53, x54, x55, x56, x57, x58, x59, x60, x61, x62, x63, x64, x65, x66, x67, x68, x69, x70, x71, x72, x73, x74, x75, x76, x77, x78, x79, x80, x81, x82, x83, x84, x85, x86, x87, x88, x89, x90, x91, x92, x93, x94, x95, x96, x97, x98, x99, x100, x101, x102, x103, x104, x105, x106, x107, x108, x109, x110, x111, x112, x113, x114, x115, x116, x117, x118, x119, x120, x121, x122, x123, x124, x125, x126, x127, x128, x129, x130, x131, x132, x133, x134, x135, x136, x137, x138, x139, x140, x141, x142, x143, x144, x145, x146, x147, x148, x149, x150, x151, x152, x153, x154, x155, x156, x157, x158, x159, x160, x161, x162, x163, x164, x165, x166, x167, x168, x169, x170, x171, x172, x173, x174, x175, x176, x177, x178, x179, x180, x181, x182, x183, x184, x185, x186, x187, x188, x189, x190, x191, x192, x193, x194, x195, x196, x197, x198, x199, x200, x201, x202, x203, x204, x205, x206, x207, x208, x209, x210, x211, x212, x213, x214, x215, x216, x217, x218, x219, x220, x221, x222], []⟩ w := by
  rw [hxs, hb, hM]
  clear hxs hb hM
  obtain ⟨a, cap, mb, hS⟩ := h
  have hbp := hS.box 1 rfl
  have hpk := hS.box 0 rfl
  have c6 := blk_cell hbp 6 (.int .i64 L.far) rfl
  have p3 := blk_cell hpk 3 (.int .i64 p.d) rfl
  have hpb := heap_lt hbp
  have htb := heap_lt hpk
  have f6 := blk_free hbp 6
  have HS := Lib.hid hS
  clear hS hbp hpk
  conv => arg 2; whnf
  go_upto_region 12 with (fail)
  have HT : Hid (HearSt w0 tb pb p { L with far := p.d } l (w.setCell ⟨pb, 6, none⟩ (.int .i64 p.d))) := Lib.hid ⟨a, cap, mb, HS.out.set 1 rfl 6 (.int .i64 p.d)⟩
  clear HS c6 p3 f6 hpb htb
  change Code.wp _ _ _ _ (w.setCell ⟨pb, 6, none⟩ (.int .i64 p.d))
  generalize w.setCell ⟨pb, 6, none⟩ (.int .i64 p.d) = wd at HT ⊢
  have hok1 : ({ L with far := p.d } : Lk).ok := hok
  obtain ⟨L1, hL1⟩ : ∃ L1 : Lk, L1 = { L with far := p.d } := ⟨_, rfl⟩
  have HL1 := Lib.hid hL1
  rw [← hL1] at HT
  clear hL1 hok1
  go_cut [110] (fun c wx => c = .bool (p.e == L1.life) ∧ HearSt w0 tb pb p L1 l wx)
  case first =>
    obtain ⟨a, cap, mb, hS⟩ := HT.out
    have hbp := hS.box 1 rfl
    have hpk := hS.box 0 rfl
    have c5 := blk_cell hbp 5 (.int .i64 L1.life) rfl
    have p4 := blk_cell hpk 4 (.int .i64 p.e) rfl
    have hpb := heap_lt hbp
    have htb := heap_lt hpk
    clear hS hbp hpk
    go_quiet (fail)
    go_wp2
    go_meet
    exact ⟨rfl, HT.out.drewN _⟩
  case rest =>
    clear HT
    obtain ⟨hc, hS⟩ := hcut
    subst hc
    have HT := Lib.hid hS
    clear hS
    go_upto_if 110 with (fail)
    go_cut [] (fun wx => HearSt w0 tb pb p (L.acked p) l wx)
    case first =>
      obtain ⟨a, cap, mb, hS⟩ := HT.out
      have hbp := hS.box 1 rfl
      have hpk := hS.box 0 rfl
      have c7 := blk_cell hbp 7 (.slice a L1.queue.length cap) rfl
      have p6 := blk_cell hpk 6 (.int .i64 p.g) rfl
      have hpb := heap_lt hbp
      have htb := heap_lt hpk
      have f7 := blk_free hbp 7
      have hab := hS.apart2
      have HV := Lib.hid (hS.slice 2 rfl)
      have HS := Lib.hid hS
      have hlq := (hS.slice 2 rfl).2.1
      have hlc := (hS.slice 2 rfl).2.2.1
      have HP6 := Lib.hid p6
      clear hS hbp hpk
      by_cases he : p.e = L1.life
      · have g : (p.e == L1.life) = true := by simpa using he
        have HE : Hid (L.acked p = { L1 with queue := L1.queue.filter (stays p.g) }) := by
          show _ = _
          rw [HL1.out] at he
          rw [HL1.out, Lk.acked, if_pos he]
        clear he p6
        go_wp2_with fail
        refine (DeleteFunc_any tb p.g a cap _ L1.queue rfl _ HV.out HP6.out (by unfold maxLen at hlc; omega) hab).mono ?_
        rintro e w7 ⟨a', cap', rfl, hs7, hm7, ho7⟩
        have hS7 := HS.out.regrow 2 rfl hs7 hm7 (fun b hb => .inl (by rw [← ho7]; exact hb))
        have hb7 := hS7.box 1 rfl
        have c7' := blk_cell hb7 7 (.slice a L1.queue.length cap) rfl
        have f7' := blk_free hb7 7
        have hp7' := heap_lt hb7
        have HS7 := Lib.hid hS7
        clear hS7 hb7 hs7 hm7 ho7
        go_wp2_with fail
        go_meet
        rw [HE.out]
        exact ⟨a', cap', mb, HS7.out.set 1 rfl 7 (.slice a' (L1.queue.filter (stays p.g)).length cap')⟩
      · have g : (p.e == L1.life) = false := by simpa using he
        have HE : Hid (L.acked p = L1) := by
          show _ = _
          rw [HL1.out] at he
          rw [HL1.out, Lk.acked, if_neg he]
        clear he
        go_wp2_with fail
        go_meet
        rw [HE.out]
        exact ⟨a, cap, mb, HS.out⟩
    case rest =>
      clear HT HL1
      have hok : (L.acked p).ok := hok
      have hcnt : (L.acked p).cnt < maxLen := hcnt
      apply_assumption
      exact hear_mid _ _ _ _ _ _ _ _ _ _ _ _ _ _ _ _ _ _ _ _ _ _ _ _ _ _ _ _ _ _ _ _ _ _ _ _ _ _ _ _ _ _ _ _ _ _ _ _ _ _ _ _ _ _ _ _ _ _ _ _ _ _ _ _ _ _ _ _ _ _ _ _ _ _ _ _ _ _ _ _ _ _ _ _ _ _ _ _ _ _ _ _ _ _ _ _ _ _ _ _ _ _ _ _ _ _ _ _ _ _ _ _ _ _ _ _ _ _ _ _ _ _ _ _ _ _ _ _ _ _ _ _ _ _ _ _ _ _ _ _ _ _ _ _ _ _ _ _ _ _ _ _ _ _ _ _ _ _ _ _ _ _ _ _ _ _ _ _ _ _ _ _ _ _ _ _ _ _ _ _ _ _ _ _ _ _ _ _ _ _ _ _ _ _ _ _ _ _ _ _ _ _ _ _ _ _ _ _ _ _ _ _ _ _ _ _ _ _ _ _ _ hcut hok hcnt hf0 hf1 _ rfl
end Go.Proofs.Ytoeokdachojhjaa
