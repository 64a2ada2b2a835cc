/-
  The program's link: Hear from what it owes to its loop.
  Conditions: what is kept is ahead and not far ('ok').
-/
import Derived.Test.YtoeokdachojhjaaLinkG
namespace Go.Proofs.Ytoeokdachojhjaa
open Go.RowKit
set_option linter.unusedSectionVars false
set_option linter.unusedSimpArgs false
set_option linter.unusedVariables false

noncomputable def hearMid : Code := ((Try.f17.body.bind (codeAt 14)).getD .skip)

set_option maxRecDepth 100000 in
set_option maxHeartbeats 4000000 in
theorem hear_mid (x1 x2 x4 x5 x6 x7 x8 x9 x10 x11 x12 x13 x14 x15 x16 x17 x18 x19 x20 x21 x22 x23 x24 x25 x26 x27 x28 x29 x30 x31 x32 x33 x34 x35 x36 x37 x38 x39 x40 x41 x42 x43 x44 x45 x46 x47 x48 x49 x50 x51 x52 x53 x54 x55 x56 x57 x58 x59 x60 x61 x62 x63 x64 x65 x66 x67 x68 x69 x70 x71 x72 x73 x74 x75 x76 x77 x78 x79 x80 x81 x82 x83 x84 x85 x86 x87 x88 x89 x90 x91 x92 x93 x94 x95 x96 x97 x98 x99 x100 x101 x102 x103 x104 x105 x106 x107 x108 x109 x110 x111 x112 x113 x114 x115 x116 x117 x118 x119 x120 x121 x122 x123 x124 x125 x126 x127 x128 x129 x130 x131 x132 x133 x134 x135 x136 x137 x138 x139 x140 x141 x142 x143 x144 x145 x146 x147 x148 x149 x150 x151 x152 x153 x154 x155 x156 x157 x158 x159 x160 x161 x162 x163 x164 x165 x166 x167 x168 x169 x170 x171 x172 x173 x174 x175 x176 x177 x178 x179 x180 x181 x182 x183 x184 x185 x186 x187 x188 x189 x190 x191 x192 x193 x194 x195 x196 x197 x198 x199 x200 x201 x202 x203 x204 x205 x206 x207 x208 x209 x210 x211 x212 x213 x214 x215 x216 x217 x218 x219 x220 x221 x222 : Value) {w0 w : World} {tb pb : Nat} {p : Pk} {L : Lk} {l : List Thing} (h : HearSt w0 tb pb p L l w) (hok : L.ok) (hcnt : L.cnt < maxLen) (hf0 : -9223372036854775808 ≤ p.f) (hf1 : p.f ≤ 9223372036854775807) (M : Lk) (hM : M = (L.owing p).keep p) :
    Code.wp Try.prog hearMid (bodyPost Try.prog Try.f17 (StTexts w0 M.came false (lk pb M.taken :: l))) ⟨#[.pointer (some ⟨pb, 0, none⟩), x1, x2, .pointer (some ⟨tb, 0, none⟩), x4, x5, x6, x7, x8, x9, x10, x11, x12, x13, x14, x15, x16, x17, x18, x19, x20, x21, x22, x23, x24, x25, x26, x27, x28, x29, x30, x31, x32, x33, x34, x35, x36, x37, x38, x39, x40, x41, x42, x43, x44, x45, x46, x47, x48, x49, x50, x51, x52, x53, x54, x55, x56, x57, x58, x59, x60, x61, x62, x63, x64, x65, x66, x67, x68, x69, x70, x71, x72, x73, x74, x75, x76, x77, x78, x79, x80, x81, x82, x83, x84, x85, x86, x87, x88, x89, x90, x91, x92, x93, x94, x95, x96, x97, x98, x99, x100, x101, x102, x103, x104, x105, x106, x107, x108, x109, x110, x111, x112, x113, x114, x115, x116, x117, x118, x119, x120, x121, x122, x123, x124, x125, x126, x127, x128, x129, x130, x131, x132, x133, x134, x135, x136, x137, x138, x139, x140, x141, x142, x143, x144, x145, x146, x147, x148, x149, x150, x151, x152, x153, x154, x155, x156, x157, x158, x159, x160, x161, x162, x163, x164, x165, x166, x167, x168, x169, x170, x171, x172, x173, x174, x175, x176, x177, x178, x179, x180, x181, x182, x183, x184, x185, x186, x187, x188, x189, x190, x191, x192, x193, x194, x195, x196, x197, x198, x199, x200, x201, x202, x203, x204, x205, x206, x207, x208, x209, x210, x211, x212, x213, x214, x215, x216, x217, x218, x219, x220, x221, x222], []⟩ w := by
  have HM := Lib.hid hM
  have hokA := hok
  have hcntA := hcnt
  have HT := Lib.hid h
  clear hM h hok hcnt
  conv => arg 2; whnf
  dsimp only
  go_upto_region 14 with (fail)
  go_cut [] (fun wx => HearSt w0 tb pb p (L.owing p) l wx)
  case first =>
    obtain ⟨a, cap, mb, hS⟩ := HT.out
    have hbp := hS.box 1 rfl
    have hpk := hS.box 0 rfl
    have c9 := blk_cell hbp 9 (.bool L.owes) rfl
    have p5 := blk_cell hpk 5 (.int .i64 p.f) rfl
    have hpb := heap_lt hbp
    have htb := heap_lt hpk
    have f9 := blk_free hbp 9
    have HS := Lib.hid hS
    clear hS hbp hpk
    by_cases h1 : L.owes = true
    · have HE : Hid (L.owing p = { L with owes := true }) := by show _ = _; simp [Lk.owing, h1]
      rw [h1] at c9
      clear h1
      go_wp2_with fail
      go_meet
      rw [HE.out]
      exact ⟨a, cap, mb, HS.out.set 1 rfl 9 (.bool true)⟩
    · have h1 : L.owes = false := by simpa using h1
      have HE : Hid (L.owing p = { L with owes := decide (0 < p.f) }) := by show _ = _; simp [Lk.owing, h1]
      rw [h1] at c9
      clear h1
      go_wp2_with fail
      go_meet
      rw [HE.out]
      exact ⟨a, cap, mb, HS.out.set 1 rfl 9 (.bool (decide (0 < p.f)))⟩
  case rest =>
    clear HT
    have hok3 : (L.owing p).ok := hokA
    have hcnt3 : (L.owing p).cnt < maxLen := hcntA
    clear hokA hcntA
    obtain ⟨L3, hL3⟩ : ∃ L3 : Lk, L.owing p = L3 := ⟨_, rfl⟩
    rw [hL3] at hcut hok3 hcnt3 HM
    have HT := Lib.hid hcut
    clear hL3 hcut
    have hg0 := hok3.1
    have hg1 := hok3.2.1
    go_upto_region 15 with (fail)
    go_cut [150] (fun c wx => c = .bool (L3.wants p) ∧ HearSt w0 tb pb p L3 l wx)
    case first =>
      obtain ⟨a, cap, mb, hS⟩ := HT.out
      have hbp := hS.box 1 rfl
      have hpk := hS.box 0 rfl
      have c2 := blk_cell hbp 2 (.int .i64 L3.got) rfl
      have p5 := blk_cell hpk 5 (.int .i64 p.f) rfl
      have hpb := heap_lt hbp
      have htb := heap_lt hpk
      clear hS hbp hpk
      by_cases h1 : L3.got < p.f
      · have HE : Hid (L3.wants p = decide (p.f - L3.got ≤ 64)) := by show _ = _; simp [Lk.wants, h1]
        have g1 : decide (L3.got < p.f) = true := by simpa using h1
        have hwr : IntKind.i64.wrap (p.f - L3.got) = p.f - L3.got := IntWalk.i64_in _ (by omega)
        clear h1
        go_quiet (fail)
        go_wp2
        go_meet
        exact ⟨by rw [HE.out], HT.out.drewN _⟩
      · have HE : Hid (L3.wants p = false) := by show _ = _; simp [Lk.wants, h1]
        have g1 : decide (L3.got < p.f) = false := by simpa using h1
        clear h1
        go_quiet (fail)
        go_wp2
        go_meet
        exact ⟨by rw [HE.out], HT.out.drewN _⟩
    case rest =>
      clear HT
      obtain ⟨hc, hS⟩ := hcut
      subst hc
      have HT := Lib.hid hS
      clear hS
      go_upto_if 150 with (fail)
      go_cut [] (fun wx => HearSt w0 tb pb p (L3.keep p) l wx)
      case first =>
        obtain ⟨a, cap, mb, hS⟩ := HT.out
        have hbp := hS.box 1 rfl
        have hpk := hS.box 0 rfl
        have c8 := blk_cell hbp 8 (.map (some mb)) rfl
        have p5 := blk_cell hpk 5 (.int .i64 p.f) rfl
        have p7 := blk_cell hpk 7 (.string p.s) rfl
        have hpb := heap_lt hbp
        have htb := heap_lt hpk
        have hmp := hS.mapAt 3 rfl
        have HMP := Lib.hid hmp
        have HS := Lib.hid hS
        by_cases hw : L3.wants p = true
        · have HW := Lib.hid hw
          rw [hw]
          obtain ⟨k1, hk1⟩ : ∃ k1, L3.kept p.f = k1 := ⟨_, rfl⟩
          have hlk : ∀ n, (Instr.lookup 64 (.map (some mb)) (.int .i64 p.f) true).run Try.prog (wc.drewN n) = .ok (.tuple #[lookS k1, .bool k1.isSome]) (wc.drewN n) := fun n => by
            have h := ((hS.drewN n).mapAt 3 rfl).look keyI mapT true (zeroS _) hf0 hf1
            rw [look_val, look_is, hk1] at h
            simpa using h
          cases k1 with
          | some s =>
            have HE : Hid (L3.keep p = L3) := by show _ = _; rw [Lk.keep, hk1, if_neg (by simp)]
            simp only [Option.isSome_some] at hlk
            clear hS hbp hpk hmp hk1
            go_wp2_with fail
            go_quiet (fail)
            go_wp2
            go_meet
            rw [HE.out]
            exact ⟨a, cap, mb, HS.out.drewN _⟩
          | none =>
            have HE : Hid (L3.keep p = { L3 with kept := set1 L3.kept p.f (some p.s), cnt := L3.cnt + 1 }) := by show _ = _; rw [Lk.keep, hk1, HW.out, if_pos (by simp)]
            simp only [Option.isSome_none] at hlk
            clear hS hbp hpk hmp hk1
            go_wp2_with fail
            go_quiet (fail)
            go_upto_region 18 with (fail)
            have HSD := Lib.hid (HS.out.drewN nq)
            clear hlk HMP HS
            generalize wc.drewN nq = we at HSD ⊢
            have hb2 := HSD.out.box 1 rfl
            have hp2 := HSD.out.box 0 rfl
            have c8 := blk_cell hb2 8 (.map (some mb)) rfl
            have p5 := blk_cell hp2 5 (.int .i64 p.f) rfl
            have p7 := blk_cell hp2 7 (.string p.s) rfl
            have hpb := heap_lt hb2
            have htb := heap_lt hp2
            obtain ⟨w', hup, hmp, hmod⟩ := (HSD.out.drew.mapAt 3 rfl).store keyI mapT hcnt3 hf0 hf1 (.string p.s)
            have hSd := Lib.hid (HSD.out.drew.remap 3 rfl hmp hmod)
            clear hb2 hp2 hmp hmod
            go_region
            all_goals
              (try go_wp2_with fail)
              go_meet
              rw [HE.out]
              have h := hSd.out
              rw [show upd (fmap L3.kept) p.f (some (.string p.s)) = fmap (set1 L3.kept p.f (some p.s)) from fmap_set L3.kept p.f (some p.s)] at h
              exact ⟨a, cap, mb, h⟩
        · have hw : L3.wants p = false := by simpa using hw
          have HE : Hid (L3.keep p = L3) := by show _ = _; rw [Lk.keep, hw, if_neg (by simp)]
          clear hS hbp hpk hmp
          go_wp2_with fail
          go_meet
          rw [HE.out]
          exact ⟨a, cap, mb, HS.out⟩
      case rest =>
        have hokK : (L3.keep p).ok := Lk.ok_keep hok3 p hf1
        apply_assumption
        exact hear_loop _ _ _ _ _ _ _ _ _ _ _ _ _ _ _ _ _ _ _ _ _ _ _ _ _ _ _ _ _ _ _ _ _ _ _ _ _ _ _ _ _ _ _ _ _ _ _ _ _ _ _ _ _ _ _ _ _ _ _ _ _ _ _ _ _ _ _ _ _ _ _ _ _ _ _ _ _ _ _ _ _ _ _ _ _ _ _ _ _ _ _ _ _ _ _ _ _ _ _ _ _ _ _ _ _ _ _ _ _ _ _ _ _ _ _ _ _ _ _ _ _ _ _ _ _ _ _ _ _ _ _ _ _ _ _ _ _ _ _ _ _ _ _ _ _ _ _ _ _ _ _ _ _ _ _ _ _ _ _ _ _ _ _ _ _ _ _ _ _ _ _ _ _ _ _ _ _ _ _ _ _ _ _ _ _ _ _ _ _ _ _ _ _ _ _ _ _ _ _ _ _ _ _ _ _ _ _ _ _ _ _ _ _ _ _ _ _ _ _ _ _ hcut hokK _ HM.out
end Go.Proofs.Ytoeokdachojhjaa
