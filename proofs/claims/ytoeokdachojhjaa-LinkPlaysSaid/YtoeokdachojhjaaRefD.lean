/-
  The document's link: Hear, what it keeps.
  Conditions: what is kept is ahead and not far.
-/
import Derived.Test.YtoeokdachojhjaaRefC
namespace Go.Proofs.Ytoeokdachojhjaa
open Go.RowKit
set_option linter.unusedSectionVars false
set_option linter.unusedSimpArgs false
set_option linter.unusedVariables false

def Lk.rkeep (L : Lk) (K : List Tx) (p : Pk) : List Tx := if L.wants p && (rlook K p.f).isNone then K ++ [⟨p.f, p.s⟩] else K
def Lk.rout (L : Lk) (K : List Tx) (p : Pk) : List ByteArray := if p.f < 1 then [] else (rdrain 64 (L.rkeep K p) L.got).2
def Lk.rlink (L : Lk) (K : List Tx) (p : Pk) : Lk := if p.f < 1 then L else { L with owes := true, got := (rdrain 64 (L.rkeep K p) L.got).1 }
def Lk.rkept (L : Lk) (K : List Tx) (p : Pk) : List Tx := if p.f < 1 then K else (L.rkeep K p).filter (aheadOf (rdrain 64 (L.rkeep K p) L.got).1)

theorem rlook_snoc : ∀ (K : List Tx) (t : Tx) (k : Int), rlook (K ++ [t]) k = match rlook K k with | some s => some s | none => if t.n = k then some t.s else none
  | [], t, k => by simp only [List.nil_append, rlook]
  | x :: K, t, k => by
    rw [List.cons_append, rlook, rlook]
    by_cases h : x.n = k
    · rw [if_pos h, if_pos h]
    · rw [if_neg h, if_neg h]; exact rlook_snoc K t k

theorem near_keep {L : Lk} {K : List Tx} (h : near L.got K) (p : Pk) (hf : p.f ≤ 9223372036854775807) : near L.got (L.rkeep K p) := by
  unfold Lk.rkeep
  split
  · rename_i hc
    obtain ⟨h0, h1, h2⟩ := h
    refine ⟨h0, h1, fun k s hk => ?_⟩
    simp only [Lk.wants, Bool.and_eq_true, decide_eq_true_eq] at hc
    rw [rlook_snoc] at hk
    cases hr : rlook K k with
    | some s' => exact h2 k s' hr
    | none =>
      rw [hr] at hk
      simp only at hk
      by_cases hp : p.f = k
      · subst hp; exact ⟨hc.1.1, by omega, hf⟩
      · rw [if_neg hp] at hk; cases hk
  · exact h
theorem len_keep (L : Lk) (K : List Tx) (p : Pk) : (L.rkeep K p).length ≤ K.length + 1 := by
  unfold Lk.rkeep; split
  · rw [List.length_append]; exact Nat.le_refl _
  · omega

noncomputable def rhearKeep : Code := ((Try.f30.body.bind (codeAt 18)).getD .skip)

set_option maxRecDepth 100000 in
set_option maxHeartbeats 4000000 in
theorem rhear_k0 (x1 x2 x4 x5 x6 x7 x8 x9 x10 x11 x12 x13 x14 x15 x16 x17 x18 x19 x20 x21 x22 x23 x24 x25 x26 x27 x28 x29 x30 x31 x32 x33 x34 x35 x36 x37 x38 x39 x40 x41 x42 x43 x44 x45 x46 x47 x48 x49 x50 x51 x52 x53 x54 x55 x56 x57 x58 x59 x60 x61 x62 x63 x64 x65 x66 x67 x68 x69 x70 x71 x72 x73 x74 x75 x76 x77 x78 x79 x80 x81 x82 x83 x84 x85 x86 x87 x88 x89 x90 x91 x92 x93 x94 x95 x96 x97 x98 x99 x100 x101 x102 x103 x104 x105 x106 x107 x108 x109 x110 x111 x112 x113 x114 x115 x116 x117 x118 x119 x120 x121 x122 x123 x124 x125 x126 x127 x128 x129 x130 x131 x132 x133 x134 x135 x136 x137 x138 x139 x140 x141 x142 x143 x144 x145 x146 x147 x148 x149 x150 x151 x152 x153 x154 x155 x156 x157 x158 x159 x160 x161 x162 x163 x164 x165 x166 x167 x168 x169 x170 x171 x172 x173 x174 x175 x176 x177 x178 x179 x180 x181 x182 x183 x184 x185 x186 x187 x188 x189 x190 x191 x192 x193 x194 x195 x196 x197 x198 x199 x200 x201 x202 x203 x204 x205 x206 x207 x208 x209 x210 x211 x212 x213 x214 x215 x216 x217 x218 x219 x220 x221 x222 x223 x224 x225 x226 x227 x228 x229 x230 x231 x232 x233 x234 x235 x236 x237 x238 x239 x240 x241 x242 x243 x244 x245 x246 x247 x248 x249 : Value) {w0 w : World} {tb pb : Nat} {p : Pk} {L1 : Lk} {K : List Tx} {l : List Thing} (h : HearR w0 tb pb p L1 K l w) (hn : near L1.got K) (hKl : K.length < 2000000000000) (hf0 : -9223372036854775808 ≤ p.f) (hf1 : p.f ≤ 9223372036854775807) (xs : List ByteArray) (M : Lk) (N : List Tx)
    (hxs : xs = (rdrain 64 (L1.rkeep K p) L1.got).2) (hM : M = { L1 with got := (rdrain 64 (L1.rkeep K p) L1.got).1 }) (hN : N = (L1.rkeep K p).filter (aheadOf (rdrain 64 (L1.rkeep K p) L1.got).1)) (h1 : decide (L1.got < p.f) = false) :
    Code.wp Try.prog rhearKeep (bodyPost Try.prog Try.f30 (StTexts w0 xs false (rk pb M N :: l))) ⟨#[.pointer (some ⟨pb, 0, none⟩), x1, x2, .pointer (some ⟨tb, 0, none⟩), x4, x5, x6, x7, x8, x9, x10, x11, x12, x13, x14, x15, x16, x17, x18, x19, x20, x21, x22, x23, x24, x25, x26, x27, x28, x29, x30, x31, x32, x33, x34, x35, x36, x37, x38, x39, x40, x41, x42, x43, x44, x45, x46, x47, x48, x49, x50, x51, x52, x53, x54, x55, x56, x57, x58, x59, x60, x61, x62, x63, x64, x65, x66, x67, x68, x69, x70, x71, x72, x73, x74, x75, x76, x77, x78, x79, x80, x81, x82, x83, x84, x85, x86, x87, x88, x89, x90, x91, x92, x93, x94, x95, x96, x97, x98, x99, x100, x101, x102, x103, x104, x105, x106, x107, x108, x109, x110, x111, x112, x113, x114, x115, x116, x117, x118, x119, x120, x121, x122, x123, x124, x125, x126, x127, x128, x129, x130, x131, x132, x133, x134, x135, x136, x137, x138, x139, x140, x141, x142, x143, x144, x145, x146, x147, x148, x149, x150, x151, x152, x153, x154, x155, x156, x157, x158, x159, x160, x161, x162, x163, x164, x165, x166, x167, x168, x169, x170, x171, x172, x173, x174, x175, x176, x177, x178, x179, x180, x181, x182, x183, x184, x185, x186, x187, x188, x189, x190, x191, x192, x193, x194, x195, x196, x197, x198, x199, x200, x201, x202, x203, x204, x205, x206, x207, x208, x209, x210, x211, x212, x213, x214, x215, x216, x217, x218, x219, x220, x221, x222, x223, x224, x225, x226, x227, x228, x229, x230, x231, x232, x233, x234, x235, x236, x237, x238, x239, x240, x241, x242, x243, x244, x245, x246, x247, x248, x249], []⟩ w := by
  have HT := Lib.hid h
  have HX := Lib.hid hxs
  have HMM := Lib.hid hM
  have HNN := Lib.hid hN
  have hg0 := hn.1
  have hg1 := hn.2.1
  have HN := Lib.hid hn
  clear h hxs hM hN hn
  have HE : Hid (L1.rkeep K p = K) := by show _ = _; rw [Lk.rkeep, Lk.wants, h1, Bool.false_and, Bool.false_and, if_neg (by simp)]
  obtain ⟨a, cap, b, cab, hS⟩ := HT.out
  have hbp := hS.box 1 rfl
  have hpk := hS.box 0 rfl
  have c7 := blk_cell hbp 7 (.int .i64 L1.got) rfl
  have p5 := blk_cell hpk 5 (.int .i64 p.f) rfl
  have hpb := heap_lt hbp
  have htb := heap_lt hpk
  clear hS hbp hpk
  conv => arg 2; whnf
  dsimp only
  go_upto_region 18 with (fail)
  go_quiet (fail)
  go_upto_if 157 with (fail)
  go_cut [] (fun wx => HearR w0 tb pb p L1 (L1.rkeep K p) l wx)
  case first =>
    go_wp2_with fail
    go_meet
    rw [HE.out]
    exact HT.out.drewN _
  case rest =>
    have hlk := len_keep L1 K p
    (try apply_assumption)
    exact rhear_loop _ _ _ _ _ _ _ _ _ _ _ _ _ _ _ _ _ _ _ _ _ _ _ _ _ _ _ _ _ _ _ _ _ _ _ _ _ _ _ _ _ _ _ _ _ _ _ _ _ _ _ _ _ _ _ _ _ _ _ _ _ _ _ _ _ _ _ _ _ _ _ _ _ _ _ _ _ _ _ _ _ _ _ _ _ _ _ _ _ _ _ _ _ _ _ _ _ _ _ _ _ _ _ _ _ _ _ _ _ _ _ _ _ _ _ _ _ _ _ _ _ _ _ _ _ _ _ _ _ _ _ _ _ _ _ _ _ _ _ _ _ _ _ _ _ _ _ _ _ _ _ _ _ _ _ _ _ _ _ _ _ _ _ _ _ _ _ _ _ _ _ _ _ _ _ _ _ _ _ _ _ _ _ _ _ _ _ _ _ _ _ _ _ _ _ _ _ _ _ _ _ _ _ _ _ _ _ _ _ _ _ _ _ _ _ _ _ _ _ _ _ _ _ _ _ _ _ _ _ _ _ _ _ _ _ _ _ _ _ _ _ _ _ _ _ _ _ _ hcut (near_keep HN.out p hf1) (by omega) _ _ _ HX.out HMM.out HNN.out

set_option maxRecDepth 100000 in
set_option maxHeartbeats 4000000 in
theorem rhear_k1 (x1 x2 x4 x5 x6 x7 x8 x9 x10 x11 x12 x13 x14 x15 x16 x17 x18 x19 x20 x21 x22 x23 x24 x25 x26 x27 x28 x29 x30 x31 x32 x33 x34 x35 x36 x37 x38 x39 x40 x41 x42 x43 x44 x45 x46 x47 x48 x49 x50 x51 x52 x53 x54 x55 x56 x57 x58 x59 x60 x61 x62 x63 x64 x65 x66 x67 x68 x69 x70 x71 x72 x73 x74 x75 x76 x77 x78 x79 x80 x81 x82 x83 x84 x85 x86 x87 x88 x89 x90 x91 x92 x93 x94 x95 x96 x97 x98 x99 x100 x101 x102 x103 x104 x105 x106 x107 x108 x109 x110 x111 x112 x113 x114 x115 x116 x117 x118 x119 x120 x121 x122 x123 x124 x125 x126 x127 x128 x129 x130 x131 x132 x133 x134 x135 x136 x137 x138 x139 x140 x141 x142 x143 x144 x145 x146 x147 x148 x149 x150 x151 x152 x153 x154 x155 x156 x157 x158 x159 x160 x161 x162 x163 x164 x165 x166 x167 x168 x169 x170 x171 x172 x173 x174 x175 x176 x177 x178 x179 x180 x181 x182 x183 x184 x185 x186 x187 x188 x189 x190 x191 x192 x193 x194 x195 x196 x197 x198 x199 x200 x201 x202 x203 x204 x205 x206 x207 x208 x209 x210 x211 x212 x213 x214 x215 x216 x217 x218 x219 x220 x221 x222 x223 x224 x225 x226 x227 x228 x229 x230 x231 x232 x233 x234 x235 x236 x237 x238 x239 x240 x241 x242 x243 x244 x245 x246 x247 x248 x249 : Value) {w0 w : World} {tb pb : Nat} {p : Pk} {L1 : Lk} {K : List Tx} {l : List Thing} (h : HearR w0 tb pb p L1 K l w) (hn : near L1.got K) (hKl : K.length < 2000000000000) (hf0 : -9223372036854775808 ≤ p.f) (hf1 : p.f ≤ 9223372036854775807) (xs : List ByteArray) (M : Lk) (N : List Tx)
    (hxs : xs = (rdrain 64 (L1.rkeep K p) L1.got).2) (hM : M = { L1 with got := (rdrain 64 (L1.rkeep K p) L1.got).1 }) (hN : N = (L1.rkeep K p).filter (aheadOf (rdrain 64 (L1.rkeep K p) L1.got).1)) (h1 : decide (L1.got < p.f) = true) (h2 : decide (p.f - L1.got ≤ 64) = false) :
    Code.wp Try.prog rhearKeep (bodyPost Try.prog Try.f30 (StTexts w0 xs false (rk pb M N :: l))) ⟨#[.pointer (some ⟨pb, 0, none⟩), x1, x2, .pointer (some ⟨tb, 0, none⟩), x4, x5, x6, x7, x8, x9, x10, x11, x12, x13, x14, x15, x16, x17, x18, x19, x20, x21, x22, x23, x24, x25, x26, x27, x28, x29, x30, x31, x32, x33, x34, x35, x36, x37, x38, x39, x40, x41, x42, x43, x44, x45, x46, x47, x48, x49, x50, x51, x52, x53, x54, x55, x56, x57, x58, x59, x60, x61, x62, x63, x64, x65, x66, x67, x68, x69, x70, x71, x72, x73, x74, x75, x76, x77, x78, x79, x80, x81, x82, x83, x84, x85, x86, x87, x88, x89, x90, x91, x92, x93, x94, x95, x96, x97, x98, x99, x100, x101, x102, x103, x104, x105, x106, x107, x108, x109, x110, x111, x112, x113, x114, x115, x116, x117, x118, x119, x120, x121, x122, x123, x124, x125, x126, x127, x128, x129, x130, x131, x132, x133, x134, x135, x136, x137, x138, x139, x140, x141, x142, x143, x144, x145, x146, x147, x148, x149, x150, x151, x152, x153, x154, x155, x156, x157, x158, x159, x160, x161, x162, x163, x164, x165, x166, x167, x168, x169, x170, x171, x172, x173, x174, x175, x176, x177, x178, x179, x180, x181, x182, x183, x184, x185, x186, x187, x188, x189, x190, x191, x192, x193, x194, x195, x196, x197, x198, x199, x200, x201, x202, x203, x204, x205, x206, x207, x208, x209, x210, x211, x212, x213, x214, x215, x216, x217, x218, x219, x220, x221, x222, x223, x224, x225, x226, x227, x228, x229, x230, x231, x232, x233, x234, x235, x236, x237, x238, x239, x240, x241, x242, x243, x244, x245, x246, x247, x248, x249], []⟩ w := by
  have HT := Lib.hid h
  have HX := Lib.hid hxs
  have HMM := Lib.hid hM
  have HNN := Lib.hid hN
  have hg0 := hn.1
  have hg1 := hn.2.1
  have HN := Lib.hid hn
  clear h hxs hM hN hn
  have HE : Hid (L1.rkeep K p = K) := by show _ = _; rw [Lk.rkeep, Lk.wants, h1, h2, Bool.and_false, Bool.false_and, if_neg (by simp)]
  have hlt : L1.got < p.f := by simpa using h1
  have hwr : IntKind.i64.wrap (p.f - L1.got) = p.f - L1.got := IntWalk.i64_in _ (by omega)
  obtain ⟨a, cap, b, cab, hS⟩ := HT.out
  have hbp := hS.box 1 rfl
  have hpk := hS.box 0 rfl
  have c7 := blk_cell hbp 7 (.int .i64 L1.got) rfl
  have p5 := blk_cell hpk 5 (.int .i64 p.f) rfl
  have hpb := heap_lt hbp
  have htb := heap_lt hpk
  clear hS hbp hpk
  conv => arg 2; whnf
  dsimp only
  go_upto_region 18 with (fail)
  go_quiet (fail)
  go_upto_if 157 with (fail)
  go_cut [] (fun wx => HearR w0 tb pb p L1 (L1.rkeep K p) l wx)
  case first =>
    go_wp2_with fail
    go_meet
    rw [HE.out]
    exact HT.out.drewN _
  case rest =>
    have hlk := len_keep L1 K p
    (try apply_assumption)
    exact rhear_loop _ _ _ _ _ _ _ _ _ _ _ _ _ _ _ _ _ _ _ _ _ _ _ _ _ _ _ _ _ _ _ _ _ _ _ _ _ _ _ _ _ _ _ _ _ _ _ _ _ _ _ _ _ _ _ _ _ _ _ _ _ _ _ _ _ _ _ _ _ _ _ _ _ _ _ _ _ _ _ _ _ _ _ _ _ _ _ _ _ _ _ _ _ _ _ _ _ _ _ _ _ _ _ _ _ _ _ _ _ _ _ _ _ _ _ _ _ _ _ _ _ _ _ _ _ _ _ _ _ _ _ _ _ _ _ _ _ _ _ _ _ _ _ _ _ _ _ _ _ _ _ _ _ _ _ _ _ _ _ _ _ _ _ _ _ _ _ _ _ _ _ _ _ _ _ _ _ _ _ _ _ _ _ _ _ _ _ _ _ _ _ _ _ _ _ _ _ _ _ _ _ _ _ _ _ _ _ _ _ _ _ _ _ _ _ _ _ _ _ _ _ _ _ _ _ _ _ _ _ _ _ _ _ _ _ _ _ _ _ _ _ _ _ _ _ _ _ _ hcut (near_keep HN.out p hf1) (by omega) _ _ _ HX.out HMM.out HNN.out

set_option maxRecDepth 100000 in
set_option maxHeartbeats 4000000 in
theorem rhear_k2 (x1 x2 x4 x5 x6 x7 x8 x9 x10 x11 x12 x13 x14 x15 x16 x17 x18 x19 x20 x21 x22 x23 x24 x25 x26 x27 x28 x29 x30 x31 x32 x33 x34 x35 x36 x37 x38 x39 x40 x41 x42 x43 x44 x45 x46 x47 x48 x49 x50 x51 x52 x53 x54 x55 x56 x57 x58 x59 x60 x61 x62 x63 x64 x65 x66 x67 x68 x69 x70 x71 x72 x73 x74 x75 x76 x77 x78 x79 x80 x81 x82 x83 x84 x85 x86 x87 x88 x89 x90 x91 x92 x93 x94 x95 x96 x97 x98 x99 x100 x101 x102 x103 x104 x105 x106 x107 x108 x109 x110 x111 x112 x113 x114 x115 x116 x117 x118 x119 x120 x121 x122 x123 x124 x125 x126 x127 x128 x129 x130 x131 x132 x133 x134 x135 x136 x137 x138 x139 x140 x141 x142 x143 x144 x145 x146 x147 x148 x149 x150 x151 x152 x153 x154 x155 x156 x157 x158 x159 x160 x161 x162 x163 x164 x165 x166 x167 x168 x169 x170 x171 x172 x173 x174 x175 x176 x177 x178 x179 x180 x181 x182 x183 x184 x185 x186 x187 x188 x189 x190 x191 x192 x193 x194 x195 x196 x197 x198 x199 x200 x201 x202 x203 x204 x205 x206 x207 x208 x209 x210 x211 x212 x213 x214 x215 x216 x217 x218 x219 x220 x221 x222 x223 x224 x225 x226 x227 x228 x229 x230 x231 x232 x233 x234 x235 x236 x237 x238 x239 x240 x241 x242 x243 x244 x245 x246 x247 x248 x249 : Value) {w0 w : World} {tb pb : Nat} {p : Pk} {L1 : Lk} {K : List Tx} {l : List Thing} (h : HearR w0 tb pb p L1 K l w) (hn : near L1.got K) (hKl : K.length < 2000000000000) (hf0 : -9223372036854775808 ≤ p.f) (hf1 : p.f ≤ 9223372036854775807) (xs : List ByteArray) (M : Lk) (N : List Tx)
    (hxs : xs = (rdrain 64 (L1.rkeep K p) L1.got).2) (hM : M = { L1 with got := (rdrain 64 (L1.rkeep K p) L1.got).1 }) (hN : N = (L1.rkeep K p).filter (aheadOf (rdrain 64 (L1.rkeep K p) L1.got).1)) (h1 : decide (L1.got < p.f) = true) (h2 : decide (p.f - L1.got ≤ 64) = true) (s : ByteArray) (h3 : rlook K p.f = some s) :
    Code.wp Try.prog rhearKeep (bodyPost Try.prog Try.f30 (StTexts w0 xs false (rk pb M N :: l))) ⟨#[.pointer (some ⟨pb, 0, none⟩), x1, x2, .pointer (some ⟨tb, 0, none⟩), x4, x5, x6, x7, x8, x9, x10, x11, x12, x13, x14, x15, x16, x17, x18, x19, x20, x21, x22, x23, x24, x25, x26, x27, x28, x29, x30, x31, x32, x33, x34, x35, x36, x37, x38, x39, x40, x41, x42, x43, x44, x45, x46, x47, x48, x49, x50, x51, x52, x53, x54, x55, x56, x57, x58, x59, x60, x61, x62, x63, x64, x65, x66, x67, x68, x69, x70, x71, x72, x73, x74, x75, x76, x77, x78, x79, x80, x81, x82, x83, x84, x85, x86, x87, x88, x89, x90, x91, x92, x93, x94, x95, x96, x97, x98, x99, x100, x101, x102, x103, x104, x105, x106, x107, x108, x109, x110, x111, x112, x113, x114, x115, x116, x117, x118, x119, x120, x121, x122, x123, x124, x125, x126, x127, x128, x129, x130, x131, x132, x133, x134, x135, x136, x137, x138, x139, x140, x141, x142, x143, x144, x145, x146, x147, x148, x149, x150, x151, x152, x153, x154, x155, x156, x157, x158, x159, x160, x161, x162, x163, x164, x165, x166, x167, x168, x169, x170, x171, x172, x173, x174, x175, x176, x177, x178, x179, x180, x181, x182, x183, x184, x185, x186, x187, x188, x189, x190, x191, x192, x193, x194, x195, x196, x197, x198, x199, x200, x201, x202, x203, x204, x205, x206, x207, x208, x209, x210, x211, x212, x213, x214, x215, x216, x217, x218, x219, x220, x221, x222, x223, x224, x225, x226, x227, x228, x229, x230, x231, x232, x233, x234, x235, x236, x237, x238, x239, x240, x241, x242, x243, x244, x245, x246, x247, x248, x249], []⟩ w := by
  have HT := Lib.hid h
  have HX := Lib.hid hxs
  have HMM := Lib.hid hM
  have HNN := Lib.hid hN
  have hg0 := hn.1
  have hg1 := hn.2.1
  have HN := Lib.hid hn
  clear h hxs hM hN hn
  have HE : Hid (L1.rkeep K p = K) := by show _ = _; rw [Lk.rkeep, h3, if_neg (by simp)]
  have hlt : L1.got < p.f := by simpa using h1
  have hwr : IntKind.i64.wrap (p.f - L1.got) = p.f - L1.got := IntWalk.i64_in _ (by omega)
  obtain ⟨a, cap, b, cab, hS⟩ := HT.out
  have hbp := hS.box 1 rfl
  have hpk := hS.box 0 rfl
  have c7 := blk_cell hbp 7 (.int .i64 L1.got) rfl
  have p5 := blk_cell hpk 5 (.int .i64 p.f) rfl
  have hpb := heap_lt hbp
  have htb := heap_lt hpk
  clear hS hbp hpk
  conv => arg 2; whnf
  dsimp only
  go_upto_region 18 with (fail)
  go_quiet (fail)
  go_upto_if 157 with (fail)
  go_cut [] (fun wx => HearR w0 tb pb p L1 (L1.rkeep K p) l wx)
  case first =>
    obtain ⟨a, cap, b, cab, hS⟩ := HT.out.drewN nq
    have hbp := hS.box 1 rfl
    have hpk := hS.box 0 rfl
    have C8 := Lib.hid (blk_cell hbp 8 (.slice b K.length cab) rfl)
    have p5 := blk_cell hpk 5 (.int .i64 p.f) rfl
    have p7 := blk_cell hpk 7 (.string p.s) rfl
    have hpb := heap_lt hbp
    have htb := heap_lt hpk
    have HSK := Lib.hid (hS.slice 3 rfl)
    have HS := Lib.hid hS
    clear hS hbp hpk c7
    generalize w.drewN nq = wx0 at *
    go_wp2_with fail
    refine (rkeeps_any pb b K.length cab K rfl _ C8.out HSK.out.rd p.f).mono ?_
    rintro e w1 ⟨rfl, rfl⟩
    rw [h3]
    clear h3
    simp only [Option.isSome_some]
    go_wp2
    go_meet
    rw [HE.out]
    exact ⟨a, cap, b, cab, HS.out⟩
  case rest =>
    have hlk := len_keep L1 K p
    (try apply_assumption)
    exact rhear_loop _ _ _ _ _ _ _ _ _ _ _ _ _ _ _ _ _ _ _ _ _ _ _ _ _ _ _ _ _ _ _ _ _ _ _ _ _ _ _ _ _ _ _ _ _ _ _ _ _ _ _ _ _ _ _ _ _ _ _ _ _ _ _ _ _ _ _ _ _ _ _ _ _ _ _ _ _ _ _ _ _ _ _ _ _ _ _ _ _ _ _ _ _ _ _ _ _ _ _ _ _ _ _ _ _ _ _ _ _ _ _ _ _ _ _ _ _ _ _ _ _ _ _ _ _ _ _ _ _ _ _ _ _ _ _ _ _ _ _ _ _ _ _ _ _ _ _ _ _ _ _ _ _ _ _ _ _ _ _ _ _ _ _ _ _ _ _ _ _ _ _ _ _ _ _ _ _ _ _ _ _ _ _ _ _ _ _ _ _ _ _ _ _ _ _ _ _ _ _ _ _ _ _ _ _ _ _ _ _ _ _ _ _ _ _ _ _ _ _ _ _ _ _ _ _ _ _ _ _ _ _ _ _ _ _ _ _ _ _ _ _ _ _ _ _ _ _ _ hcut (near_keep HN.out p hf1) (by omega) _ _ _ HX.out HMM.out HNN.out

set_option maxRecDepth 100000 in
set_option maxHeartbeats 4000000 in
theorem rhear_k3 (x1 x2 x4 x5 x6 x7 x8 x9 x10 x11 x12 x13 x14 x15 x16 x17 x18 x19 x20 x21 x22 x23 x24 x25 x26 x27 x28 x29 x30 x31 x32 x33 x34 x35 x36 x37 x38 x39 x40 x41 x42 x43 x44 x45 x46 x47 x48 x49 x50 x51 x52 x53 x54 x55 x56 x57 x58 x59 x60 x61 x62 x63 x64 x65 x66 x67 x68 x69 x70 x71 x72 x73 x74 x75 x76 x77 x78 x79 x80 x81 x82 x83 x84 x85 x86 x87 x88 x89 x90 x91 x92 x93 x94 x95 x96 x97 x98 x99 x100 x101 x102 x103 x104 x105 x106 x107 x108 x109 x110 x111 x112 x113 x114 x115 x116 x117 x118 x119 x120 x121 x122 x123 x124 x125 x126 x127 x128 x129 x130 x131 x132 x133 x134 x135 x136 x137 x138 x139 x140 x141 x142 x143 x144 x145 x146 x147 x148 x149 x150 x151 x152 x153 x154 x155 x156 x157 x158 x159 x160 x161 x162 x163 x164 x165 x166 x167 x168 x169 x170 x171 x172 x173 x174 x175 x176 x177 x178 x179 x180 x181 x182 x183 x184 x185 x186 x187 x188 x189 x190 x191 x192 x193 x194 x195 x196 x197 x198 x199 x200 x201 x202 x203 x204 x205 x206 x207 x208 x209 x210 x211 x212 x213 x214 x215 x216 x217 x218 x219 x220 x221 x222 x223 x224 x225 x226 x227 x228 x229 x230 x231 x232 x233 x234 x235 x236 x237 x238 x239 x240 x241 x242 x243 x244 x245 x246 x247 x248 x249 : Value) {w0 w : World} {tb pb : Nat} {p : Pk} {L1 : Lk} {K : List Tx} {l : List Thing} (h : HearR w0 tb pb p L1 K l w) (hn : near L1.got K) (hKl : K.length < 2000000000000) (hf0 : -9223372036854775808 ≤ p.f) (hf1 : p.f ≤ 9223372036854775807) (xs : List ByteArray) (M : Lk) (N : List Tx)
    (hxs : xs = (rdrain 64 (L1.rkeep K p) L1.got).2) (hM : M = { L1 with got := (rdrain 64 (L1.rkeep K p) L1.got).1 }) (hN : N = (L1.rkeep K p).filter (aheadOf (rdrain 64 (L1.rkeep K p) L1.got).1)) (h1 : decide (L1.got < p.f) = true) (h2 : decide (p.f - L1.got ≤ 64) = true) (h3 : rlook K p.f = none) :
    Code.wp Try.prog rhearKeep (bodyPost Try.prog Try.f30 (StTexts w0 xs false (rk pb M N :: l))) ⟨#[.pointer (some ⟨pb, 0, none⟩), x1, x2, .pointer (some ⟨tb, 0, none⟩), x4, x5, x6, x7, x8, x9, x10, x11, x12, x13, x14, x15, x16, x17, x18, x19, x20, x21, x22, x23, x24, x25, x26, x27, x28, x29, x30, x31, x32, x33, x34, x35, x36, x37, x38, x39, x40, x41, x42, x43, x44, x45, x46, x47, x48, x49, x50, x51, x52, x53, x54, x55, x56, x57, x58, x59, x60, x61, x62, x63, x64, x65, x66, x67, x68, x69, x70, x71, x72, x73, x74, x75, x76, x77, x78, x79, x80, x81, x82, x83, x84, x85, x86, x87, x88, x89, x90, x91, x92, x93, x94, x95, x96, x97, x98, x99, x100, x101, x102, x103, x104, x105, x106, x107, x108, x109, x110, x111, x112, x113, x114, x115, x116, x117, x118, x119, x120, x121, x122, x123, x124, x125, x126, x127, x128, x129, x130, x131, x132, x133, x134, x135, x136, x137, x138, x139, x140, x141, x142, x143, x144, x145, x146, x147, x148, x149, x150, x151, x152, x153, x154, x155, x156, x157, x158, x159, x160, x161, x162, x163, x164, x165, x166, x167, x168, x169, x170, x171, x172, x173, x174, x175, x176, x177, x178, x179, x180, x181, x182, x183, x184, x185, x186, x187, x188, x189, x190, x191, x192, x193, x194, x195, x196, x197, x198, x199, x200, x201, x202, x203, x204, x205, x206, x207, x208, x209, x210, x211, x212, x213, x214, x215, x216, x217, x218, x219, x220, x221, x222, x223, x224, x225, x226, x227, x228, x229, x230, x231, x232, x233, x234, x235, x236, x237, x238, x239, x240, x241, x242, x243, x244, x245, x246, x247, x248, x249], []⟩ w := by
  have HT := Lib.hid h
  have HX := Lib.hid hxs
  have HMM := Lib.hid hM
  have HNN := Lib.hid hN
  have hg0 := hn.1
  have hg1 := hn.2.1
  have HN := Lib.hid hn
  clear h hxs hM hN hn
  have HE : Hid (L1.rkeep K p = K ++ [⟨p.f, p.s⟩]) := by show _ = _; rw [Lk.rkeep, Lk.wants, h1, h2, h3, if_pos (by simp)]
  have hlt : L1.got < p.f := by simpa using h1
  have hwr : IntKind.i64.wrap (p.f - L1.got) = p.f - L1.got := IntWalk.i64_in _ (by omega)
  obtain ⟨a, cap, b, cab, hS⟩ := HT.out
  have hbp := hS.box 1 rfl
  have hpk := hS.box 0 rfl
  have c7 := blk_cell hbp 7 (.int .i64 L1.got) rfl
  have p5 := blk_cell hpk 5 (.int .i64 p.f) rfl
  have hpb := heap_lt hbp
  have htb := heap_lt hpk
  clear hS hbp hpk
  conv => arg 2; whnf
  dsimp only
  go_upto_region 18 with (fail)
  go_quiet (fail)
  go_upto_if 157 with (fail)
  go_cut [] (fun wx => HearR w0 tb pb p L1 (L1.rkeep K p) l wx)
  case first =>
    obtain ⟨a, cap, b, cab, hS⟩ := HT.out.drewN nq
    have hbp := hS.box 1 rfl
    have hpk := hS.box 0 rfl
    have C8 := Lib.hid (blk_cell hbp 8 (.slice b K.length cab) rfl)
    have p5 := blk_cell hpk 5 (.int .i64 p.f) rfl
    have p7 := blk_cell hpk 7 (.string p.s) rfl
    have hpb := heap_lt hbp
    have htb := heap_lt hpk
    have HSK := Lib.hid (hS.slice 3 rfl)
    have HS := Lib.hid hS
    clear hS hbp hpk c7
    generalize w.drewN nq = wx0 at *
    go_wp2_with fail
    refine (rkeeps_any pb b K.length cab K rfl _ C8.out HSK.out.rd p.f).mono ?_
    rintro e w1 ⟨rfl, rfl⟩
    rw [h3]
    clear h3
    simp only [Option.isSome_none]
    go_upto_region 21 with (fail)
    obtain ⟨m, hm⟩ : ∃ m, K.length = m := ⟨_, rfl⟩
    have c8 := C8.out
    rw [hm] at c8 hKl
    have HM := Lib.hid hm
    obtain ⟨ip, hip1, hip2, hip3⟩ := info_parts infoX
    have HI := Lib.hid (And.intro hip1 (And.intro hip2 hip3))
    have HS2 : Hid (St w0 wx0 (bx tb p.cells.toArray 41 :: bx pb (L1.rcells a L1.queue.length cap b m cab) 74 :: sl 80 2 a L1.queue.length cap (ftx L1.queue) :: sl 80 2 b m cab (ftx K) :: l)) := by rw [← hm]; exact HS
    clear hip1 hip2 hip3 hm C8 HSK HS
    go_region_law ((refine step_append rfl rfl 80 ip _ 2 24 (by kernel_rfl) HI.out.1 HI.out.2.1 HI.out.2.2.1 HI.out.2.2.2 rfl b m cab (ftx K) (by rfl) ?hv (some ⟨wx0.heap.size, 0, none⟩) 1 1 (ftx [⟨p.f, p.s⟩]) (by rfl) ?hs ?h1 ?h63 ?hb ?_
                    case hv => exact (HS2.out.slice 3 rfl).mod (S := fun _ => False) (by first | exact ((Mod.refl _ _).alloc _).drew | exact ((Mod.refl _ _).drew).alloc _) (fun _ _ => id)
                    case hs => exact (Sl.new (c := (ftx [⟨p.f, p.s⟩]).toArray) (by first | exact heap_alloc_new wx0 _ | exact heap_alloc_new wx0.drew _) rfl (by unfold maxLen; omega)).rd
                    case h1 => exact ftx_one _
                    case h63 => unfold maxLen; omega
                    case hb => omega
                    intro a2 cap2 w2 hSl2 hM2 hF2 hN2 hR2
                    have hSA := HS2.out.mod (by first | exact ((Mod.refl _ _).alloc (.cells (ftx [⟨p.f, p.s⟩]).toArray 80)).drew | exact ((Mod.refl _ _).drew).alloc (.cells (ftx [⟨p.f, p.s⟩]).toArray 80))
                    have hSB := hSA.regrow 3 rfl hSl2 hM2 hF2
                    have hb2 := hSB.box 1 rfl
                    have hc2 := blk_cell hb2 8 (.slice b m cab) rfl
                    have hf2 := blk_free hb2 8
                    have hpb2 := heap_lt hb2
                    have HSB := Lib.hid hSB
                    clear hN2 hR2 hb2 hSA hSB hSl2))
    all_goals
      (try go_wp2_with fail)
      go_meet
      rw [HE.out]
      refine ⟨a, cap, a2, cap2, ?_⟩
      have hl : (K ++ [(⟨p.f, p.s⟩ : Tx)]).length = m + 1 := by rw [List.length_append, HM.out]; rfl
      rw [hl, ftx_append]
      exact HSB.out.set 1 rfl 8 (.slice a2 (m + 1) cap2)
  case rest =>
    have hlk := len_keep L1 K p
    (try apply_assumption)
    exact rhear_loop _ _ _ _ _ _ _ _ _ _ _ _ _ _ _ _ _ _ _ _ _ _ _ _ _ _ _ _ _ _ _ _ _ _ _ _ _ _ _ _ _ _ _ _ _ _ _ _ _ _ _ _ _ _ _ _ _ _ _ _ _ _ _ _ _ _ _ _ _ _ _ _ _ _ _ _ _ _ _ _ _ _ _ _ _ _ _ _ _ _ _ _ _ _ _ _ _ _ _ _ _ _ _ _ _ _ _ _ _ _ _ _ _ _ _ _ _ _ _ _ _ _ _ _ _ _ _ _ _ _ _ _ _ _ _ _ _ _ _ _ _ _ _ _ _ _ _ _ _ _ _ _ _ _ _ _ _ _ _ _ _ _ _ _ _ _ _ _ _ _ _ _ _ _ _ _ _ _ _ _ _ _ _ _ _ _ _ _ _ _ _ _ _ _ _ _ _ _ _ _ _ _ _ _ _ _ _ _ _ _ _ _ _ _ _ _ _ _ _ _ _ _ _ _ _ _ _ _ _ _ _ _ _ _ _ _ _ _ _ _ _ _ _ _ _ _ _ _ hcut (near_keep HN.out p hf1) (by omega) _ _ _ HX.out HMM.out HNN.out

theorem rhear_keep (x1 x2 x4 x5 x6 x7 x8 x9 x10 x11 x12 x13 x14 x15 x16 x17 x18 x19 x20 x21 x22 x23 x24 x25 x26 x27 x28 x29 x30 x31 x32 x33 x34 x35 x36 x37 x38 x39 x40 x41 x42 x43 x44 x45 x46 x47 x48 x49 x50 x51 x52 x53 x54 x55 x56 x57 x58 x59 x60 x61 x62 x63 x64 x65 x66 x67 x68 x69 x70 x71 x72 x73 x74 x75 x76 x77 x78 x79 x80 x81 x82 x83 x84 x85 x86 x87 x88 x89 x90 x91 x92 x93 x94 x95 x96 x97 x98 x99 x100 x101 x102 x103 x104 x105 x106 x107 x108 x109 x110 x111 x112 x113 x114 x115 x116 x117 x118 x119 x120 x121 x122 x123 x124 x125 x126 x127 x128 x129 x130 x131 x132 x133 x134 x135 x136 x137 x138 x139 x140 x141 x142 x143 x144 x145 x146 x147 x148 x149 x150 x151 x152 x153 x154 x155 x156 x157 x158 x159 x160 x161 x162 x163 x164 x165 x166 x167 x168 x169 x170 x171 x172 x173 x174 x175 x176 x177 x178 x179 x180 x181 x182 x183 x184 x185 x186 x187 x188 x189 x190 x191 x192 x193 x194 x195 x196 x197 x198 x199 x200 x201 x202 x203 x204 x205 x206 x207 x208 x209 x210 x211 x212 x213 x214 x215 x216 x217 x218 x219 x220 x221 x222 x223 x224 x225 x226 x227 x228 x229 x230 x231 x232 x233 x234 x235 x236 x237 x238 x239 x240 x241 x242 x243 x244 x245 x246 x247 x248 x249 : Value) {w0 w : World} {tb pb : Nat} {p : Pk} {L1 : Lk} {K : List Tx} {l : List Thing} (h : HearR w0 tb pb p L1 K l w) (hn : near L1.got K) (hKl : K.length < 2000000000000) (hf0 : -9223372036854775808 ≤ p.f) (hf1 : p.f ≤ 9223372036854775807) (xs : List ByteArray) (M : Lk) (N : List Tx)
    (hxs : xs = (rdrain 64 (L1.rkeep K p) L1.got).2) (hM : M = { L1 with got := (rdrain 64 (L1.rkeep K p) L1.got).1 }) (hN : N = (L1.rkeep K p).filter (aheadOf (rdrain 64 (L1.rkeep K p) L1.got).1)) :
    Code.wp Try.prog rhearKeep (bodyPost Try.prog Try.f30 (StTexts w0 xs false (rk pb M N :: l))) ⟨#[.pointer (some ⟨pb, 0, none⟩), x1, x2, .pointer (some ⟨tb, 0, none⟩), x4, x5, x6, x7, x8, x9, x10, x11, x12, x13, x14, x15, x16, x17, x18, x19, x20, x21, x22, x23, x24, x25, x26, x27, x28, x29, x30, x31, x32, x33, x34, x35, x36, x37, x38, x39, x40, x41, x42, x43, x44, x45, x46, x47, x48, x49, x50, x51, x52, x53, x54, x55, x56, x57, x58, x59, x60, x61, x62, x63, x64, x65, x66, x67, x68, x69, x70, x71, x72, x73, x74, x75, x76, x77, x78, x79, x80, x81, x82, x83, x84, x85, x86, x87, x88, x89, x90, x91, x92, x93, x94, x95, x96, x97, x98, x99, x100, x101, x102, x103, x104, x105, x106, x107, x108, x109, x110, x111, x112, x113, x114, x115, x116, x117, x118, x119, x120, x121, x122, x123, x124, x125, x126, x127, x128, x129, x130, x131, x132, x133, x134, x135, x136, x137, x138, x139, x140, x141, x142, x143, x144, x145, x146, x147, x148, x149, x150, x151, x152, x153, x154, x155, x156, x157, x158, x159, x160, x161, x162, x163, x164, x165, x166, x167, x168, x169, x170, x171, x172, x173, x174, x175, x176, x177, x178, x179, x180, x181, x182, x183, x184, x185, x186, x187, x188, x189, x190, x191, x192, x193, x194, x195, x196, x197, x198, x199, x200, x201, x202, x203, x204, x205, x206, x207, x208, x209, x210, x211, x212, x213, x214, x215, x216, x217, x218, x219, x220, x221, x222, x223, x224, x225, x226, x227, x228, x229, x230, x231, x232, x233, x234, x235, x236, x237, x238, x239, x240, x241, x242, x243, x244, x245, x246, x247, x248, x249], []⟩ w := by
  cases h1 : decide (L1.got < p.f) with
  | false => exact rhear_k0 _ _ _ _ _ _ _ _ _ _ _ _ _ _ _ _ _ _ _ _ _ _ _ _ _ _ _ _ _ _ _ _ _ _ _ _ _ _ _ _ _ _ _ _ _ _ _ _ _ _ _ _ _ _ _ _ _ _ _ _ _ _ _ _ _ _ _ _ _ _ _ _ _ _ _ _ _ _ _ _ _ _ _ _ _ _ _ _ _ _ _ _ _ _ _ _ _ _ _ _ _ _ _ _ _ _ _ _ _ _ _ _ _ _ _ _ _ _ _ _ _ _ _ _ _ _ _ _ _ _ _ _ _ _ _ _ _ _ _ _ _ _ _ _ _ _ _ _ _ _ _ _ _ _ _ _ _ _ _ _ _ _ _ _ _ _ _ _ _ _ _ _ _ _ _ _ _ _ _ _ _ _ _ _ _ _ _ _ _ _ _ _ _ _ _ _ _ _ _ _ _ _ _ _ _ _ _ _ _ _ _ _ _ _ _ _ _ _ _ _ _ _ _ _ _ _ _ _ _ _ _ _ _ _ _ _ _ _ _ _ _ _ _ _ _ _ _ _ h hn hKl hf0 hf1 xs M N hxs hM hN h1
  | true =>
    cases h2 : decide (p.f - L1.got ≤ 64) with
    | false => exact rhear_k1 _ _ _ _ _ _ _ _ _ _ _ _ _ _ _ _ _ _ _ _ _ _ _ _ _ _ _ _ _ _ _ _ _ _ _ _ _ _ _ _ _ _ _ _ _ _ _ _ _ _ _ _ _ _ _ _ _ _ _ _ _ _ _ _ _ _ _ _ _ _ _ _ _ _ _ _ _ _ _ _ _ _ _ _ _ _ _ _ _ _ _ _ _ _ _ _ _ _ _ _ _ _ _ _ _ _ _ _ _ _ _ _ _ _ _ _ _ _ _ _ _ _ _ _ _ _ _ _ _ _ _ _ _ _ _ _ _ _ _ _ _ _ _ _ _ _ _ _ _ _ _ _ _ _ _ _ _ _ _ _ _ _ _ _ _ _ _ _ _ _ _ _ _ _ _ _ _ _ _ _ _ _ _ _ _ _ _ _ _ _ _ _ _ _ _ _ _ _ _ _ _ _ _ _ _ _ _ _ _ _ _ _ _ _ _ _ _ _ _ _ _ _ _ _ _ _ _ _ _ _ _ _ _ _ _ _ _ _ _ _ _ _ _ _ _ _ _ _ h hn hKl hf0 hf1 xs M N hxs hM hN h1 h2
    | true =>
      cases h3 : rlook K p.f with
      | some s => exact rhear_k2 _ _ _ _ _ _ _ _ _ _ _ _ _ _ _ _ _ _ _ _ _ _ _ _ _ _ _ _ _ _ _ _ _ _ _ _ _ _ _ _ _ _ _ _ _ _ _ _ _ _ _ _ _ _ _ _ _ _ _ _ _ _ _ _ _ _ _ _ _ _ _ _ _ _ _ _ _ _ _ _ _ _ _ _ _ _ _ _ _ _ _ _ _ _ _ _ _ _ _ _ _ _ _ _ _ _ _ _ _ _ _ _ _ _ _ _ _ _ _ _ _ _ _ _ _ _ _ _ _ _ _ _ _ _ _ _ _ _ _ _ _ _ _ _ _ _ _ _ _ _ _ _ _ _ _ _ _ _ _ _ _ _ _ _ _ _ _ _ _ _ _ _ _ _ _ _ _ _ _ _ _ _ _ _ _ _ _ _ _ _ _ _ _ _ _ _ _ _ _ _ _ _ _ _ _ _ _ _ _ _ _ _ _ _ _ _ _ _ _ _ _ _ _ _ _ _ _ _ _ _ _ _ _ _ _ _ _ _ _ _ _ _ _ _ _ _ _ _ h hn hKl hf0 hf1 xs M N hxs hM hN h1 h2 s h3
      | none => exact rhear_k3 _ _ _ _ _ _ _ _ _ _ _ _ _ _ _ _ _ _ _ _ _ _ _ _ _ _ _ _ _ _ _ _ _ _ _ _ _ _ _ _ _ _ _ _ _ _ _ _ _ _ _ _ _ _ _ _ _ _ _ _ _ _ _ _ _ _ _ _ _ _ _ _ _ _ _ _ _ _ _ _ _ _ _ _ _ _ _ _ _ _ _ _ _ _ _ _ _ _ _ _ _ _ _ _ _ _ _ _ _ _ _ _ _ _ _ _ _ _ _ _ _ _ _ _ _ _ _ _ _ _ _ _ _ _ _ _ _ _ _ _ _ _ _ _ _ _ _ _ _ _ _ _ _ _ _ _ _ _ _ _ _ _ _ _ _ _ _ _ _ _ _ _ _ _ _ _ _ _ _ _ _ _ _ _ _ _ _ _ _ _ _ _ _ _ _ _ _ _ _ _ _ _ _ _ _ _ _ _ _ _ _ _ _ _ _ _ _ _ _ _ _ _ _ _ _ _ _ _ _ _ _ _ _ _ _ _ _ _ _ _ _ _ _ _ _ _ _ _ h hn hKl hf0 hf1 xs M N hxs hM hN h1 h2 h3

noncomputable def rhearMid : Code := ((Try.f30.body.bind (codeAt 15)).getD .skip)

set_option maxRecDepth 100000 in
set_option maxHeartbeats 4000000 in
theorem rhear_mid (x1 x2 x4 x5 x6 x7 x8 x9 x10 x11 x12 x13 x14 x15 x16 x17 x18 x19 x20 x21 x22 x23 x24 x25 x26 x27 x28 x29 x30 x31 x32 x33 x34 x35 x36 x37 x38 x39 x40 x41 x42 x43 x44 x45 x46 x47 x48 x49 x50 x51 x52 x53 x54 x55 x56 x57 x58 x59 x60 x61 x62 x63 x64 x65 x66 x67 x68 x69 x70 x71 x72 x73 x74 x75 x76 x77 x78 x79 x80 x81 x82 x83 x84 x85 x86 x87 x88 x89 x90 x91 x92 x93 x94 x95 x96 x97 x98 x99 x100 x101 x102 x103 x104 x105 x106 x107 x108 x109 x110 x111 x112 x113 x114 x115 x116 x117 x118 x119 x120 x121 x122 x123 x124 x125 x126 x127 x128 x129 x130 x131 x132 x133 x134 x135 x136 x137 x138 x139 x140 x141 x142 x143 x144 x145 x146 x147 x148 x149 x150 x151 x152 x153 x154 x155 x156 x157 x158 x159 x160 x161 x162 x163 x164 x165 x166 x167 x168 x169 x170 x171 x172 x173 x174 x175 x176 x177 x178 x179 x180 x181 x182 x183 x184 x185 x186 x187 x188 x189 x190 x191 x192 x193 x194 x195 x196 x197 x198 x199 x200 x201 x202 x203 x204 x205 x206 x207 x208 x209 x210 x211 x212 x213 x214 x215 x216 x217 x218 x219 x220 x221 x222 x223 x224 x225 x226 x227 x228 x229 x230 x231 x232 x233 x234 x235 x236 x237 x238 x239 x240 x241 x242 x243 x244 x245 x246 x247 x248 x249 : Value) {w0 w : World} {tb pb : Nat} {p : Pk} {L : Lk} {K : List Tx} {l : List Thing} (h : HearR w0 tb pb p L K l w) (hn : near L.got K) (hKl : K.length < 2000000000000) (hf0 : -9223372036854775808 ≤ p.f) (hf1 : p.f ≤ 9223372036854775807) (xs : List ByteArray) (M : Lk) (N : List Tx)
    (hxs : xs = L.rout K p) (hM : M = L.rlink K p) (hN : N = L.rkept K p) :
    Code.wp Try.prog rhearMid (bodyPost Try.prog Try.f30 (StTexts w0 xs false (rk pb M N :: l))) ⟨#[.pointer (some ⟨pb, 0, none⟩), x1, x2, .pointer (some ⟨tb, 0, none⟩), x4, x5, x6, x7, x8, x9, x10, x11, x12, x13, x14, x15, x16, x17, x18, x19, x20, x21, x22, x23, x24, x25, x26, x27, x28, x29, x30, x31, x32, x33, x34, x35, x36, x37, x38, x39, x40, x41, x42, x43, x44, x45, x46, x47, x48, x49, x50, x51, x52, x53, x54, x55, x56, x57, x58, x59, x60, x61, x62, x63, x64, x65, x66, x67, x68, x69, x70, x71, x72, x73, x74, x75, x76, x77, x78, x79, x80, x81, x82, x83, x84, x85, x86, x87, x88, x89, x90, x91, x92, x93, x94, x95, x96, x97, x98, x99, x100, x101, x102, x103, x104, x105, x106, x107, x108, x109, x110, x111, x112, x113, x114, x115, x116, x117, x118, x119, x120, x121, x122, x123, x124, x125, x126, x127, x128, x129, x130, x131, x132, x133, x134, x135, x136, x137, x138, x139, x140, x141, x142, x143, x144, x145, x146, x147, x148, x149, x150, x151, x152, x153, x154, x155, x156, x157, x158, x159, x160, x161, x162, x163, x164, x165, x166, x167, x168, x169, x170, x171, x172, x173, x174, x175, x176, x177, x178, x179, x180, x181, x182, x183, x184, x185, x186, x187, x188, x189, x190, x191, x192, x193, x194, x195, x196, x197, x198, x199, x200, x201, x202, x203, x204, x205, x206, x207, x208, x209, x210, x211, x212, x213, x214, x215, x216, x217, x218, x219, x220, x221, x222, x223, x224, x225, x226, x227, x228, x229, x230, x231, x232, x233, x234, x235, x236, x237, x238, x239, x240, x241, x242, x243, x244, x245, x246, x247, x248, x249], []⟩ w := by
  have HT := Lib.hid h
  have HX := Lib.hid hxs
  have HMM := Lib.hid hM
  have HNN := Lib.hid hN
  have hg0 := hn.1
  have hg1 := hn.2.1
  have HN := Lib.hid hn
  clear hxs hM hN hn
  obtain ⟨a, cap, b, cab, hS⟩ := h
  have hbp := hS.box 1 rfl
  have hpk := hS.box 0 rfl
  have p5 := blk_cell hpk 5 (.int .i64 p.f) rfl
  have f9 := blk_free hbp 9
  have c9 := blk_cell hbp 9 (.bool L.owes) rfl
  have hpb := heap_lt hbp
  have htb := heap_lt hpk
  have HS := Lib.hid hS
  clear hS hbp hpk
  conv => arg 2; whnf
  by_cases hs : p.f < 1
  · have hd : decide (p.f < 1) = true := by simpa using hs
    have HSS := Lib.hid hs
    clear hs
    go_wp2
    go_ret2
    rw [HX.out, HMM.out, HNN.out]
    unfold Lk.rout Lk.rlink Lk.rkept
    rw [if_pos HSS.out, if_pos HSS.out, if_pos HSS.out]
    exact ⟨none, 0, rfl, HT.out.link.nilSlice _ _⟩
  have hd : decide (p.f < 1) = false := by simpa using hs
  have HSS := Lib.hid hs
  clear hs HT
  go_upto_region 17 with (fail)
  go_cut [] (fun wx => HearR w0 tb pb p { L with owes := true } K l wx)
  case first =>
    go_wp2_with (fail)
    go_meet
    exact ⟨a, cap, b, cab, HS.out.set 1 rfl 9 (.bool true)⟩
  case rest =>
    have hx : xs = (rdrain 64 (({ L with owes := true } : Lk).rkeep K p) ({ L with owes := true } : Lk).got).2 := by rw [HX.out, Lk.rout, if_neg HSS.out]; rfl
    have hm : M = { ({ L with owes := true } : Lk) with got := (rdrain 64 (({ L with owes := true } : Lk).rkeep K p) ({ L with owes := true } : Lk).got).1 } := by rw [HMM.out, Lk.rlink, if_neg HSS.out]; rfl
    have hnn : N = (({ L with owes := true } : Lk).rkeep K p).filter (aheadOf (rdrain 64 (({ L with owes := true } : Lk).rkeep K p) ({ L with owes := true } : Lk).got).1) := by rw [HNN.out, Lk.rkept, if_neg HSS.out]; rfl
    (try apply_assumption)
    exact rhear_keep _ _ _ _ _ _ _ _ _ _ _ _ _ _ _ _ _ _ _ _ _ _ _ _ _ _ _ _ _ _ _ _ _ _ _ _ _ _ _ _ _ _ _ _ _ _ _ _ _ _ _ _ _ _ _ _ _ _ _ _ _ _ _ _ _ _ _ _ _ _ _ _ _ _ _ _ _ _ _ _ _ _ _ _ _ _ _ _ _ _ _ _ _ _ _ _ _ _ _ _ _ _ _ _ _ _ _ _ _ _ _ _ _ _ _ _ _ _ _ _ _ _ _ _ _ _ _ _ _ _ _ _ _ _ _ _ _ _ _ _ _ _ _ _ _ _ _ _ _ _ _ _ _ _ _ _ _ _ _ _ _ _ _ _ _ _ _ _ _ _ _ _ _ _ _ _ _ _ _ _ _ _ _ _ _ _ _ _ _ _ _ _ _ _ _ _ _ _ _ _ _ _ _ _ _ _ _ _ _ _ _ _ _ _ _ _ _ _ _ _ _ _ _ _ _ _ _ _ _ _ _ _ _ _ _ _ _ _ _ _ _ _ _ _ _ _ _ _ (L1 := { L with owes := true }) hcut HN.out hKl hf0 hf1 _ _ _ hx hm hnn
end Go.Proofs.Ytoeokdachojhjaa
