/-
  The document's link: Hear, its last two loops.
  Conditions: what is kept is ahead and not far.
-/
import Derived.Test.YtoeokdachojhjaaRefB
import Derived.BigRegion
import Derived.Deep.CutBlock
namespace Go.Proofs.Ytoeokdachojhjaa
open Go.RowKit
set_option linter.unusedSectionVars false
set_option linter.unusedSimpArgs false
set_option linter.unusedVariables false

def rdrain : Nat → List Tx → Int → Int × List ByteArray
  | 0, _, g => (g, [])
  | m + 1, K, g => match rlook K (g + 1) with
    | none => (g, [])
    | some s => ((rdrain m K (g + 1)).1, s :: (rdrain m K (g + 1)).2)
theorem rdrain_none {m : Nat} {K : List Tx} {g : Int} (h : rlook K (g + 1) = none) : rdrain m K g = (g, []) := by
  cases m with
  | zero => rfl
  | succ m => rw [rdrain, h]
theorem rdrain_some {m : Nat} {K : List Tx} {g : Int} {s : ByteArray} (h : rlook K (g + 1) = some s) : rdrain (m + 1) K g = ((rdrain m K (g + 1)).1, s :: (rdrain m K (g + 1)).2) := by
  rw [rdrain, h]

/-- What the document keeps is ahead, and not far. -/
def near (g : Int) (K : List Tx) : Prop := 0 ≤ g ∧ g ≤ 9223372036854775807 ∧ ∀ k s, rlook K k = some s → g < k ∧ k ≤ g + 64 ∧ k ≤ 9223372036854775807

def aheadOf (g : Int) (t : Tx) : Bool := decide (g < t.n)

/-- In Hear: the packet in its block, the link taken apart. -/
def HearR (w0 : World) (tb pb : Nat) (p : Pk) (L : Lk) (K : List Tx) (l : List Thing) (w : World) : Prop :=
  ∃ a cap b cab, St w0 w (bx tb p.cells.toArray 41 :: bx pb (L.rcells a L.queue.length cap b K.length cab) 74 :: sl 80 2 a L.queue.length cap (ftx L.queue) :: sl 80 2 b K.length cab (ftx K) :: l)
theorem HearR.drewN {w0 : World} {tb pb : Nat} {p : Pk} {L : Lk} {K : List Tx} {l : List Thing} {w : World} (h : HearR w0 tb pb p L K l w) (n : Nat) : HearR w0 tb pb p L K l (w.drewN n) := by
  obtain ⟨a, cap, b, cab, h⟩ := h; exact ⟨a, cap, b, cab, h.drewN n⟩
theorem HearR.link {w0 : World} {tb pb : Nat} {p : Pk} {L : Lk} {K : List Tx} {l : List Thing} {w : World} (h : HearR w0 tb pb p L K l w) : St w0 w (rk pb L K :: l) := by
  obtain ⟨a, cap, b, cab, h⟩ := h; exact h.tail.rerk

noncomputable def rhearRest : Code := ((Try.f30.body.bind (codeAt 28)).getD .skip)
noncomputable def rhearLoop : Code := ((Try.f30.body.bind (codeAt 22)).getD .skip)

theorem rest_step {K : List Tx} {g : Int} {k : Nat} {t : Tx} (h : K[k]? = some t) : (K.take (k + 1)).filter (aheadOf g) = (K.take k).filter (aheadOf g) ++ (if g < t.n then [t] else []) := by
  obtain ⟨hk, rfl⟩ := List.getElem?_eq_some_iff.1 h
  rw [List.take_succ_eq_append_getElem hk, List.filter_append]
  congr 1
  unfold aheadOf
  by_cases hs : g < K[k].n
  · rw [if_pos hs]; simp [hs]
  · rw [if_neg hs]; simp [hs]

theorem text_one (t : Tx) : ∀ u ∈ t.cells, u.oneCell' = true := fun u hu => ftx_one [t] u (by simpa [ftx] using hu)

set_option maxRecDepth 100000 in
set_option maxHeartbeats 4000000 in
theorem rhear_rest (x1 x2 x4 x5 x6 x7 x9 x10 x11 x12 x13 x14 x15 x16 x17 x18 x19 x20 x21 x22 x23 x24 x25 x26 x27 x28 x29 x30 x31 x32 x33 x34 x35 x36 x37 x38 x39 x40 x41 x42 x43 x44 x45 x46 x47 x48 x49 x50 x51 x52 x53 x54 x55 x56 x57 x58 x59 x60 x61 x62 x63 x64 x65 x66 x67 x68 x69 x70 x71 x72 x73 x74 x75 x76 x77 x78 x79 x80 x81 x82 x83 x84 x85 x86 x87 x88 x89 x90 x91 x92 x93 x94 x95 x96 x97 x98 x99 x100 x101 x102 x103 x104 x105 x106 x107 x108 x109 x110 x111 x112 x113 x114 x115 x116 x117 x118 x119 x120 x121 x122 x123 x124 x125 x126 x127 x128 x129 x130 x131 x132 x133 x134 x135 x136 x137 x138 x139 x140 x141 x142 x143 x144 x145 x146 x147 x148 x149 x150 x151 x152 x153 x154 x155 x156 x157 x158 x159 x160 x161 x162 x163 x164 x165 x166 x167 x168 x169 x170 x171 x172 x173 x174 x175 x176 x177 x178 x179 x180 x181 x182 x183 x184 x185 x186 x187 x188 x189 x190 x191 x192 x193 x194 x195 x196 x197 x198 x199 x200 x201 x202 x203 x204 x205 x206 x207 x208 x209 x210 x211 x212 x213 x214 x215 x216 x217 x218 x219 x220 x221 x222 x223 x224 x225 x226 x227 x228 x229 x230 x231 x232 x233 x234 x235 x236 x237 x238 x239 x240 x241 x242 x243 x244 x245 x246 x247 x248 x249 : Value) {w0 w : World} {tb pb : Nat} {p : Pk} {L : Lk} {K : List Tx} {l : List Thing} {a8 : Option Addr} {n8 cap8 : Nat} {out : List ByteArray} (ho : out.length = n8)
    (h : ∃ a cap b cab, St w0 w (sl 9 1 a8 n8 cap8 (out.map .string) :: bx tb p.cells.toArray 41 :: bx pb (L.rcells a L.queue.length cap b K.length cab) 74 :: sl 80 2 a L.queue.length cap (ftx L.queue) :: sl 80 2 b K.length cab (ftx K) :: l)) (hKl : K.length ≤ 2000000000000) (xs : List ByteArray) (M : Lk) (N : List Tx) (hxs : xs = out) (hM : M = L) (hN : N = K.filter (aheadOf L.got)) :
    Code.wp Try.prog rhearRest (bodyPost Try.prog Try.f30 (StTexts w0 xs false (rk pb M N :: l))) ⟨#[.pointer (some ⟨pb, 0, none⟩), x1, x2, .pointer (some ⟨tb, 0, none⟩), x4, x5, x6, x7, .slice a8 n8 cap8, x9, x10, x11, x12, x13, x14, x15, x16, x17, x18, x19, x20, x21, x22, x23, x24, x25, x26, x27, x28, x29, x30, x31, x32, x33, x34, x35, x36, x37, x38, x39, x40, x41, x42, x43, x44, x45, x46, x47, x48, x49, x50, x51, x52, x53, x54, x55, x56, x57, x58, x59, x60, x61, x62, x63, x64, x65, x66, x67, x68, x69, x70, x71, x72, x73, x74, x75, x76, x77, x78, x79, x80, x81, x82, x83, x84, x85, x86, x87, x88, x89, x90, x91, x92, x93, x94, x95, x96, x97, x98, x99, x100, x101, x102, x103, x104, x105, x106, x107, x108, x109, x110, x111, x112, x113, x114, x115, x116, x117, x118, x119, x120, x121, x122, x123, x124, x125, x126, x127, x128, x129, x130, x131, x132, x133, x134, x135, x136, x137, x138, x139, x140, x141, x142, x143, x144, x145, x146, x147, x148, x149, x150, x151, x152, x153, x154, x155, x156, x157, x158, x159, x160, x161, x162, x163, x164, x165, x166, x167, x168, x169, x170, x171, x172, x173, x174, x175, x176, x177, x178, x179, x180, x181, x182, x183, x184, x185, x186, x187, x188, x189, x190, x191, x192, x193, x194, x195, x196, x197, x198, x199, x200, x201, x202, x203, x204, x205, x206, x207, x208, x209, x210, x211, x212, x213, x214, x215, x216, x217, x218, x219, x220, x221, x222, x223, x224, x225, x226, x227, x228, x229, x230, x231, x232, x233, x234, x235, x236, x237, x238, x239, x240, x241, x242, x243, x244, x245, x246, x247, x248, x249], []⟩ w := by
  obtain ⟨a, cap, b, cab, hS⟩ := h
  obtain ⟨m, hm⟩ : ∃ m, K.length = m := ⟨_, rfl⟩
  rw [hm] at hS hKl
  rw [hxs, hM, hN]
  clear hxs hM hN
  have HS := Lib.hid hS
  have HO := Lib.hid ho
  have HM := Lib.hid hm
  obtain ⟨ip, hip1, hip2, hip3⟩ := info_parts infoX
  have HI := Lib.hid (And.intro hip1 (And.intro hip2 hip3))
  clear hS ho hm hip1 hip2 hip3
  conv => arg 2; whnf
  go_wp2
  go_loopw [11, 12] (fun v i wr => ∃ k : Nat, k ≤ m ∧ i = .int .i64 k ∧ ∃ a9 cap9, v = .slice a9 ((K.take k).filter (aheadOf L.got)).length cap9 ∧ St w0 wr (sl 80 2 a9 ((K.take k).filter (aheadOf L.got)).length cap9 (ftx ((K.take k).filter (aheadOf L.got))) :: sl 9 1 a8 n8 cap8 (out.map .string) :: bx tb p.cells.toArray 41 :: bx pb (L.rcells a L.queue.length cap b m cab) 74 :: sl 80 2 a L.queue.length cap (ftx L.queue) :: sl 80 2 b m cab (ftx K) :: l)) (fun _ i _ => m - (intOf i).toNat)
  case atStart => exact ⟨0, by omega, rfl, none, 0, rfl, HS.out.nilSlice _ _⟩
  case round =>
    clear HS
    obtain ⟨k, hk, rfl, a9, cap9, rfl, hS⟩ := hrel
    obtain ⟨ys, hys⟩ : ∃ ys, (K.take k).filter (aheadOf L.got) = ys := ⟨_, rfl⟩
    have hyl : ys.length ≤ k := by rw [← hys]; exact Nat.le_trans (List.length_filter_le _ _) (List.length_take_le _ _)
    rw [hys] at hS ⊢
    obtain ⟨q, hq⟩ : ∃ q, ys.length = q := ⟨_, rfl⟩
    rw [hq] at hS hyl ⊢
    have HY := Lib.hid hys
    have HQ := Lib.hid hq
    clear hys hq
    have hbp := hS.box 3 rfl
    have c7 := blk_cell hbp 7 (.int .i64 L.got) rfl
    have c8 := blk_cell hbp 8 (.slice b m cab) rfl
    have hpb := heap_lt hbp
    by_cases hlt : k < m
    · have hx : K[k]? = some (K[k]'(HM.out ▸ hlt)) := List.getElem?_eq_getElem _
      obtain ⟨t, htt⟩ : ∃ t, K[k]'(HM.out ▸ hlt) = t := ⟨_, rfl⟩
      rw [htt] at hx
      obtain ⟨bb, o, rfl, e0, e1⟩ := (hS.slice 5 rfl).rd.at2 hx
      have hbl := World.block_lt_of_cell? wr _ e0
      have HE := Lib.hid (rest_step (g := L.got) hx)
      have HS := Lib.hid hS
      clear hx htt hS hbp
      by_cases hn : L.got < t.n
      · have g : decide (L.got < t.n) = true := by simpa using hn
        have HNN := Lib.hid hn
        clear hn
        go_wp2_with fail
        go_quiet (fail)
        have hSn := (HS.out.drewN nq).box1 t.cells.toArray 80
        have HSL := Lib.hid (hSn.slice 1 rfl)
        have HSR := Lib.hid (Sl.new (E := 80) (k := 2) (n := 1) (c := t.cells.toArray) (hSn.box 0 rfl) rfl (by unfold maxLen; omega)).rd
        have HSN := Lib.hid hSn
        clear hSn
        go_wp2_with (at_builtin; refine wpList_append 80 ip _ 2 24 (by kernel_rfl) HI.out.1 HI.out.2.1 HI.out.2.2.1 HI.out.2.2.2 rfl a9 q cap9 (ftx ys) rfl HSL.out (some ⟨wr.heap.size, 0, none⟩) 1 1 t.cells.toArray.toList rfl HSR.out (text_one t) (by unfold maxLen; omega) (by omega) ?_; intro a6 cap6 w6 hS6 hM6 hF6 hN6 hR6; clear hN6 hR6)
        refine ⟨⟨k + 1, by omega, by simp, a6, cap6, ?_⟩, by simp only [intOf]; omega⟩
        have hE : (K.take (k + 1)).filter (aheadOf L.got) = ys ++ [t] := by rw [HE.out, if_pos HNN.out, HY.out]
        rw [hE, List.length_append, HQ.out, ftx_append]
        exact ⟨rfl, (HSN.out.regrow 1 rfl hS6 hM6 hF6).tail⟩
      · have g : decide (L.got < t.n) = false := by simpa using hn
        have HNN := Lib.hid hn
        clear hn
        go_wp2_with fail
        go_quiet (fail)
        go_wp2
        refine ⟨⟨k + 1, by omega, by simp, a9, cap9, ?_⟩, by simp only [intOf]; omega⟩
        have hE : (K.take (k + 1)).filter (aheadOf L.got) = ys := by rw [HE.out, if_neg (by have := HNN.out; omega), HY.out, List.append_nil]
        rw [hE, HQ.out]
        exact ⟨rfl, HS.out.drewN _⟩
    · obtain rfl : k = m := by omega
      have hall : K.filter (aheadOf L.got) = ys := by rw [← HY.out, List.take_of_length_le (by rw [HM.out]; exact Nat.le_refl _)]
      have HALL := Lib.hid hall
      have f8 := blk_free hbp 8
      have HS := Lib.hid hS
      clear hS hbp hall
      go_wp2
      go_ret2
      rw [HALL.out]
      refine ⟨a8, cap8, by rw [HO.out]; rfl, ?_⟩
      rw [HO.out]
      have h1 := HS.out.set 3 rfl 8 (.slice a9 q cap9)
      have h2 : St w0 (wr.setCell ⟨pb, 8, none⟩ (.slice a9 q cap9)) (sl 80 2 a9 q cap9 (ftx ys) :: sl 9 1 a8 n8 cap8 (out.map .string) :: bx tb p.cells.toArray 41 :: bx pb (L.rcells a L.queue.length cap a9 q cap9) 74 :: sl 80 2 a L.queue.length cap (ftx L.queue) :: sl 80 2 b k cab (ftx K) :: l) := h1
      have h3 := (h2.drop 5 rfl).drop 2 rfl
      simp only [List.set_cons_succ, List.set_cons_zero] at h3
      have h4 : St w0 (wr.setCell ⟨pb, 8, none⟩ (.slice a9 q cap9)) (bx pb (L.rcells a L.queue.length cap a9 q cap9) 74 :: sl 80 2 a L.queue.length cap (ftx L.queue) :: sl 80 2 a9 q cap9 (ftx ys) :: sl 9 1 a8 n8 cap8 (out.map .string) :: l) := by
        exact ((h3.perm (List.perm_append_comm_assoc [_, _, _] [_, _] (_ :: l))).perm (List.perm_append_comm_assoc [_, _, _, _] [_, _] l)).tail.tail
      exact (St.rerk L ys (a := a) (cap := cap) (b := a9) (cab := cap9) (by rw [HQ.out]; exact h4)).perm (.swap _ _ _)

/-- The key that is looked for next: one more, or none that is kept. -/
theorem next_key' {f : Int → Option ByteArray} {g : Int} (h0 : 0 ≤ g) (h1 : g ≤ 9223372036854775807) (h : ∀ k s, f k = some s → 0 < k ∧ k ≤ 9223372036854775807) :
    ∃ y, IntKind.i64.wrap (g + 1) = y ∧ f y = f (g + 1) := by
  by_cases hg : g + 1 ≤ 9223372036854775807
  · exact ⟨g + 1, IntWalk.i64_in _ (by omega), rfl⟩
  · refine ⟨-9223372036854775808, by rw [IntKind.wrap_i64]; omega, ?_⟩
    have e1 : f (-9223372036854775808) = none := by
      cases hf : f (-9223372036854775808) with
      | none => rfl
      | some s => have := (h _ s hf).1; omega
    have e2 : f (g + 1) = none := by
      cases hf : f (g + 1) with
      | none => rfl
      | some s => have := (h _ s hf).2; omega
    rw [e1, e2]

/-- Between the rounds. -/
structure RlSt (w0 : World) (tb pb : Nat) (p : Pk) (L : Lk) (K : List Tx) (l : List Thing) (m : Nat) (g : Int) (out : List ByteArray) (a8 : Option Addr) (n8 cap8 : Nat) (wr : World) : Prop where
  len : out.length = n8
  goes : rdrain 64 K L.got = ((rdrain m K g).1, out ++ (rdrain m K g).2)
  g0 : 0 ≤ g
  g1 : g ≤ 9223372036854775807
  far : g + m = L.got + 64
  few : n8 + m ≤ 64
  lies : ∃ a cap b cab, St w0 wr (sl 9 1 a8 n8 cap8 (out.map .string) :: bx tb p.cells.toArray 41 :: bx pb (Lk.rcells { L with got := g } a L.queue.length cap b K.length cab) 74 :: sl 80 2 a L.queue.length cap (ftx L.queue) :: sl 80 2 b K.length cab (ftx K) :: l)

set_option maxRecDepth 100000 in
set_option maxHeartbeats 4000000 in
theorem rhear_loop (x1 x2 x4 x5 x6 x7 x8 x9 x10 x11 x12 x13 x14 x15 x16 x17 x18 x19 x20 x21 x22 x23 x24 x25 x26 x27 x28 x29 x30 x31 x32 x33 x34 x35 x36 x37 x38 x39 x40 x41 x42 x43 x44 x45 x46 x47 x48 x49 x50 x51 x52 x53 x54 x55 x56 x57 x58 x59 x60 x61 x62 x63 x64 x65 x66 x67 x68 x69 x70 x71 x72 x73 x74 x75 x76 x77 x78 x79 x80 x81 x82 x83 x84 x85 x86 x87 x88 x89 x90 x91 x92 x93 x94 x95 x96 x97 x98 x99 x100 x101 x102 x103 x104 x105 x106 x107 x108 x109 x110 x111 x112 x113 x114 x115 x116 x117 x118 x119 x120 x121 x122 x123 x124 x125 x126 x127 x128 x129 x130 x131 x132 x133 x134 x135 x136 x137 x138 x139 x140 x141 x142 x143 x144 x145 x146 x147 x148 x149 x150 x151 x152 x153 x154 x155 x156 x157 x158 x159 x160 x161 x162 x163 x164 x165 x166 x167 x168 x169 x170 x171 x172 x173 x174 x175 x176 x177 x178 x179 x180 x181 x182 x183 x184 x185 x186 x187 x188 x189 x190 x191 x192 x193 x194 x195 x196 x197 x198 x199 x200 x201 x202 x203 x204 x205 x206 x207 x208 x209 x210 x211 x212 x213 x214 x215 x216 x217 x218 x219 x220 x221 x222 x223 x224 x225 x226 x227 x228 x229 x230 x231 x232 x233 x234 x235 x236 x237 x238 x239 x240 x241 x242 x243 x244 x245 x246 x247 x248 x249 : Value) {w0 w : World} {tb pb : Nat} {p : Pk} {L : Lk} {K : List Tx} {l : List Thing} (h : HearR w0 tb pb p L K l w) (hn : near L.got K) (hKl : K.length ≤ 2000000000000) (xs : List ByteArray) (M : Lk) (N : List Tx)
    (hxs : xs = (rdrain 64 K L.got).2) (hM : M = { L with got := (rdrain 64 K L.got).1 }) (hN : N = K.filter (aheadOf (rdrain 64 K L.got).1)) :
    Code.wp Try.prog rhearLoop (bodyPost Try.prog Try.f30 (StTexts w0 xs false (rk pb M N :: l))) ⟨#[.pointer (some ⟨pb, 0, none⟩), x1, x2, .pointer (some ⟨tb, 0, none⟩), x4, x5, x6, x7, x8, x9, x10, x11, x12, x13, x14, x15, x16, x17, x18, x19, x20, x21, x22, x23, x24, x25, x26, x27, x28, x29, x30, x31, x32, x33, x34, x35, x36, x37, x38, x39, x40, x41, x42, x43, x44, x45, x46, x47, x48, x49, x50, x51, x52, x53, x54, x55, x56, x57, x58, x59, x60, x61, x62, x63, x64, x65, x66, x67, x68, x69, x70, x71, x72, x73, x74, x75, x76, x77, x78, x79, x80, x81, x82, x83, x84, x85, x86, x87, x88, x89, x90, x91, x92, x93, x94, x95, x96, x97, x98, x99, x100, x101, x102, x103, x104, x105, x106, x107, x108, x109, x110, x111, x112, x113, x114, x115, x116, x117, x118, x119, x120, x121, x122, x123, x124, x125, x126, x127, x128, x129, x130, x131, x132, x133, x134, x135, x136, x137, x138, x139, x140, x141, x142, x143, x144, x145, x146, x147, x148, x149, x150, x151, x152, x153, x154, x155, x156, x157, x158, x159, x160, x161, x162, x163, x164, x165, x166, x167, x168, x169, x170, x171, x172, x173, x174, x175, x176, x177, x178, x179, x180, x181, x182, x183, x184, x185, x186, x187, x188, x189, x190, x191, x192, x193, x194, x195, x196, x197, x198, x199, x200, x201, x202, x203, x204, x205, x206, x207, x208, x209, x210, x211, x212, x213, x214, x215, x216, x217, x218, x219, x220, x221, x222, x223, x224, x225, x226, x227, x228, x229, x230, x231, x232, x233, x234, x235, x236, x237, x238, x239, x240, x241, x242, x243, x244, x245, x246, x247, x248, x249], []⟩ w := by
  have HT := Lib.hid h
  have HX := Lib.hid hxs
  have HMM := Lib.hid hM
  have HNN := Lib.hid hN
  have hg0 := hn.1
  have hg1 := hn.2.1
  have HK := Lib.hid hn.2.2
  clear h hn hxs hM hN
  obtain ⟨a, cap, b, cab, hS⟩ := HT.out
  have hbp := hS.box 1 rfl
  have c7 := blk_cell hbp 7 (.int .i64 L.got) rfl
  have C8 := Lib.hid (blk_cell hbp 8 (.slice b K.length cab) rfl)
  have hpb := heap_lt hbp
  have HSK := Lib.hid (hS.slice 3 rfl)
  obtain ⟨y, hwr, hfy⟩ := next_key' (f := rlook K) hg0 hg1 (fun k s hk => by have := HK.out k s hk; exact ⟨by omega, this.2.2⟩)
  have HFY := Lib.hid hfy
  clear hS hbp hfy
  conv => arg 2; whnf
  go_wp2_with fail
  refine (rkeeps_any pb b K.length cab K rfl _ C8.out HSK.out.rd y).mono ?_
  rw [HFY.out]
  rintro e w1 ⟨rfl, rfl⟩
  clear c7 C8 hpb HSK hwr HFY
  go_upto_block 2 with (fail)
  go_cut [8] (fun v wx => ∃ g out a8 n8 cap8, v = .slice a8 n8 cap8 ∧ rdrain 64 K L.got = (g, out) ∧ out.length = n8 ∧ ∃ a cap b cab, St w0 wx (sl 9 1 a8 n8 cap8 (out.map .string) :: bx tb p.cells.toArray 41 :: bx pb (Lk.rcells { L with got := g } a L.queue.length cap b K.length cab) 74 :: sl 80 2 a L.queue.length cap (ftx L.queue) :: sl 80 2 b K.length cab (ftx K) :: l))
  case first =>
    go_wp2_with fail
    go_loopg [8, 9, 10] 64 (fun m v8 v9 v10 wr => ∃ g out a8 n8 cap8, v8 = .slice a8 n8 cap8 ∧ v9 = lookS (rlook K (g + 1)) ∧ v10 = .bool (rlook K (g + 1)).isSome ∧ RlSt w0 tb pb p L K l m g out a8 n8 cap8 wr)
    case atStart =>
      obtain ⟨a, cap, b, cab, hS⟩ := HT.out
      exact ⟨L.got, [], none, 0, 0, rfl, rfl, rfl, rfl, by rw [List.nil_append], hg0, hg1, by omega, by omega, a, cap, b, cab, hS.nilSlice _ _⟩
    case round =>
      clear HT
      obtain ⟨g, out, a8, n8, cap8, rfl, rfl, rfl, hL⟩ := hrel
      cases hfg : rlook K (g + 1) with
      | none =>
        have HL := Lib.hid hL
        have HF := Lib.hid hfg
        clear hL hfg
        simp only [Option.isSome_none]
        go_wp2_with fail
        go_meet
        refine ⟨g, out, a8, n8, cap8, rfl, ?_, HL.out.len, HL.out.lies⟩
        have h := HL.out.goes
        rw [rdrain_none HF.out, List.append_nil] at h
        exact h
      | some s =>
        have hnear := HK.out _ s hfg
        have hm1 : 1 ≤ gk := by have := hL.far; omega
        obtain ⟨a, cap, b, cab, hS⟩ := hL.lies
        have hn8 := hL.few
        have hg0' := hL.g0
        have hbp := hS.box 2 rfl
        have c7 := blk_cell hbp 7 (.int .i64 g) rfl
        have f7 := blk_free hbp 7
        have hpb := heap_lt hbp
        have hwr : IntKind.i64.wrap (g + 1) = g + 1 := IntWalk.i64_in _ (by omega)
        have hS1 := (hS.set 2 rfl 7 (.int .i64 (g + 1))).box1 #[.string s] 9
        rw [World.size_setCell] at hS1
        obtain ⟨ip, hip1, hip2, hip3⟩ := info_parts infoS
        have HI := Lib.hid (And.intro hip1 (And.intro hip2 hip3))
        have HSL := Lib.hid (hS1.slice 1 rfl)
        have HSR := Lib.hid (Sl.new (E := 9) (k := 1) (n := 1) (c := #[.string s]) (hS1.box 0 rfl) rfl (by unfold maxLen; omega)).rd
        have HS1 := Lib.hid hS1
        have HF := Lib.hid hfg
        have HL := Lib.hid hL
        clear hS hbp hS1 hL hfg hip1 hip2 hip3
        simp only [Option.isSome_some, lookS, Option.getD_some]
        go_upto_region 27 with (at_builtin; refine wpList_append 9 ip _ 1 16 (by kernel_rfl) HI.out.1 HI.out.2.1 HI.out.2.2.1 HI.out.2.2.2 rfl a8 n8 cap8 (out.map .string) rfl HSL.out (some ⟨wr.heap.size, 0, none⟩) 1 1 [.string s] rfl HSR.out (fun u hu => by rw [List.mem_singleton.1 hu]; rfl) (by unfold maxLen; omega) (by omega) ?_; intro a9 cap9 w9 hS9 hM9 hF9 hN9 hR9; clear hN9 hR9)
        have hSA := (HS1.out.regrow 1 rfl hS9 hM9 hF9).tail
        have hb9 := hSA.box 2 rfl
        have c7 := blk_cell hb9 7 (.int .i64 (g + 1)) rfl
        have C8 := Lib.hid (blk_cell hb9 8 (.slice b K.length cab) rfl)
        have hpb := heap_lt hb9
        have HSK := Lib.hid (hSA.slice 4 rfl)
        obtain ⟨y, hwr, hfy⟩ := next_key' (f := rlook K) (g := g + 1) (by omega) (by omega) (fun k s hk => by have := HK.out k s hk; exact ⟨by omega, this.2.2⟩)
        have HFY := Lib.hid hfy
        have HSA := Lib.hid hSA
        clear hfy hb9 hSA hS9 hM9 hF9
        go_wp2_with fail
        refine (rkeeps_any pb b K.length cab K rfl _ C8.out HSK.out.rd y).mono ?_
        rw [HFY.out]
        rintro e w1 ⟨rfl, rfl⟩
        go_wp2
        go_roundg (gk - 1)
        case measure => omega
        case rel =>
          have hgo := HL.out.goes
          have hfa := HL.out.far
          rw [show gk = (gk - 1) + 1 by omega, rdrain_some HF.out] at hgo
          refine ⟨g + 1, out ++ [s], a9, n8 + 1, cap9, rfl, rfl, rfl, ?_, ?_, by omega, by omega, by omega, by omega, a, cap, b, cab, ?_⟩
          · rw [List.length_append, HL.out.len]; rfl
          · rw [hgo, List.append_assoc]; rfl
          · rw [List.map_append]; exact HSA.out
  case rest =>
    clear HT
    obtain ⟨g, out, a8, n8, cap8, rfl, hgo, hlen, hS⟩ := hcut
    have hx := HX.out
    have hm := HMM.out
    have hn := HNN.out
    rw [hgo] at hx hm hn
    (try apply_assumption)
    exact rhear_rest _ _ _ _ _ _ _ _ _ _ _ _ _ _ _ _ _ _ _ _ _ _ _ _ _ _ _ _ _ _ _ _ _ _ _ _ _ _ _ _ _ _ _ _ _ _ _ _ _ _ _ _ _ _ _ _ _ _ _ _ _ _ _ _ _ _ _ _ _ _ _ _ _ _ _ _ _ _ _ _ _ _ _ _ _ _ _ _ _ _ _ _ _ _ _ _ _ _ _ _ _ _ _ _ _ _ _ _ _ _ _ _ _ _ _ _ _ _ _ _ _ _ _ _ _ _ _ _ _ _ _ _ _ _ _ _ _ _ _ _ _ _ _ _ _ _ _ _ _ _ _ _ _ _ _ _ _ _ _ _ _ _ _ _ _ _ _ _ _ _ _ _ _ _ _ _ _ _ _ _ _ _ _ _ _ _ _ _ _ _ _ _ _ _ _ _ _ _ _ _ _ _ _ _ _ _ _ _ _ _ _ _ _ _ _ _ _ _ _ _ _ _ _ _ _ _ _ _ _ _ _ _ _ _ _ _ _ _ _ _ _ _ _ _ _ _ _ hlen hS hKl _ _ _ hx hm hn
end Go.Proofs.Ytoeokdachojhjaa
