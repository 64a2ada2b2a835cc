/-
  The document's link: Hear.
  Conditions: what is kept is ahead and not far ('near').
-/
import Derived.Test.YtoeokdachojhjaaRefE
namespace Go.Proofs.Ytoeokdachojhjaa
open Go.RowKit
set_option linter.unusedSectionVars false
set_option linter.unusedSimpArgs false
set_option linter.unusedVariables false

def Lk.rheard (L : Lk) (K : List Tx) (p : Pk) : List ByteArray := if L.deaf p then [] else if L.alien p then [] else if L.older p then [] else if L.newer p then [] else (L.racked p).rout K p
def Lk.rhear (L : Lk) (K : List Tx) (p : Pk) : Lk := if L.deaf p then L else if L.alien p then { L with owes := L.owes || decide (p.e < L.life) } else if L.older p then L else if L.newer p then { L with over := true } else (L.racked p).rlink K p
def Lk.rhearK (L : Lk) (K : List Tx) (p : Pk) : List Tx := if L.deaf p then K else if L.alien p then K else if L.older p then K else if L.newer p then K else (L.racked p).rkept K p

set_option maxRecDepth 100000 in
theorem rhear_tail (x1 x2 x4 x5 x6 x7 x8 x9 x10 x11 x12 x13 x14 x15 x16 x17 x18 x19 x20 x21 x22 x23 x24 x25 x26 x27 x28 x29 x30 x31 x32 x33 x34 x35 x36 x37 x38 x39 x40 x41 x42 x43 x44 x45 x46 x47 x48 x49 x50 x51 x52 x53 x54 x55 x56 x57 x58 x59 x60 x61 x62 x63 x64 x65 x66 x67 x68 x69 x70 x71 x72 x73 x74 x75 x76 x77 x78 x79 x80 x81 x82 x83 x84 x85 x86 x87 x88 x89 x90 x91 x92 x93 x94 x95 x96 x97 x98 x99 x100 x101 x102 x103 x104 x105 x106 x107 x108 x109 x110 x111 x112 x113 x114 x115 x116 x117 x118 x119 x120 x121 x122 x123 x124 x125 x126 x127 x128 x129 x130 x131 x132 x133 x134 x135 x136 x137 x138 x139 x140 x141 x142 x143 x144 x145 x146 x147 x148 x149 x150 x151 x152 x153 x154 x155 x156 x157 x158 x159 x160 x161 x162 x163 x164 x165 x166 x167 x168 x169 x170 x171 x172 x173 x174 x175 x176 x177 x178 x179 x180 x181 x182 x183 x184 x185 x186 x187 x188 x189 x190 x191 x192 x193 x194 x195 x196 x197 x198 x199 x200 x201 x202 x203 x204 x205 x206 x207 x208 x209 x210 x211 x212 x213 x214 x215 x216 x217 x218 x219 x220 x221 x222 x223 x224 x225 x226 x227 x228 x229 x230 x231 x232 x233 x234 x235 x236 x237 x238 x239 x240 x241 x242 x243 x244 x245 x246 x247 x248 x249 : Value) {w0 w : World} {tb pb : Nat} {p : Pk} {L : Lk} {K : List Tx} {l : List Thing} (h : HearR w0 tb pb p L K l w) (hn : near L.got K) (hKl : K.length < 2000000000000) (hf0 : -9223372036854775808 ≤ p.f) (hf1 : p.f ≤ 9223372036854775807) (xs : List ByteArray) (b : Bool) (M : Lk) (N : List Tx)
    (hxs : xs = (L.racked p).rout K p) (hb : b = false) (hM : M = (L.racked p).rlink K p) (hN : N = (L.racked p).rkept K p) :
    Code.wp Try.prog rhearTail (bodyPost Try.prog Try.f30 (StTexts w0 xs b (rk pb M N :: l))) ⟨#[.pointer (some ⟨pb, 0, none⟩), x1, x2, .pointer (some ⟨tb, 0, none⟩), x4, x5, x6, x7, x8, x9, x10, x11, x12, x13, x14, x15, x16, x17, x18, x19, x20, x21, x22, x23, x24, x25, x26, x27, x28, x29, x30, x31, x32, x33, x34, x35, x36, x37, x38, x39, x40, x41, x42, x43, x44, x45, x46, x47, x48, x49, x50, x51, x52, x53, x54, x55, x56, x57, x58, x59, x60, x61, x62, x63, x64, x65, x66, x67, x68, x69, x70, x71, x72, x73, x74, x75, x76, x77, x78, x79, x80, x81, x82, x83, x84, x85, x86, x87, x88, x89, x90, x91, x92, x93, x94, x95, x96, x97, x98, x99, x100, x101, x102, x103, x104, x105, x106, x107, x108, x109, x110, x111, x112, x113, x114, x115, x116, x117, x118, x119, x120, x121, x122, x123, x124, x125, x126, x127, x128, x129, x130, x131, x132, x133, x134, x135, x136, x137, x138, x139, x140, x141, x142, x143, x144, x145, x146, x147, x148, x149, x150, x151, x152, x153, x154, x155, x156, x157, x158, x159, x160, x161, x162, x163, x164, x165, x166, x167, x168, x169, x170, x171, x172, x173, x174, x175, x176, x177, x178, x179, x180, x181, x182, x183, x184, x185, x186, x187, x188, x189, x190, x191, x192, x193, x194, x195, x196, x197, x198, x199, x200, x201, x202, x203, x204, x205, x206, x207, x208, x209, x210, x211, x212, x213, x214, x215, x216, x217, x218, x219, x220, x221, x222, x223, x224, x225, x226, x227, x228, x229, x230, x231, x232, x233, x234, x235, x236, x237, x238, x239, x240, x241, x242, x243, x244, x245, x246, x247, x248, x249], []⟩ w := by
  cases h1 : (p.e == L.life) with
  | true => exact rhear_tail1 _ _ _ _ _ _ _ _ _ _ _ _ _ _ _ _ _ _ _ _ _ _ _ _ _ _ _ _ _ _ _ _ _ _ _ _ _ _ _ _ _ _ _ _ _ _ _ _ _ _ _ _ _ _ _ _ _ _ _ _ _ _ _ _ _ _ _ _ _ _ _ _ _ _ _ _ _ _ _ _ _ _ _ _ _ _ _ _ _ _ _ _ _ _ _ _ _ _ _ _ _ _ _ _ _ _ _ _ _ _ _ _ _ _ _ _ _ _ _ _ _ _ _ _ _ _ _ _ _ _ _ _ _ _ _ _ _ _ _ _ _ _ _ _ _ _ _ _ _ _ _ _ _ _ _ _ _ _ _ _ _ _ _ _ _ _ _ _ _ _ _ _ _ _ _ _ _ _ _ _ _ _ _ _ _ _ _ _ _ _ _ _ _ _ _ _ _ _ _ _ _ _ _ _ _ _ _ _ _ _ _ _ _ _ _ _ _ _ _ _ _ _ _ _ _ _ _ _ _ _ _ _ _ _ _ _ _ _ _ _ _ _ _ _ _ _ _ _ h hn hKl hf0 hf1 xs b M N hxs hb hM hN h1
  | false => exact rhear_tail0 _ _ _ _ _ _ _ _ _ _ _ _ _ _ _ _ _ _ _ _ _ _ _ _ _ _ _ _ _ _ _ _ _ _ _ _ _ _ _ _ _ _ _ _ _ _ _ _ _ _ _ _ _ _ _ _ _ _ _ _ _ _ _ _ _ _ _ _ _ _ _ _ _ _ _ _ _ _ _ _ _ _ _ _ _ _ _ _ _ _ _ _ _ _ _ _ _ _ _ _ _ _ _ _ _ _ _ _ _ _ _ _ _ _ _ _ _ _ _ _ _ _ _ _ _ _ _ _ _ _ _ _ _ _ _ _ _ _ _ _ _ _ _ _ _ _ _ _ _ _ _ _ _ _ _ _ _ _ _ _ _ _ _ _ _ _ _ _ _ _ _ _ _ _ _ _ _ _ _ _ _ _ _ _ _ _ _ _ _ _ _ _ _ _ _ _ _ _ _ _ _ _ _ _ _ _ _ _ _ _ _ _ _ _ _ _ _ _ _ _ _ _ _ _ _ _ _ _ _ _ _ _ _ _ _ _ _ _ _ _ _ _ _ _ _ _ _ _ h hn hKl hf0 hf1 xs b M N hxs hb hM hN h1

set_option maxRecDepth 100000 in
set_option maxHeartbeats 4000000 in
theorem rHear_d0 {w0 w : World} {pb : Nat} {L : Lk} {K : List Tx} {l : List Thing} (h : St w0 w (rk pb L K :: l)) (p : Pk) (h0 : L.over = true):
    Calls Try.prog 30 #[.pointer (some ⟨pb, 0, none⟩), p.agg] w (StTexts w0 (L.rheard K p) (L.ends p) (rk pb (L.rhear K p) (L.rhearK K p) :: l)) := by
  have HD : Hid (L.deaf p = true) := by show _ = _; simp only [Lk.deaf, h0, Bool.true_or, Bool.or_true, Bool.false_or, Bool.or_false]
  simp only [Pk.agg]
  have hT : HearR w0 w.heap.size pb p L K l (w.alloc (.cells p.cells.toArray 41)) := by
    obtain ⟨a, cap, b, cab, hS⟩ := h.unrk
    exact ⟨a, cap, b, cab, hS.box1 p.cells.toArray 41⟩
  have HT := Lib.hid hT
  clear h hT
  go_enter Try.func30, Try.ntmps30
  go_upto_region 1 with (fail)
  change Code.wp _ _ _ _ (w.alloc (.cells p.cells.toArray 41))
  generalize w.alloc (.cells p.cells.toArray 41) = W at HT ⊢
  generalize w.heap.size = tb at HT ⊢
  obtain ⟨a, cap, b, cab, hS⟩ := HT.out
  have hbp := hS.box 1 rfl
  have hpk := hS.box 0 rfl
  have c0 := blk_cell hbp 0 (.int .i64 L.me) rfl
  have c1 := blk_cell hbp 1 (.int .i64 L.peer) rfl
  have c2 := blk_cell hbp 2 (.int .i64 L.life) rfl
  have c3 := blk_cell hbp 3 (.int .i64 L.far) rfl
  have c9 := blk_cell hbp 9 (.bool L.owes) rfl
  have c10 := blk_cell hbp 10 (.bool L.over) rfl
  have p0 := blk_cell hpk 0 (.int .i64 p.a) rfl
  have p1 := blk_cell hpk 1 (.int .i64 p.b) rfl
  have p2 := blk_cell hpk 2 (.int .i64 p.c) rfl
  have p3 := blk_cell hpk 3 (.int .i64 p.d) rfl
  have p4 := blk_cell hpk 4 (.int .i64 p.e) rfl
  have hpb := heap_lt hbp
  have htb := heap_lt hpk
  have f9 := blk_free hbp 9
  have f10 := blk_free hbp 10
  have HS := Lib.hid hS
  clear hS hbp hpk
  rw [h0] at c10
  clear h0
  go_quiet (fail)
  go_wp2
  go_ret2
  have hd := HD.out
  unfold Lk.rheard Lk.ends Lk.rhear Lk.rhearK
  rw [if_pos hd, if_pos hd, if_pos hd, if_pos hd]
  exact ⟨none, 0, rfl, (HT.out.link.drewN _).nilSlice _ _⟩

set_option maxRecDepth 100000 in
set_option maxHeartbeats 4000000 in
theorem rHear_d1 {w0 w : World} {pb : Nat} {L : Lk} {K : List Tx} {l : List Thing} (h : St w0 w (rk pb L K :: l)) (p : Pk) (h0 : L.over = false) (h1 : (p.a != L.peer) = true):
    Calls Try.prog 30 #[.pointer (some ⟨pb, 0, none⟩), p.agg] w (StTexts w0 (L.rheard K p) (L.ends p) (rk pb (L.rhear K p) (L.rhearK K p) :: l)) := by
  have HD : Hid (L.deaf p = true) := by show _ = _; simp only [Lk.deaf, h0, h1, Bool.true_or, Bool.or_true, Bool.false_or, Bool.or_false]
  simp only [Pk.agg]
  have hT : HearR w0 w.heap.size pb p L K l (w.alloc (.cells p.cells.toArray 41)) := by
    obtain ⟨a, cap, b, cab, hS⟩ := h.unrk
    exact ⟨a, cap, b, cab, hS.box1 p.cells.toArray 41⟩
  have HT := Lib.hid hT
  clear h hT
  go_enter Try.func30, Try.ntmps30
  go_upto_region 1 with (fail)
  change Code.wp _ _ _ _ (w.alloc (.cells p.cells.toArray 41))
  generalize w.alloc (.cells p.cells.toArray 41) = W at HT ⊢
  generalize w.heap.size = tb at HT ⊢
  obtain ⟨a, cap, b, cab, hS⟩ := HT.out
  have hbp := hS.box 1 rfl
  have hpk := hS.box 0 rfl
  have c0 := blk_cell hbp 0 (.int .i64 L.me) rfl
  have c1 := blk_cell hbp 1 (.int .i64 L.peer) rfl
  have c2 := blk_cell hbp 2 (.int .i64 L.life) rfl
  have c3 := blk_cell hbp 3 (.int .i64 L.far) rfl
  have c9 := blk_cell hbp 9 (.bool L.owes) rfl
  have c10 := blk_cell hbp 10 (.bool L.over) rfl
  have p0 := blk_cell hpk 0 (.int .i64 p.a) rfl
  have p1 := blk_cell hpk 1 (.int .i64 p.b) rfl
  have p2 := blk_cell hpk 2 (.int .i64 p.c) rfl
  have p3 := blk_cell hpk 3 (.int .i64 p.d) rfl
  have p4 := blk_cell hpk 4 (.int .i64 p.e) rfl
  have hpb := heap_lt hbp
  have htb := heap_lt hpk
  have f9 := blk_free hbp 9
  have f10 := blk_free hbp 10
  have HS := Lib.hid hS
  clear hS hbp hpk
  rw [h0] at c10
  clear h0
  go_quiet (fail)
  go_wp2
  go_ret2
  have hd := HD.out
  unfold Lk.rheard Lk.ends Lk.rhear Lk.rhearK
  rw [if_pos hd, if_pos hd, if_pos hd, if_pos hd]
  exact ⟨none, 0, rfl, (HT.out.link.drewN _).nilSlice _ _⟩

set_option maxRecDepth 100000 in
set_option maxHeartbeats 4000000 in
theorem rHear_d2 {w0 w : World} {pb : Nat} {L : Lk} {K : List Tx} {l : List Thing} (h : St w0 w (rk pb L K :: l)) (p : Pk) (h0 : L.over = false) (h1 : (p.a != L.peer) = false) (h2 : (p.b != L.me) = true):
    Calls Try.prog 30 #[.pointer (some ⟨pb, 0, none⟩), p.agg] w (StTexts w0 (L.rheard K p) (L.ends p) (rk pb (L.rhear K p) (L.rhearK K p) :: l)) := by
  have HD : Hid (L.deaf p = true) := by show _ = _; simp only [Lk.deaf, h0, h1, h2, Bool.true_or, Bool.or_true, Bool.false_or, Bool.or_false]
  simp only [Pk.agg]
  have hT : HearR w0 w.heap.size pb p L K l (w.alloc (.cells p.cells.toArray 41)) := by
    obtain ⟨a, cap, b, cab, hS⟩ := h.unrk
    exact ⟨a, cap, b, cab, hS.box1 p.cells.toArray 41⟩
  have HT := Lib.hid hT
  clear h hT
  go_enter Try.func30, Try.ntmps30
  go_upto_region 1 with (fail)
  change Code.wp _ _ _ _ (w.alloc (.cells p.cells.toArray 41))
  generalize w.alloc (.cells p.cells.toArray 41) = W at HT ⊢
  generalize w.heap.size = tb at HT ⊢
  obtain ⟨a, cap, b, cab, hS⟩ := HT.out
  have hbp := hS.box 1 rfl
  have hpk := hS.box 0 rfl
  have c0 := blk_cell hbp 0 (.int .i64 L.me) rfl
  have c1 := blk_cell hbp 1 (.int .i64 L.peer) rfl
  have c2 := blk_cell hbp 2 (.int .i64 L.life) rfl
  have c3 := blk_cell hbp 3 (.int .i64 L.far) rfl
  have c9 := blk_cell hbp 9 (.bool L.owes) rfl
  have c10 := blk_cell hbp 10 (.bool L.over) rfl
  have p0 := blk_cell hpk 0 (.int .i64 p.a) rfl
  have p1 := blk_cell hpk 1 (.int .i64 p.b) rfl
  have p2 := blk_cell hpk 2 (.int .i64 p.c) rfl
  have p3 := blk_cell hpk 3 (.int .i64 p.d) rfl
  have p4 := blk_cell hpk 4 (.int .i64 p.e) rfl
  have hpb := heap_lt hbp
  have htb := heap_lt hpk
  have f9 := blk_free hbp 9
  have f10 := blk_free hbp 10
  have HS := Lib.hid hS
  clear hS hbp hpk
  rw [h0] at c10
  clear h0
  go_quiet (fail)
  go_wp2
  go_ret2
  have hd := HD.out
  unfold Lk.rheard Lk.ends Lk.rhear Lk.rhearK
  rw [if_pos hd, if_pos hd, if_pos hd, if_pos hd]
  exact ⟨none, 0, rfl, (HT.out.link.drewN _).nilSlice _ _⟩

set_option maxRecDepth 100000 in
set_option maxHeartbeats 4000000 in
theorem rHear_d3 {w0 w : World} {pb : Nat} {L : Lk} {K : List Tx} {l : List Thing} (h : St w0 w (rk pb L K :: l)) (p : Pk) (h0 : L.over = false) (h1 : (p.a != L.peer) = false) (h2 : (p.b != L.me) = false) (h3 : (p.c != 2) = true):
    Calls Try.prog 30 #[.pointer (some ⟨pb, 0, none⟩), p.agg] w (StTexts w0 (L.rheard K p) (L.ends p) (rk pb (L.rhear K p) (L.rhearK K p) :: l)) := by
  have HD : Hid (L.deaf p = true) := by show _ = _; simp only [Lk.deaf, h0, h1, h2, h3, Bool.true_or, Bool.or_true, Bool.false_or, Bool.or_false]
  simp only [Pk.agg]
  have hT : HearR w0 w.heap.size pb p L K l (w.alloc (.cells p.cells.toArray 41)) := by
    obtain ⟨a, cap, b, cab, hS⟩ := h.unrk
    exact ⟨a, cap, b, cab, hS.box1 p.cells.toArray 41⟩
  have HT := Lib.hid hT
  clear h hT
  go_enter Try.func30, Try.ntmps30
  go_upto_region 1 with (fail)
  change Code.wp _ _ _ _ (w.alloc (.cells p.cells.toArray 41))
  generalize w.alloc (.cells p.cells.toArray 41) = W at HT ⊢
  generalize w.heap.size = tb at HT ⊢
  obtain ⟨a, cap, b, cab, hS⟩ := HT.out
  have hbp := hS.box 1 rfl
  have hpk := hS.box 0 rfl
  have c0 := blk_cell hbp 0 (.int .i64 L.me) rfl
  have c1 := blk_cell hbp 1 (.int .i64 L.peer) rfl
  have c2 := blk_cell hbp 2 (.int .i64 L.life) rfl
  have c3 := blk_cell hbp 3 (.int .i64 L.far) rfl
  have c9 := blk_cell hbp 9 (.bool L.owes) rfl
  have c10 := blk_cell hbp 10 (.bool L.over) rfl
  have p0 := blk_cell hpk 0 (.int .i64 p.a) rfl
  have p1 := blk_cell hpk 1 (.int .i64 p.b) rfl
  have p2 := blk_cell hpk 2 (.int .i64 p.c) rfl
  have p3 := blk_cell hpk 3 (.int .i64 p.d) rfl
  have p4 := blk_cell hpk 4 (.int .i64 p.e) rfl
  have hpb := heap_lt hbp
  have htb := heap_lt hpk
  have f9 := blk_free hbp 9
  have f10 := blk_free hbp 10
  have HS := Lib.hid hS
  clear hS hbp hpk
  rw [h0] at c10
  clear h0
  go_quiet (fail)
  go_wp2
  go_ret2
  have hd := HD.out
  unfold Lk.rheard Lk.ends Lk.rhear Lk.rhearK
  rw [if_pos hd, if_pos hd, if_pos hd, if_pos hd]
  exact ⟨none, 0, rfl, (HT.out.link.drewN _).nilSlice _ _⟩

set_option maxRecDepth 100000 in
set_option maxHeartbeats 4000000 in
theorem rHear_d4 {w0 w : World} {pb : Nat} {L : Lk} {K : List Tx} {l : List Thing} (h : St w0 w (rk pb L K :: l)) (p : Pk) (h0 : L.over = false) (h1 : (p.a != L.peer) = false) (h2 : (p.b != L.me) = false) (h3 : (p.c != 2) = false) (h4 : decide (p.d < 1) = true):
    Calls Try.prog 30 #[.pointer (some ⟨pb, 0, none⟩), p.agg] w (StTexts w0 (L.rheard K p) (L.ends p) (rk pb (L.rhear K p) (L.rhearK K p) :: l)) := by
  have HD : Hid (L.deaf p = true) := by show _ = _; simp only [Lk.deaf, h0, h1, h2, h3, h4, Bool.true_or, Bool.or_true, Bool.false_or, Bool.or_false]
  simp only [Pk.agg]
  have hT : HearR w0 w.heap.size pb p L K l (w.alloc (.cells p.cells.toArray 41)) := by
    obtain ⟨a, cap, b, cab, hS⟩ := h.unrk
    exact ⟨a, cap, b, cab, hS.box1 p.cells.toArray 41⟩
  have HT := Lib.hid hT
  clear h hT
  go_enter Try.func30, Try.ntmps30
  go_upto_region 1 with (fail)
  change Code.wp _ _ _ _ (w.alloc (.cells p.cells.toArray 41))
  generalize w.alloc (.cells p.cells.toArray 41) = W at HT ⊢
  generalize w.heap.size = tb at HT ⊢
  obtain ⟨a, cap, b, cab, hS⟩ := HT.out
  have hbp := hS.box 1 rfl
  have hpk := hS.box 0 rfl
  have c0 := blk_cell hbp 0 (.int .i64 L.me) rfl
  have c1 := blk_cell hbp 1 (.int .i64 L.peer) rfl
  have c2 := blk_cell hbp 2 (.int .i64 L.life) rfl
  have c3 := blk_cell hbp 3 (.int .i64 L.far) rfl
  have c9 := blk_cell hbp 9 (.bool L.owes) rfl
  have c10 := blk_cell hbp 10 (.bool L.over) rfl
  have p0 := blk_cell hpk 0 (.int .i64 p.a) rfl
  have p1 := blk_cell hpk 1 (.int .i64 p.b) rfl
  have p2 := blk_cell hpk 2 (.int .i64 p.c) rfl
  have p3 := blk_cell hpk 3 (.int .i64 p.d) rfl
  have p4 := blk_cell hpk 4 (.int .i64 p.e) rfl
  have hpb := heap_lt hbp
  have htb := heap_lt hpk
  have f9 := blk_free hbp 9
  have f10 := blk_free hbp 10
  have HS := Lib.hid hS
  clear hS hbp hpk
  rw [h0] at c10
  clear h0
  go_quiet (fail)
  go_wp2
  go_ret2
  have hd := HD.out
  unfold Lk.rheard Lk.ends Lk.rhear Lk.rhearK
  rw [if_pos hd, if_pos hd, if_pos hd, if_pos hd]
  exact ⟨none, 0, rfl, (HT.out.link.drewN _).nilSlice _ _⟩

theorem rHear_deaf {w0 w : World} {pb : Nat} {L : Lk} {K : List Tx} {l : List Thing} (h : St w0 w (rk pb L K :: l)) (p : Pk) (hd : L.deaf p = true) :
    Calls Try.prog 30 #[.pointer (some ⟨pb, 0, none⟩), p.agg] w (StTexts w0 (L.rheard K p) (L.ends p) (rk pb (L.rhear K p) (L.rhearK K p) :: l)) := by
  cases h0 : L.over with
  | true => exact rHear_d0 h p h0
  | false =>
    cases h1 : (p.a != L.peer) with
    | true => exact rHear_d1 h p h0 h1
    | false =>
      cases h2 : (p.b != L.me) with
      | true => exact rHear_d2 h p h0 h1 h2
      | false =>
        cases h3 : (p.c != 2) with
        | true => exact rHear_d3 h p h0 h1 h2 h3
        | false =>
          cases h4 : decide (p.d < 1) with
          | true => exact rHear_d4 h p h0 h1 h2 h3 h4
          | false => rw [Lk.deaf, h0, h1, h2, h3, h4] at hd; simp at hd

set_option maxRecDepth 100000 in
set_option maxHeartbeats 4000000 in
theorem rHear_alien_true {w0 w : World} {pb : Nat} {L : Lk} {K : List Tx} {l : List Thing} (h : St w0 w (rk pb L K :: l)) (p : Pk) (hd : L.deaf p = false) (ha : L.alien p = true) (how : L.owes = true) :
    Calls Try.prog 30 #[.pointer (some ⟨pb, 0, none⟩), p.agg] w (StTexts w0 (L.rheard K p) (L.ends p) (rk pb (L.rhear K p) (L.rhearK K p) :: l)) := by
  have HD := Lib.hid hd
  have HA := Lib.hid ha
  have HOW := Lib.hid how
  have ha' : (p.e != 0) = true ∧ (p.e != L.life) = true := by simpa only [Lk.alien, Bool.and_eq_true] using ha
  obtain ⟨g7, g8⟩ := ha'
  clear hd ha how
  simp only [Pk.agg]
  have hT : HearR w0 w.heap.size pb p L K l (w.alloc (.cells p.cells.toArray 41)) := by
    obtain ⟨a, cap, b, cab, hS⟩ := h.unrk
    exact ⟨a, cap, b, cab, hS.box1 p.cells.toArray 41⟩
  have HT := Lib.hid hT
  clear h hT
  go_enter Try.func30, Try.ntmps30
  go_upto_region 1 with (fail)
  change Code.wp _ _ _ _ (w.alloc (.cells p.cells.toArray 41))
  generalize w.alloc (.cells p.cells.toArray 41) = W at HT ⊢
  generalize w.heap.size = tb at HT ⊢
  obtain ⟨a, cap, b, cab, hS⟩ := HT.out
  have hbp := hS.box 1 rfl
  have hpk := hS.box 0 rfl
  have c0 := blk_cell hbp 0 (.int .i64 L.me) rfl
  have c1 := blk_cell hbp 1 (.int .i64 L.peer) rfl
  have c2 := blk_cell hbp 2 (.int .i64 L.life) rfl
  have c3 := blk_cell hbp 3 (.int .i64 L.far) rfl
  have c9 := blk_cell hbp 9 (.bool L.owes) rfl
  have c10 := blk_cell hbp 10 (.bool L.over) rfl
  have p0 := blk_cell hpk 0 (.int .i64 p.a) rfl
  have p1 := blk_cell hpk 1 (.int .i64 p.b) rfl
  have p2 := blk_cell hpk 2 (.int .i64 p.c) rfl
  have p3 := blk_cell hpk 3 (.int .i64 p.d) rfl
  have p4 := blk_cell hpk 4 (.int .i64 p.e) rfl
  have hpb := heap_lt hbp
  have htb := heap_lt hpk
  have f9 := blk_free hbp 9
  have f10 := blk_free hbp 10
  have HS := Lib.hid hS
  clear hS hbp hpk
  obtain ⟨h1, g2, g3, g4, g5⟩ := Lk.not_deaf HD.out
  rw [h1] at c10
  clear h1
  rw [HOW.out] at c9
  go_quiet (fail)
  go_wp2
  go_quiet (fail)
  go_upto_region 4 with (fail)
  go_cut [] (fun wx => HearR w0 tb pb p { L with owes := L.owes || decide (p.e < L.life) } K l wx)
  case first =>
    go_region
    all_goals
      (try go_wp2_with fail)
      go_meet
      rw [HOW.out]
      exact ⟨a, cap, b, cab, by first | exact ((HS.out.drewN _).set 1 rfl 9 (.bool true)).drew | exact (((HS.out.drewN _).drewN _).set 1 rfl 9 (.bool true)).drew | exact (HS.out.set 1 rfl 9 (.bool true)).drewN _⟩
  case rest =>
    go_wp2
    go_ret2
    have hd := HD.out
    have ha := HA.out
    unfold Lk.rheard Lk.ends Lk.rhear Lk.rhearK
    rw [if_neg (by rw [hd]; simp), if_pos ha, if_neg (by rw [hd]; simp), if_pos ha, if_neg (by rw [hd]; simp), if_pos ha, if_neg (by rw [hd]; simp), if_pos ha]
    exact ⟨none, 0, rfl, hcut.link.nilSlice _ _⟩

set_option maxRecDepth 100000 in
set_option maxHeartbeats 4000000 in
theorem rHear_alien_false {w0 w : World} {pb : Nat} {L : Lk} {K : List Tx} {l : List Thing} (h : St w0 w (rk pb L K :: l)) (p : Pk) (hd : L.deaf p = false) (ha : L.alien p = true) (how : L.owes = false) :
    Calls Try.prog 30 #[.pointer (some ⟨pb, 0, none⟩), p.agg] w (StTexts w0 (L.rheard K p) (L.ends p) (rk pb (L.rhear K p) (L.rhearK K p) :: l)) := by
  have HD := Lib.hid hd
  have HA := Lib.hid ha
  have HOW := Lib.hid how
  have ha' : (p.e != 0) = true ∧ (p.e != L.life) = true := by simpa only [Lk.alien, Bool.and_eq_true] using ha
  obtain ⟨g7, g8⟩ := ha'
  clear hd ha how
  simp only [Pk.agg]
  have hT : HearR w0 w.heap.size pb p L K l (w.alloc (.cells p.cells.toArray 41)) := by
    obtain ⟨a, cap, b, cab, hS⟩ := h.unrk
    exact ⟨a, cap, b, cab, hS.box1 p.cells.toArray 41⟩
  have HT := Lib.hid hT
  clear h hT
  go_enter Try.func30, Try.ntmps30
  go_upto_region 1 with (fail)
  change Code.wp _ _ _ _ (w.alloc (.cells p.cells.toArray 41))
  generalize w.alloc (.cells p.cells.toArray 41) = W at HT ⊢
  generalize w.heap.size = tb at HT ⊢
  obtain ⟨a, cap, b, cab, hS⟩ := HT.out
  have hbp := hS.box 1 rfl
  have hpk := hS.box 0 rfl
  have c0 := blk_cell hbp 0 (.int .i64 L.me) rfl
  have c1 := blk_cell hbp 1 (.int .i64 L.peer) rfl
  have c2 := blk_cell hbp 2 (.int .i64 L.life) rfl
  have c3 := blk_cell hbp 3 (.int .i64 L.far) rfl
  have c9 := blk_cell hbp 9 (.bool L.owes) rfl
  have c10 := blk_cell hbp 10 (.bool L.over) rfl
  have p0 := blk_cell hpk 0 (.int .i64 p.a) rfl
  have p1 := blk_cell hpk 1 (.int .i64 p.b) rfl
  have p2 := blk_cell hpk 2 (.int .i64 p.c) rfl
  have p3 := blk_cell hpk 3 (.int .i64 p.d) rfl
  have p4 := blk_cell hpk 4 (.int .i64 p.e) rfl
  have hpb := heap_lt hbp
  have htb := heap_lt hpk
  have f9 := blk_free hbp 9
  have f10 := blk_free hbp 10
  have HS := Lib.hid hS
  clear hS hbp hpk
  obtain ⟨h1, g2, g3, g4, g5⟩ := Lk.not_deaf HD.out
  rw [h1] at c10
  clear h1
  rw [HOW.out] at c9
  go_quiet (fail)
  go_wp2
  go_quiet (fail)
  go_upto_region 4 with (fail)
  go_cut [] (fun wx => HearR w0 tb pb p { L with owes := L.owes || decide (p.e < L.life) } K l wx)
  case first =>
    go_region
    all_goals
      (try go_wp2_with fail)
      go_meet
      rw [HOW.out]
      exact ⟨a, cap, b, cab, by first | exact ((HS.out.drewN _).set 1 rfl 9 (.bool (decide (p.e < L.life)))).drew | exact (((HS.out.drewN _).drewN _).set 1 rfl 9 (.bool (decide (p.e < L.life)))).drew | exact (HS.out.set 1 rfl 9 (.bool (decide (p.e < L.life)))).drewN _⟩
  case rest =>
    go_wp2
    go_ret2
    have hd := HD.out
    have ha := HA.out
    unfold Lk.rheard Lk.ends Lk.rhear Lk.rhearK
    rw [if_neg (by rw [hd]; simp), if_pos ha, if_neg (by rw [hd]; simp), if_pos ha, if_neg (by rw [hd]; simp), if_pos ha, if_neg (by rw [hd]; simp), if_pos ha]
    exact ⟨none, 0, rfl, hcut.link.nilSlice _ _⟩

theorem rHear_alien {w0 w : World} {pb : Nat} {L : Lk} {K : List Tx} {l : List Thing} (h : St w0 w (rk pb L K :: l)) (p : Pk) (hd : L.deaf p = false) (ha : L.alien p = true) :
    Calls Try.prog 30 #[.pointer (some ⟨pb, 0, none⟩), p.agg] w (StTexts w0 (L.rheard K p) (L.ends p) (rk pb (L.rhear K p) (L.rhearK K p) :: l)) := by
  cases how : L.owes with
  | true => exact rHear_alien_true h p hd ha how
  | false => exact rHear_alien_false h p hd ha how

set_option maxRecDepth 100000 in
set_option maxHeartbeats 4000000 in
theorem rHear_old_a {w0 w : World} {pb : Nat} {L : Lk} {K : List Tx} {l : List Thing} (h : St w0 w (rk pb L K :: l)) (p : Pk) (hd : L.deaf p = false) (h7 : (p.e != 0) = false) (ho : L.older p = true) :
    Calls Try.prog 30 #[.pointer (some ⟨pb, 0, none⟩), p.agg] w (StTexts w0 (L.rheard K p) (L.ends p) (rk pb (L.rhear K p) (L.rhearK K p) :: l)) := by
  have HD := Lib.hid hd
  have HA : Hid (L.alien p = false) := by show _ = _; simp only [Lk.alien, h7, Bool.false_and, Bool.and_false]
  clear hd
  have HO := Lib.hid ho
  have h11 : decide (p.d < L.far) = true := ho
  clear ho
  simp only [Pk.agg]
  have hT : HearR w0 w.heap.size pb p L K l (w.alloc (.cells p.cells.toArray 41)) := by
    obtain ⟨a, cap, b, cab, hS⟩ := h.unrk
    exact ⟨a, cap, b, cab, hS.box1 p.cells.toArray 41⟩
  have HT := Lib.hid hT
  clear h hT
  go_enter Try.func30, Try.ntmps30
  go_upto_region 1 with (fail)
  change Code.wp _ _ _ _ (w.alloc (.cells p.cells.toArray 41))
  generalize w.alloc (.cells p.cells.toArray 41) = W at HT ⊢
  generalize w.heap.size = tb at HT ⊢
  obtain ⟨a, cap, b, cab, hS⟩ := HT.out
  have hbp := hS.box 1 rfl
  have hpk := hS.box 0 rfl
  have c0 := blk_cell hbp 0 (.int .i64 L.me) rfl
  have c1 := blk_cell hbp 1 (.int .i64 L.peer) rfl
  have c2 := blk_cell hbp 2 (.int .i64 L.life) rfl
  have c3 := blk_cell hbp 3 (.int .i64 L.far) rfl
  have c9 := blk_cell hbp 9 (.bool L.owes) rfl
  have c10 := blk_cell hbp 10 (.bool L.over) rfl
  have p0 := blk_cell hpk 0 (.int .i64 p.a) rfl
  have p1 := blk_cell hpk 1 (.int .i64 p.b) rfl
  have p2 := blk_cell hpk 2 (.int .i64 p.c) rfl
  have p3 := blk_cell hpk 3 (.int .i64 p.d) rfl
  have p4 := blk_cell hpk 4 (.int .i64 p.e) rfl
  have hpb := heap_lt hbp
  have htb := heap_lt hpk
  have f9 := blk_free hbp 9
  have f10 := blk_free hbp 10
  have HS := Lib.hid hS
  clear hS hbp hpk
  obtain ⟨h1, g2, g3, g4, g5⟩ := Lk.not_deaf HD.out
  rw [h1] at c10
  clear h1
  go_quiet (fail)
  go_wp2
  go_quiet (fail)
  go_wp2
  go_quiet (fail)
  go_wp2
  go_ret2
  have hd := HD.out
  have ha := HA.out
  have ho := HO.out
  unfold Lk.rheard Lk.ends Lk.rhear Lk.rhearK
  rw [if_neg (by rw [hd]; simp), if_neg (by rw [ha]; simp), if_pos ho, if_neg (by rw [hd]; simp), if_neg (by rw [ha]; simp), if_pos ho, if_neg (by rw [hd]; simp), if_neg (by rw [ha]; simp), if_pos ho, if_neg (by rw [hd]; simp), if_neg (by rw [ha]; simp), if_pos ho]
  exact ⟨none, 0, rfl, (((HT.out.link.drewN _).drewN _).drewN _).nilSlice _ _⟩

set_option maxRecDepth 100000 in
set_option maxHeartbeats 4000000 in
theorem rHear_new_a {w0 w : World} {pb : Nat} {L : Lk} {K : List Tx} {l : List Thing} (h : St w0 w (rk pb L K :: l)) (p : Pk) (hd : L.deaf p = false) (h7 : (p.e != 0) = false) (ho : L.older p = false) (h9 : decide (L.far < p.d) = true) (h10 : (L.far != 0) = true) :
    Calls Try.prog 30 #[.pointer (some ⟨pb, 0, none⟩), p.agg] w (StTexts w0 (L.rheard K p) (L.ends p) (rk pb (L.rhear K p) (L.rhearK K p) :: l)) := by
  have HD := Lib.hid hd
  have HA : Hid (L.alien p = false) := by show _ = _; simp only [Lk.alien, h7, Bool.false_and, Bool.and_false]
  clear hd
  have HO := Lib.hid ho
  have HN : Hid (L.newer p = true) := by show _ = _; rw [Lk.newer, h9, h10]; rfl
  have h11 : decide (p.d < L.far) = false := ho
  clear ho
  simp only [Pk.agg]
  have hT : HearR w0 w.heap.size pb p L K l (w.alloc (.cells p.cells.toArray 41)) := by
    obtain ⟨a, cap, b, cab, hS⟩ := h.unrk
    exact ⟨a, cap, b, cab, hS.box1 p.cells.toArray 41⟩
  have HT := Lib.hid hT
  clear h hT
  go_enter Try.func30, Try.ntmps30
  go_upto_region 1 with (fail)
  change Code.wp _ _ _ _ (w.alloc (.cells p.cells.toArray 41))
  generalize w.alloc (.cells p.cells.toArray 41) = W at HT ⊢
  generalize w.heap.size = tb at HT ⊢
  obtain ⟨a, cap, b, cab, hS⟩ := HT.out
  have hbp := hS.box 1 rfl
  have hpk := hS.box 0 rfl
  have c0 := blk_cell hbp 0 (.int .i64 L.me) rfl
  have c1 := blk_cell hbp 1 (.int .i64 L.peer) rfl
  have c2 := blk_cell hbp 2 (.int .i64 L.life) rfl
  have c3 := blk_cell hbp 3 (.int .i64 L.far) rfl
  have c9 := blk_cell hbp 9 (.bool L.owes) rfl
  have c10 := blk_cell hbp 10 (.bool L.over) rfl
  have p0 := blk_cell hpk 0 (.int .i64 p.a) rfl
  have p1 := blk_cell hpk 1 (.int .i64 p.b) rfl
  have p2 := blk_cell hpk 2 (.int .i64 p.c) rfl
  have p3 := blk_cell hpk 3 (.int .i64 p.d) rfl
  have p4 := blk_cell hpk 4 (.int .i64 p.e) rfl
  have hpb := heap_lt hbp
  have htb := heap_lt hpk
  have f9 := blk_free hbp 9
  have f10 := blk_free hbp 10
  have HS := Lib.hid hS
  clear hS hbp hpk
  obtain ⟨h1, g2, g3, g4, g5⟩ := Lk.not_deaf HD.out
  rw [h1] at c10
  clear h1
  go_quiet (fail)
  go_wp2
  go_quiet (fail)
  go_wp2
  go_quiet (fail)
  go_wp2
  go_quiet (fail)
  go_wp2
  go_ret2
  have hd := HD.out
  have ha := HA.out
  have ho := HO.out
  have hn := HN.out
  unfold Lk.rheard Lk.ends Lk.rhear Lk.rhearK
  rw [if_neg (by rw [hd]; simp), if_neg (by rw [ha]; simp), if_neg (by rw [ho]; simp), if_pos hn, if_neg (by rw [hd]; simp), if_neg (by rw [ha]; simp), if_neg (by rw [ho]; simp), if_pos hn, if_neg (by rw [hd]; simp), if_neg (by rw [ha]; simp), if_neg (by rw [ho]; simp), if_pos hn, if_neg (by rw [hd]; simp), if_neg (by rw [ha]; simp), if_neg (by rw [ho]; simp), if_pos hn]
  exact ⟨none, 0, rfl, (St.rerk { L with over := true } K (a := a) (cap := cap) (b := b) (cab := cab) ((HS.out.drewN _).set 1 rfl 10 (.bool true)).tail).nilSlice _ _⟩

set_option maxRecDepth 100000 in
set_option maxHeartbeats 4000000 in
theorem rHear_go_aa {w0 w : World} {pb : Nat} {L : Lk} {K : List Tx} {l : List Thing} (h : St w0 w (rk pb L K :: l)) (p : Pk) (hok : near L.got K) (hKl : K.length < 2000000000000) (hf0 : -9223372036854775808 ≤ p.f) (hf1 : p.f ≤ 9223372036854775807) (hd : L.deaf p = false) (h7 : (p.e != 0) = false) (ho : L.older p = false) (h9 : decide (L.far < p.d) = false) :
    Calls Try.prog 30 #[.pointer (some ⟨pb, 0, none⟩), p.agg] w (StTexts w0 (L.rheard K p) (L.ends p) (rk pb (L.rhear K p) (L.rhearK K p) :: l)) := by
  have HD := Lib.hid hd
  have HA : Hid (L.alien p = false) := by show _ = _; simp only [Lk.alien, h7, Bool.false_and, Bool.and_false]
  clear hd
  have HO := Lib.hid ho
  have HN : Hid (L.newer p = false) := by show _ = _; rw [Lk.newer, h9]; rfl
  have h11 : decide (p.d < L.far) = false := ho
  clear ho
  simp only [Pk.agg]
  have hT : HearR w0 w.heap.size pb p L K l (w.alloc (.cells p.cells.toArray 41)) := by
    obtain ⟨a, cap, b, cab, hS⟩ := h.unrk
    exact ⟨a, cap, b, cab, hS.box1 p.cells.toArray 41⟩
  have HT := Lib.hid hT
  clear h hT
  go_enter Try.func30, Try.ntmps30
  go_upto_region 1 with (fail)
  change Code.wp _ _ _ _ (w.alloc (.cells p.cells.toArray 41))
  generalize w.alloc (.cells p.cells.toArray 41) = W at HT ⊢
  generalize w.heap.size = tb at HT ⊢
  obtain ⟨a, cap, b, cab, hS⟩ := HT.out
  have hbp := hS.box 1 rfl
  have hpk := hS.box 0 rfl
  have c0 := blk_cell hbp 0 (.int .i64 L.me) rfl
  have c1 := blk_cell hbp 1 (.int .i64 L.peer) rfl
  have c2 := blk_cell hbp 2 (.int .i64 L.life) rfl
  have c3 := blk_cell hbp 3 (.int .i64 L.far) rfl
  have c9 := blk_cell hbp 9 (.bool L.owes) rfl
  have c10 := blk_cell hbp 10 (.bool L.over) rfl
  have p0 := blk_cell hpk 0 (.int .i64 p.a) rfl
  have p1 := blk_cell hpk 1 (.int .i64 p.b) rfl
  have p2 := blk_cell hpk 2 (.int .i64 p.c) rfl
  have p3 := blk_cell hpk 3 (.int .i64 p.d) rfl
  have p4 := blk_cell hpk 4 (.int .i64 p.e) rfl
  have hpb := heap_lt hbp
  have htb := heap_lt hpk
  have f9 := blk_free hbp 9
  have f10 := blk_free hbp 10
  have HS := Lib.hid hS
  clear hS hbp hpk
  obtain ⟨h1, g2, g3, g4, g5⟩ := Lk.not_deaf HD.out
  rw [h1] at c10
  clear h1
  go_quiet (fail)
  go_wp2
  go_quiet (fail)
  go_wp2
  go_quiet (fail)
  go_wp2
  go_quiet (fail)
  go_upto_if 93 with (fail)
  go_cut [] (fun wx => HearR w0 tb pb p L K l wx)
  case first =>
    go_wp2_with fail
    go_meet
    exact (((HT.out.drewN _).drewN _).drewN _).drewN _
  case rest =>
    have hd := HD.out
    have ha := HA.out
    have ho := HO.out
    have hn := HN.out
    (try apply_assumption)
    exact rhear_tail _ _ _ _ _ _ _ _ _ _ _ _ _ _ _ _ _ _ _ _ _ _ _ _ _ _ _ _ _ _ _ _ _ _ _ _ _ _ _ _ _ _ _ _ _ _ _ _ _ _ _ _ _ _ _ _ _ _ _ _ _ _ _ _ _ _ _ _ _ _ _ _ _ _ _ _ _ _ _ _ _ _ _ _ _ _ _ _ _ _ _ _ _ _ _ _ _ _ _ _ _ _ _ _ _ _ _ _ _ _ _ _ _ _ _ _ _ _ _ _ _ _ _ _ _ _ _ _ _ _ _ _ _ _ _ _ _ _ _ _ _ _ _ _ _ _ _ _ _ _ _ _ _ _ _ _ _ _ _ _ _ _ _ _ _ _ _ _ _ _ _ _ _ _ _ _ _ _ _ _ _ _ _ _ _ _ _ _ _ _ _ _ _ _ _ _ _ _ _ _ _ _ _ _ _ _ _ _ _ _ _ _ _ _ _ _ _ _ _ _ _ _ _ _ _ _ _ _ _ _ _ _ _ _ _ _ _ _ _ _ _ _ _ _ _ _ _ _ hcut hok hKl hf0 hf1 _ _ _ _
      (by unfold Lk.rheard; rw [if_neg (by rw [hd]; simp), if_neg (by rw [ha]; simp), if_neg (by rw [ho]; simp), if_neg (by rw [hn]; simp)])
      (by unfold Lk.ends; rw [if_neg (by rw [hd]; simp), if_neg (by rw [ha]; simp), if_neg (by rw [ho]; simp), if_neg (by rw [hn]; simp)])
      (by unfold Lk.rhear; rw [if_neg (by rw [hd]; simp), if_neg (by rw [ha]; simp), if_neg (by rw [ho]; simp), if_neg (by rw [hn]; simp)])
      (by unfold Lk.rhearK; rw [if_neg (by rw [hd]; simp), if_neg (by rw [ha]; simp), if_neg (by rw [ho]; simp), if_neg (by rw [hn]; simp)])

set_option maxRecDepth 100000 in
set_option maxHeartbeats 4000000 in
theorem rHear_go_ab {w0 w : World} {pb : Nat} {L : Lk} {K : List Tx} {l : List Thing} (h : St w0 w (rk pb L K :: l)) (p : Pk) (hok : near L.got K) (hKl : K.length < 2000000000000) (hf0 : -9223372036854775808 ≤ p.f) (hf1 : p.f ≤ 9223372036854775807) (hd : L.deaf p = false) (h7 : (p.e != 0) = false) (ho : L.older p = false) (h9 : decide (L.far < p.d) = true) (h10 : (L.far != 0) = false) :
    Calls Try.prog 30 #[.pointer (some ⟨pb, 0, none⟩), p.agg] w (StTexts w0 (L.rheard K p) (L.ends p) (rk pb (L.rhear K p) (L.rhearK K p) :: l)) := by
  have HD := Lib.hid hd
  have HA : Hid (L.alien p = false) := by show _ = _; simp only [Lk.alien, h7, Bool.false_and, Bool.and_false]
  clear hd
  have HO := Lib.hid ho
  have HN : Hid (L.newer p = false) := by show _ = _; rw [Lk.newer, h9, h10]; rfl
  have h11 : decide (p.d < L.far) = false := ho
  clear ho
  simp only [Pk.agg]
  have hT : HearR w0 w.heap.size pb p L K l (w.alloc (.cells p.cells.toArray 41)) := by
    obtain ⟨a, cap, b, cab, hS⟩ := h.unrk
    exact ⟨a, cap, b, cab, hS.box1 p.cells.toArray 41⟩
  have HT := Lib.hid hT
  clear h hT
  go_enter Try.func30, Try.ntmps30
  go_upto_region 1 with (fail)
  change Code.wp _ _ _ _ (w.alloc (.cells p.cells.toArray 41))
  generalize w.alloc (.cells p.cells.toArray 41) = W at HT ⊢
  generalize w.heap.size = tb at HT ⊢
  obtain ⟨a, cap, b, cab, hS⟩ := HT.out
  have hbp := hS.box 1 rfl
  have hpk := hS.box 0 rfl
  have c0 := blk_cell hbp 0 (.int .i64 L.me) rfl
  have c1 := blk_cell hbp 1 (.int .i64 L.peer) rfl
  have c2 := blk_cell hbp 2 (.int .i64 L.life) rfl
  have c3 := blk_cell hbp 3 (.int .i64 L.far) rfl
  have c9 := blk_cell hbp 9 (.bool L.owes) rfl
  have c10 := blk_cell hbp 10 (.bool L.over) rfl
  have p0 := blk_cell hpk 0 (.int .i64 p.a) rfl
  have p1 := blk_cell hpk 1 (.int .i64 p.b) rfl
  have p2 := blk_cell hpk 2 (.int .i64 p.c) rfl
  have p3 := blk_cell hpk 3 (.int .i64 p.d) rfl
  have p4 := blk_cell hpk 4 (.int .i64 p.e) rfl
  have hpb := heap_lt hbp
  have htb := heap_lt hpk
  have f9 := blk_free hbp 9
  have f10 := blk_free hbp 10
  have HS := Lib.hid hS
  clear hS hbp hpk
  obtain ⟨h1, g2, g3, g4, g5⟩ := Lk.not_deaf HD.out
  rw [h1] at c10
  clear h1
  go_quiet (fail)
  go_wp2
  go_quiet (fail)
  go_wp2
  go_quiet (fail)
  go_wp2
  go_quiet (fail)
  go_upto_if 93 with (fail)
  go_cut [] (fun wx => HearR w0 tb pb p L K l wx)
  case first =>
    go_wp2_with fail
    go_meet
    exact (((HT.out.drewN _).drewN _).drewN _).drewN _
  case rest =>
    have hd := HD.out
    have ha := HA.out
    have ho := HO.out
    have hn := HN.out
    (try apply_assumption)
    exact rhear_tail _ _ _ _ _ _ _ _ _ _ _ _ _ _ _ _ _ _ _ _ _ _ _ _ _ _ _ _ _ _ _ _ _ _ _ _ _ _ _ _ _ _ _ _ _ _ _ _ _ _ _ _ _ _ _ _ _ _ _ _ _ _ _ _ _ _ _ _ _ _ _ _ _ _ _ _ _ _ _ _ _ _ _ _ _ _ _ _ _ _ _ _ _ _ _ _ _ _ _ _ _ _ _ _ _ _ _ _ _ _ _ _ _ _ _ _ _ _ _ _ _ _ _ _ _ _ _ _ _ _ _ _ _ _ _ _ _ _ _ _ _ _ _ _ _ _ _ _ _ _ _ _ _ _ _ _ _ _ _ _ _ _ _ _ _ _ _ _ _ _ _ _ _ _ _ _ _ _ _ _ _ _ _ _ _ _ _ _ _ _ _ _ _ _ _ _ _ _ _ _ _ _ _ _ _ _ _ _ _ _ _ _ _ _ _ _ _ _ _ _ _ _ _ _ _ _ _ _ _ _ _ _ _ _ _ _ _ _ _ _ _ _ _ _ _ _ _ _ hcut hok hKl hf0 hf1 _ _ _ _
      (by unfold Lk.rheard; rw [if_neg (by rw [hd]; simp), if_neg (by rw [ha]; simp), if_neg (by rw [ho]; simp), if_neg (by rw [hn]; simp)])
      (by unfold Lk.ends; rw [if_neg (by rw [hd]; simp), if_neg (by rw [ha]; simp), if_neg (by rw [ho]; simp), if_neg (by rw [hn]; simp)])
      (by unfold Lk.rhear; rw [if_neg (by rw [hd]; simp), if_neg (by rw [ha]; simp), if_neg (by rw [ho]; simp), if_neg (by rw [hn]; simp)])
      (by unfold Lk.rhearK; rw [if_neg (by rw [hd]; simp), if_neg (by rw [ha]; simp), if_neg (by rw [ho]; simp), if_neg (by rw [hn]; simp)])

set_option maxRecDepth 100000 in
set_option maxHeartbeats 4000000 in
theorem rHear_old_b {w0 w : World} {pb : Nat} {L : Lk} {K : List Tx} {l : List Thing} (h : St w0 w (rk pb L K :: l)) (p : Pk) (hd : L.deaf p = false) (h7 : (p.e != 0) = true) (h8 : (p.e != L.life) = false) (ho : L.older p = true) :
    Calls Try.prog 30 #[.pointer (some ⟨pb, 0, none⟩), p.agg] w (StTexts w0 (L.rheard K p) (L.ends p) (rk pb (L.rhear K p) (L.rhearK K p) :: l)) := by
  have HD := Lib.hid hd
  have HA : Hid (L.alien p = false) := by show _ = _; simp only [Lk.alien, h7, h8, Bool.false_and, Bool.and_false]
  clear hd
  have HO := Lib.hid ho
  have h11 : decide (p.d < L.far) = true := ho
  clear ho
  simp only [Pk.agg]
  have hT : HearR w0 w.heap.size pb p L K l (w.alloc (.cells p.cells.toArray 41)) := by
    obtain ⟨a, cap, b, cab, hS⟩ := h.unrk
    exact ⟨a, cap, b, cab, hS.box1 p.cells.toArray 41⟩
  have HT := Lib.hid hT
  clear h hT
  go_enter Try.func30, Try.ntmps30
  go_upto_region 1 with (fail)
  change Code.wp _ _ _ _ (w.alloc (.cells p.cells.toArray 41))
  generalize w.alloc (.cells p.cells.toArray 41) = W at HT ⊢
  generalize w.heap.size = tb at HT ⊢
  obtain ⟨a, cap, b, cab, hS⟩ := HT.out
  have hbp := hS.box 1 rfl
  have hpk := hS.box 0 rfl
  have c0 := blk_cell hbp 0 (.int .i64 L.me) rfl
  have c1 := blk_cell hbp 1 (.int .i64 L.peer) rfl
  have c2 := blk_cell hbp 2 (.int .i64 L.life) rfl
  have c3 := blk_cell hbp 3 (.int .i64 L.far) rfl
  have c9 := blk_cell hbp 9 (.bool L.owes) rfl
  have c10 := blk_cell hbp 10 (.bool L.over) rfl
  have p0 := blk_cell hpk 0 (.int .i64 p.a) rfl
  have p1 := blk_cell hpk 1 (.int .i64 p.b) rfl
  have p2 := blk_cell hpk 2 (.int .i64 p.c) rfl
  have p3 := blk_cell hpk 3 (.int .i64 p.d) rfl
  have p4 := blk_cell hpk 4 (.int .i64 p.e) rfl
  have hpb := heap_lt hbp
  have htb := heap_lt hpk
  have f9 := blk_free hbp 9
  have f10 := blk_free hbp 10
  have HS := Lib.hid hS
  clear hS hbp hpk
  obtain ⟨h1, g2, g3, g4, g5⟩ := Lk.not_deaf HD.out
  rw [h1] at c10
  clear h1
  go_quiet (fail)
  go_wp2
  go_quiet (fail)
  go_wp2
  go_quiet (fail)
  go_wp2
  go_ret2
  have hd := HD.out
  have ha := HA.out
  have ho := HO.out
  unfold Lk.rheard Lk.ends Lk.rhear Lk.rhearK
  rw [if_neg (by rw [hd]; simp), if_neg (by rw [ha]; simp), if_pos ho, if_neg (by rw [hd]; simp), if_neg (by rw [ha]; simp), if_pos ho, if_neg (by rw [hd]; simp), if_neg (by rw [ha]; simp), if_pos ho, if_neg (by rw [hd]; simp), if_neg (by rw [ha]; simp), if_pos ho]
  exact ⟨none, 0, rfl, (((HT.out.link.drewN _).drewN _).drewN _).nilSlice _ _⟩

set_option maxRecDepth 100000 in
set_option maxHeartbeats 4000000 in
theorem rHear_new_b {w0 w : World} {pb : Nat} {L : Lk} {K : List Tx} {l : List Thing} (h : St w0 w (rk pb L K :: l)) (p : Pk) (hd : L.deaf p = false) (h7 : (p.e != 0) = true) (h8 : (p.e != L.life) = false) (ho : L.older p = false) (h9 : decide (L.far < p.d) = true) (h10 : (L.far != 0) = true) :
    Calls Try.prog 30 #[.pointer (some ⟨pb, 0, none⟩), p.agg] w (StTexts w0 (L.rheard K p) (L.ends p) (rk pb (L.rhear K p) (L.rhearK K p) :: l)) := by
  have HD := Lib.hid hd
  have HA : Hid (L.alien p = false) := by show _ = _; simp only [Lk.alien, h7, h8, Bool.false_and, Bool.and_false]
  clear hd
  have HO := Lib.hid ho
  have HN : Hid (L.newer p = true) := by show _ = _; rw [Lk.newer, h9, h10]; rfl
  have h11 : decide (p.d < L.far) = false := ho
  clear ho
  simp only [Pk.agg]
  have hT : HearR w0 w.heap.size pb p L K l (w.alloc (.cells p.cells.toArray 41)) := by
    obtain ⟨a, cap, b, cab, hS⟩ := h.unrk
    exact ⟨a, cap, b, cab, hS.box1 p.cells.toArray 41⟩
  have HT := Lib.hid hT
  clear h hT
  go_enter Try.func30, Try.ntmps30
  go_upto_region 1 with (fail)
  change Code.wp _ _ _ _ (w.alloc (.cells p.cells.toArray 41))
  generalize w.alloc (.cells p.cells.toArray 41) = W at HT ⊢
  generalize w.heap.size = tb at HT ⊢
  obtain ⟨a, cap, b, cab, hS⟩ := HT.out
  have hbp := hS.box 1 rfl
  have hpk := hS.box 0 rfl
  have c0 := blk_cell hbp 0 (.int .i64 L.me) rfl
  have c1 := blk_cell hbp 1 (.int .i64 L.peer) rfl
  have c2 := blk_cell hbp 2 (.int .i64 L.life) rfl
  have c3 := blk_cell hbp 3 (.int .i64 L.far) rfl
  have c9 := blk_cell hbp 9 (.bool L.owes) rfl
  have c10 := blk_cell hbp 10 (.bool L.over) rfl
  have p0 := blk_cell hpk 0 (.int .i64 p.a) rfl
  have p1 := blk_cell hpk 1 (.int .i64 p.b) rfl
  have p2 := blk_cell hpk 2 (.int .i64 p.c) rfl
  have p3 := blk_cell hpk 3 (.int .i64 p.d) rfl
  have p4 := blk_cell hpk 4 (.int .i64 p.e) rfl
  have hpb := heap_lt hbp
  have htb := heap_lt hpk
  have f9 := blk_free hbp 9
  have f10 := blk_free hbp 10
  have HS := Lib.hid hS
  clear hS hbp hpk
  obtain ⟨h1, g2, g3, g4, g5⟩ := Lk.not_deaf HD.out
  rw [h1] at c10
  clear h1
  go_quiet (fail)
  go_wp2
  go_quiet (fail)
  go_wp2
  go_quiet (fail)
  go_wp2
  go_quiet (fail)
  go_wp2
  go_ret2
  have hd := HD.out
  have ha := HA.out
  have ho := HO.out
  have hn := HN.out
  unfold Lk.rheard Lk.ends Lk.rhear Lk.rhearK
  rw [if_neg (by rw [hd]; simp), if_neg (by rw [ha]; simp), if_neg (by rw [ho]; simp), if_pos hn, if_neg (by rw [hd]; simp), if_neg (by rw [ha]; simp), if_neg (by rw [ho]; simp), if_pos hn, if_neg (by rw [hd]; simp), if_neg (by rw [ha]; simp), if_neg (by rw [ho]; simp), if_pos hn, if_neg (by rw [hd]; simp), if_neg (by rw [ha]; simp), if_neg (by rw [ho]; simp), if_pos hn]
  exact ⟨none, 0, rfl, (St.rerk { L with over := true } K (a := a) (cap := cap) (b := b) (cab := cab) ((HS.out.drewN _).set 1 rfl 10 (.bool true)).tail).nilSlice _ _⟩

set_option maxRecDepth 100000 in
set_option maxHeartbeats 4000000 in
theorem rHear_go_ba {w0 w : World} {pb : Nat} {L : Lk} {K : List Tx} {l : List Thing} (h : St w0 w (rk pb L K :: l)) (p : Pk) (hok : near L.got K) (hKl : K.length < 2000000000000) (hf0 : -9223372036854775808 ≤ p.f) (hf1 : p.f ≤ 9223372036854775807) (hd : L.deaf p = false) (h7 : (p.e != 0) = true) (h8 : (p.e != L.life) = false) (ho : L.older p = false) (h9 : decide (L.far < p.d) = false) :
    Calls Try.prog 30 #[.pointer (some ⟨pb, 0, none⟩), p.agg] w (StTexts w0 (L.rheard K p) (L.ends p) (rk pb (L.rhear K p) (L.rhearK K p) :: l)) := by
  have HD := Lib.hid hd
  have HA : Hid (L.alien p = false) := by show _ = _; simp only [Lk.alien, h7, h8, Bool.false_and, Bool.and_false]
  clear hd
  have HO := Lib.hid ho
  have HN : Hid (L.newer p = false) := by show _ = _; rw [Lk.newer, h9]; rfl
  have h11 : decide (p.d < L.far) = false := ho
  clear ho
  simp only [Pk.agg]
  have hT : HearR w0 w.heap.size pb p L K l (w.alloc (.cells p.cells.toArray 41)) := by
    obtain ⟨a, cap, b, cab, hS⟩ := h.unrk
    exact ⟨a, cap, b, cab, hS.box1 p.cells.toArray 41⟩
  have HT := Lib.hid hT
  clear h hT
  go_enter Try.func30, Try.ntmps30
  go_upto_region 1 with (fail)
  change Code.wp _ _ _ _ (w.alloc (.cells p.cells.toArray 41))
  generalize w.alloc (.cells p.cells.toArray 41) = W at HT ⊢
  generalize w.heap.size = tb at HT ⊢
  obtain ⟨a, cap, b, cab, hS⟩ := HT.out
  have hbp := hS.box 1 rfl
  have hpk := hS.box 0 rfl
  have c0 := blk_cell hbp 0 (.int .i64 L.me) rfl
  have c1 := blk_cell hbp 1 (.int .i64 L.peer) rfl
  have c2 := blk_cell hbp 2 (.int .i64 L.life) rfl
  have c3 := blk_cell hbp 3 (.int .i64 L.far) rfl
  have c9 := blk_cell hbp 9 (.bool L.owes) rfl
  have c10 := blk_cell hbp 10 (.bool L.over) rfl
  have p0 := blk_cell hpk 0 (.int .i64 p.a) rfl
  have p1 := blk_cell hpk 1 (.int .i64 p.b) rfl
  have p2 := blk_cell hpk 2 (.int .i64 p.c) rfl
  have p3 := blk_cell hpk 3 (.int .i64 p.d) rfl
  have p4 := blk_cell hpk 4 (.int .i64 p.e) rfl
  have hpb := heap_lt hbp
  have htb := heap_lt hpk
  have f9 := blk_free hbp 9
  have f10 := blk_free hbp 10
  have HS := Lib.hid hS
  clear hS hbp hpk
  obtain ⟨h1, g2, g3, g4, g5⟩ := Lk.not_deaf HD.out
  rw [h1] at c10
  clear h1
  go_quiet (fail)
  go_wp2
  go_quiet (fail)
  go_wp2
  go_quiet (fail)
  go_wp2
  go_quiet (fail)
  go_upto_if 93 with (fail)
  go_cut [] (fun wx => HearR w0 tb pb p L K l wx)
  case first =>
    go_wp2_with fail
    go_meet
    exact (((HT.out.drewN _).drewN _).drewN _).drewN _
  case rest =>
    have hd := HD.out
    have ha := HA.out
    have ho := HO.out
    have hn := HN.out
    (try apply_assumption)
    exact rhear_tail _ _ _ _ _ _ _ _ _ _ _ _ _ _ _ _ _ _ _ _ _ _ _ _ _ _ _ _ _ _ _ _ _ _ _ _ _ _ _ _ _ _ _ _ _ _ _ _ _ _ _ _ _ _ _ _ _ _ _ _ _ _ _ _ _ _ _ _ _ _ _ _ _ _ _ _ _ _ _ _ _ _ _ _ _ _ _ _ _ _ _ _ _ _ _ _ _ _ _ _ _ _ _ _ _ _ _ _ _ _ _ _ _ _ _ _ _ _ _ _ _ _ _ _ _ _ _ _ _ _ _ _ _ _ _ _ _ _ _ _ _ _ _ _ _ _ _ _ _ _ _ _ _ _ _ _ _ _ _ _ _ _ _ _ _ _ _ _ _ _ _ _ _ _ _ _ _ _ _ _ _ _ _ _ _ _ _ _ _ _ _ _ _ _ _ _ _ _ _ _ _ _ _ _ _ _ _ _ _ _ _ _ _ _ _ _ _ _ _ _ _ _ _ _ _ _ _ _ _ _ _ _ _ _ _ _ _ _ _ _ _ _ _ _ _ _ _ _ hcut hok hKl hf0 hf1 _ _ _ _
      (by unfold Lk.rheard; rw [if_neg (by rw [hd]; simp), if_neg (by rw [ha]; simp), if_neg (by rw [ho]; simp), if_neg (by rw [hn]; simp)])
      (by unfold Lk.ends; rw [if_neg (by rw [hd]; simp), if_neg (by rw [ha]; simp), if_neg (by rw [ho]; simp), if_neg (by rw [hn]; simp)])
      (by unfold Lk.rhear; rw [if_neg (by rw [hd]; simp), if_neg (by rw [ha]; simp), if_neg (by rw [ho]; simp), if_neg (by rw [hn]; simp)])
      (by unfold Lk.rhearK; rw [if_neg (by rw [hd]; simp), if_neg (by rw [ha]; simp), if_neg (by rw [ho]; simp), if_neg (by rw [hn]; simp)])

set_option maxRecDepth 100000 in
set_option maxHeartbeats 4000000 in
theorem rHear_go_bb {w0 w : World} {pb : Nat} {L : Lk} {K : List Tx} {l : List Thing} (h : St w0 w (rk pb L K :: l)) (p : Pk) (hok : near L.got K) (hKl : K.length < 2000000000000) (hf0 : -9223372036854775808 ≤ p.f) (hf1 : p.f ≤ 9223372036854775807) (hd : L.deaf p = false) (h7 : (p.e != 0) = true) (h8 : (p.e != L.life) = false) (ho : L.older p = false) (h9 : decide (L.far < p.d) = true) (h10 : (L.far != 0) = false) :
    Calls Try.prog 30 #[.pointer (some ⟨pb, 0, none⟩), p.agg] w (StTexts w0 (L.rheard K p) (L.ends p) (rk pb (L.rhear K p) (L.rhearK K p) :: l)) := by
  have HD := Lib.hid hd
  have HA : Hid (L.alien p = false) := by show _ = _; simp only [Lk.alien, h7, h8, Bool.false_and, Bool.and_false]
  clear hd
  have HO := Lib.hid ho
  have HN : Hid (L.newer p = false) := by show _ = _; rw [Lk.newer, h9, h10]; rfl
  have h11 : decide (p.d < L.far) = false := ho
  clear ho
  simp only [Pk.agg]
  have hT : HearR w0 w.heap.size pb p L K l (w.alloc (.cells p.cells.toArray 41)) := by
    obtain ⟨a, cap, b, cab, hS⟩ := h.unrk
    exact ⟨a, cap, b, cab, hS.box1 p.cells.toArray 41⟩
  have HT := Lib.hid hT
  clear h hT
  go_enter Try.func30, Try.ntmps30
  go_upto_region 1 with (fail)
  change Code.wp _ _ _ _ (w.alloc (.cells p.cells.toArray 41))
  generalize w.alloc (.cells p.cells.toArray 41) = W at HT ⊢
  generalize w.heap.size = tb at HT ⊢
  obtain ⟨a, cap, b, cab, hS⟩ := HT.out
  have hbp := hS.box 1 rfl
  have hpk := hS.box 0 rfl
  have c0 := blk_cell hbp 0 (.int .i64 L.me) rfl
  have c1 := blk_cell hbp 1 (.int .i64 L.peer) rfl
  have c2 := blk_cell hbp 2 (.int .i64 L.life) rfl
  have c3 := blk_cell hbp 3 (.int .i64 L.far) rfl
  have c9 := blk_cell hbp 9 (.bool L.owes) rfl
  have c10 := blk_cell hbp 10 (.bool L.over) rfl
  have p0 := blk_cell hpk 0 (.int .i64 p.a) rfl
  have p1 := blk_cell hpk 1 (.int .i64 p.b) rfl
  have p2 := blk_cell hpk 2 (.int .i64 p.c) rfl
  have p3 := blk_cell hpk 3 (.int .i64 p.d) rfl
  have p4 := blk_cell hpk 4 (.int .i64 p.e) rfl
  have hpb := heap_lt hbp
  have htb := heap_lt hpk
  have f9 := blk_free hbp 9
  have f10 := blk_free hbp 10
  have HS := Lib.hid hS
  clear hS hbp hpk
  obtain ⟨h1, g2, g3, g4, g5⟩ := Lk.not_deaf HD.out
  rw [h1] at c10
  clear h1
  go_quiet (fail)
  go_wp2
  go_quiet (fail)
  go_wp2
  go_quiet (fail)
  go_wp2
  go_quiet (fail)
  go_upto_if 93 with (fail)
  go_cut [] (fun wx => HearR w0 tb pb p L K l wx)
  case first =>
    go_wp2_with fail
    go_meet
    exact (((HT.out.drewN _).drewN _).drewN _).drewN _
  case rest =>
    have hd := HD.out
    have ha := HA.out
    have ho := HO.out
    have hn := HN.out
    (try apply_assumption)
    exact rhear_tail _ _ _ _ _ _ _ _ _ _ _ _ _ _ _ _ _ _ _ _ _ _ _ _ _ _ _ _ _ _ _ _ _ _ _ _ _ _ _ _ _ _ _ _ _ _ _ _ _ _ _ _ _ _ _ _ _ _ _ _ _ _ _ _ _ _ _ _ _ _ _ _ _ _ _ _ _ _ _ _ _ _ _ _ _ _ _ _ _ _ _ _ _ _ _ _ _ _ _ _ _ _ _ _ _ _ _ _ _ _ _ _ _ _ _ _ _ _ _ _ _ _ _ _ _ _ _ _ _ _ _ _ _ _ _ _ _ _ _ _ _ _ _ _ _ _ _ _ _ _ _ _ _ _ _ _ _ _ _ _ _ _ _ _ _ _ _ _ _ _ _ _ _ _ _ _ _ _ _ _ _ _ _ _ _ _ _ _ _ _ _ _ _ _ _ _ _ _ _ _ _ _ _ _ _ _ _ _ _ _ _ _ _ _ _ _ _ _ _ _ _ _ _ _ _ _ _ _ _ _ _ _ _ _ _ _ _ _ _ _ _ _ _ _ _ _ _ _ hcut hok hKl hf0 hf1 _ _ _ _
      (by unfold Lk.rheard; rw [if_neg (by rw [hd]; simp), if_neg (by rw [ha]; simp), if_neg (by rw [ho]; simp), if_neg (by rw [hn]; simp)])
      (by unfold Lk.ends; rw [if_neg (by rw [hd]; simp), if_neg (by rw [ha]; simp), if_neg (by rw [ho]; simp), if_neg (by rw [hn]; simp)])
      (by unfold Lk.rhear; rw [if_neg (by rw [hd]; simp), if_neg (by rw [ha]; simp), if_neg (by rw [ho]; simp), if_neg (by rw [hn]; simp)])
      (by unfold Lk.rhearK; rw [if_neg (by rw [hd]; simp), if_neg (by rw [ha]; simp), if_neg (by rw [ho]; simp), if_neg (by rw [hn]; simp)])

theorem rHear_st {w0 w : World} {pb : Nat} {L : Lk} {K : List Tx} {l : List Thing} (h : St w0 w (rk pb L K :: l)) (p : Pk) (hok : near L.got K) (hKl : K.length < 2000000000000) (hf0 : -9223372036854775808 ≤ p.f) (hf1 : p.f ≤ 9223372036854775807) :
    Calls Try.prog 30 #[.pointer (some ⟨pb, 0, none⟩), p.agg] w (StTexts w0 (L.rheard K p) (L.ends p) (rk pb (L.rhear K p) (L.rhearK K p) :: l)) := by
  cases hd : L.deaf p with
  | true => exact rHear_deaf h p hd
  | false =>
    cases h7 : (p.e != 0) with
    | false =>
      cases ho : L.older p with
      | true => exact rHear_old_a h p hd h7 ho
      | false =>
        cases h9 : decide (L.far < p.d) with
        | false => exact rHear_go_aa h p hok hKl hf0 hf1 hd h7 ho h9
        | true =>
          cases h10 : (L.far != 0) with
          | true => exact rHear_new_a h p hd h7 ho h9 h10
          | false => exact rHear_go_ab h p hok hKl hf0 hf1 hd h7 ho h9 h10
    | true =>
      cases h8 : (p.e != L.life) with
      | true => exact rHear_alien h p hd (by rw [Lk.alien, h7, h8]; rfl)
      | false =>
        cases ho : L.older p with
        | true => exact rHear_old_b h p hd h7 h8 ho
        | false =>
          cases h9 : decide (L.far < p.d) with
          | false => exact rHear_go_ba h p hok hKl hf0 hf1 hd h7 h8 ho h9
          | true =>
            cases h10 : (L.far != 0) with
            | true => exact rHear_new_b h p hd h7 h8 ho h9 h10
            | false => exact rHear_go_bb h p hok hKl hf0 hf1 hd h7 h8 ho h9 h10
end Go.Proofs.Ytoeokdachojhjaa
