/-
  LinkOrders: its last test: all has come, nothing waits.
  Conditions: the net's in the end.
-/
import Derived.Test.YtoeokdachojhjaaTwoE
import Derived.Deep.QuietTactic
namespace Go.Proofs.Ytoeokdachojhjaa
open Go.RowKit
set_option linter.unusedSectionVars false
set_option linter.unusedSimpArgs false
set_option linter.unusedVariables false

/-- The code from a region on: 'startsAt', 'codeAt' are LinkG's. -/
theorem queue_any {w0 w : World} {pb : Nat} {L : Lk} {l : List Thing} (h : St w0 w (lk pb L :: l)) :
    ∃ a : Nat, ∀ n, Calls Try.prog 14 #[.pointer (some ⟨pb, 0, none⟩)] (w.drewN n) (fun e w' => e = .returned (.int .i64 (L.queue.length : Int)) ∧ w' = w.drewN n) := by
  obtain ⟨a, cap, mb, hS⟩ := h.unlk
  refine ⟨0, fun n => ?_⟩
  have hS := hS.drewN n
  have c7 := blk_cell (hS.box 0 rfl) 7 (.slice a L.queue.length cap) rfl
  have hpb := heap_lt (hS.box 0 rfl)
  clear hS h
  generalize w.drewN n = W at c7 hpb ⊢
  go_enter Try.func14, Try.ntmps14
  go_wp2
  go_ret
  exact ⟨rfl, rfl⟩

theorem texts_q (a b : Option Addr) (ca cb n : Nat) (xs : List ByteArray) (hn : xs.length = n) (w : World) (ha : Rd w 1 a n ca (xs.map .string)) (hb : Rd w 1 b n cb (xs.map .string)) :
    Calls Try.prog 13 #[.slice a n ca, .slice b n cb] w (fun e w' => e = .returned (.bool true) ∧ ∃ m, w' = w.drewN m) :=
  (texts_n a b ca cb n xs hn w ha hb).mono fun e w' ⟨d, h1, h2⟩ => ⟨h1, d, h2⟩

noncomputable def ordEnd : Code := ((Try.f3.body.bind (codeAt 25)).getD .skip)

set_option maxRecDepth 100000 in
set_option maxHeartbeats 40000000 in
theorem ord_end (x0 x1 x2 x3 x5 x6 x7 x8 x9 x10 x11 x12 x13 x14 x15 x16 x17 x18 x19 x20 x21 x22 x23 x24 x25 x26 x27 x28 x29 x30 x31 x32 x33 x34 x35 x36 x37 x38 x39 x40 x41 x42 x43 x44 x45 x46 x47 x48 x49 x50 x51 x52 x53 x54 x55 x56 x57 x58 x59 x60 x61 x62 x63 x64 x65 x66 x67 x68 x69 x70 x71 x72 x73 x74 x75 x76 x77 x78 x79 x80 x81 x82 x83 x84 x85 x86 x87 x88 x89 x90 x91 x92 x93 x94 x95 x96 x97 x98 x99 x100 x101 x102 x103 x104 x105 x106 x107 x108 x109 x110 x111 x112 x113 x114 x115 x116 x117 x118 x119 x120 x121 x122 x123 x124 x125 x126 x127 x128 x129 x130 x131 x132 x133 x134 x135 x136 x137 x138 x139 x140 x141 x142 x143 x144 x145 x146 x147 x148 x149 x150 x151 x152 x153 x154 x155 x156 x157 x158 x159 x160 x161 x162 x163 x164 x165 x166 x167 x168 x169 x170 x171 x172 x173 x174 x175 x176 x177 x178 x179 x180 x181 x182 x183 x184 x185 x186 x187 x188 x189 x190 x191 x192 x193 x194 x195 x196 x197 x198 x199 x200 x201 x202 x203 x204 x205 x206 x207 x208 : Value) {W w : World} {tb : Nat} {E : Nat → Lk} {S G : Nat → List ByteArray} {P : List Pk} (h : Two W tb E S G P w) (hall : G 0 = S 1 ∧ G 1 = S 0 ∧ (E 0).queue = [] ∧ (E 1).queue = []) :
    Code.wp Try.prog ordEnd (bodyPost Try.prog Try.f3 (AwakePost W)) ⟨#[x0, x1, x2, x3, .pointer (some ⟨tb, 0, none⟩), x5, x6, x7, x8, x9, x10, x11, x12, x13, x14, x15, x16, x17, x18, x19, x20, x21, x22, x23, x24, x25, x26, x27, x28, x29, x30, x31, x32, x33, x34, x35, x36, x37, x38, x39, x40, x41, x42, x43, x44, x45, x46, x47, x48, x49, x50, x51, x52, x53, x54, x55, x56, x57, x58, x59, x60, x61, x62, x63, x64, x65, x66, x67, x68, x69, x70, x71, x72, x73, x74, x75, x76, x77, x78, x79, x80, x81, x82, x83, x84, x85, x86, x87, x88, x89, x90, x91, x92, x93, x94, x95, x96, x97, x98, x99, x100, x101, x102, x103, x104, x105, x106, x107, x108, x109, x110, x111, x112, x113, x114, x115, x116, x117, x118, x119, x120, x121, x122, x123, x124, x125, x126, x127, x128, x129, x130, x131, x132, x133, x134, x135, x136, x137, x138, x139, x140, x141, x142, x143, x144, x145, x146, x147, x148, x149, x150, x151, x152, x153, x154, x155, x156, x157, x158, x159, x160, x161, x162, x163, x164, x165, x166, x167, x168, x169, x170, x171, x172, x173, x174, x175, x176, x177, x178, x179, x180, x181, x182, x183, x184, x185, x186, x187, x188, x189, x190, x191, x192, x193, x194, x195, x196, x197, x198, x199, x200, x201, x202, x203, x204, x205, x206, x207, x208], []⟩ w := by
  obtain ⟨pb, cn, sa, ga, sc, gc, pa, pc, hS⟩ := h
  obtain ⟨h1, h2, h3, h4⟩ := hall
  have hb := hS.box 0 rfl
  have c0 := blk_cell hb 0 (.pointer (some ⟨pb 0, 0, none⟩)) rfl
  have c1 := blk_cell hb 1 (.pointer (some ⟨pb 1, 0, none⟩)) rfl
  have c2 := blk_cell hb 2 (.int .i64 1) rfl
  have c4 := blk_cell hb 4 (.slice (sa 0) (S 0).length (sc 0)) rfl
  have c5 := blk_cell hb 5 (.slice (sa 1) (S 1).length (sc 1)) rfl
  have c6 := blk_cell hb 6 (.slice (ga 0) (G 0).length (gc 0)) rfl
  have c7 := blk_cell hb 7 (.slice (ga 1) (G 1).length (gc 1)) rfl
  have htb := heap_lt hb
  have r0 := (show Sl w 9 1 (sa 0) (S 0).length (sc 0) ((S 0).map .string) from hS.slice 3 rfl).rd
  have r1 := (show Sl w 9 1 (sa 1) (S 1).length (sc 1) ((S 1).map .string) from hS.slice 4 rfl).rd
  have r2 := (show Sl w 9 1 (ga 0) (G 0).length (gc 0) ((G 0).map .string) from hS.slice 5 rfl).rd
  have r3 := (show Sl w 9 1 (ga 1) (G 1).length (gc 1) ((G 1).map .string) from hS.slice 6 rfl).rd
  rw [h1] at c6 r2
  rw [h2] at c7 r3
  obtain ⟨q0, hq0⟩ := queue_any (hS.end1 (k := 0) (by omega))
  obtain ⟨q1, hq1⟩ := queue_any (hS.end1 (k := 1) (by omega))
  rw [show ((E 0).wc (cn 0)).queue.length = 0 from by show (E 0).queue.length = 0; rw [h3]; rfl] at hq0
  rw [show ((E 1).wc (cn 1)).queue.length = 0 from by show (E 1).queue.length = 0; rw [h4]; rfl] at hq1
  have HQ0 := Lib.hid hq0
  have HQ1 := Lib.hid hq1
  have HT1 := Lib.hid (fun n => texts_q (ga 0) (sa 1) (gc 0) (sc 1) (S 1).length (S 1) rfl (w.drewN n) (r2.mod ((Mod.refl (fun _ => False) w).drewN n) (fun _ _ => id)) (r1.mod ((Mod.refl (fun _ => False) w).drewN n) (fun _ _ => id)))
  have HT2 := Lib.hid (fun n => texts_q (ga 1) (sa 0) (gc 1) (sc 0) (S 0).length (S 0) rfl (w.drewN n) (r3.mod ((Mod.refl (fun _ => False) w).drewN n) (fun _ _ => id)) (r0.mod ((Mod.refl (fun _ => False) w).drewN n) (fun _ _ => id)))
  have HM := Lib.hid hS.1
  clear hS hb r0 r1 r2 r3 h1 h2 h3 h4 hq0 hq1
  generalize (S 0).length = l0 at *
  generalize (S 1).length = l1 at *
  conv => arg 2; whnf
  dsimp only
  go_upto_region 25 with (fail)
  go_quiet (first | (with_reducible exact Calls.quiet_of_same (HQ0.out _)) | (with_reducible exact Calls.quiet_of_same (HQ1.out _)) | (with_reducible exact Calls.quiet_of (HT1.out _)) | (with_reducible exact Calls.quiet_of (HT2.out _)))
  all_goals
    go_wp2
    go_ret
    exact ⟨rfl, HM.out.drewN _⟩
end Go.Proofs.Ytoeokdachojhjaa
