/-
  The program's link: Hear from its loop on: what is kept comes out in order.
  Conditions: what is kept is ahead and not far ('ok').
-/
import Derived.Test.YtoeokdachojhjaaLinkE
import Derived.BigRegion
import Derived.Deep.CutBlock
namespace Go.Proofs.Ytoeokdachojhjaa
open Go.RowKit
set_option linter.unusedSectionVars false
set_option linter.unusedSimpArgs false
set_option linter.unusedVariables false

/-- A call that answers texts of its own, and a bool. -/
def StTexts (w0 : World) (xs : List ByteArray) (b : Bool) (l : List Thing) (e : Ending) (w' : World) : Prop := ∃ a cap, e = .returned (.tuple #[.slice a xs.length cap, .bool b]) ∧ St w0 w' (sl 9 1 a xs.length cap (xs.map .string) :: l)

/-- In Hear: the packet in its block, the link taken apart. -/
def HearSt (w0 : World) (tb pb : Nat) (p : Pk) (L : Lk) (l : List Thing) (w : World) : Prop :=
  ∃ a cap mb, St w0 w (bx tb p.cells.toArray 41 :: bx pb (L.cells a L.queue.length cap mb) 66 :: sl 68 2 a L.queue.length cap (ftx L.queue) :: mp Try.prog 3 mb L.cnt (fmap L.kept) :: l)
theorem HearSt.drewN {w0 : World} {tb pb : Nat} {p : Pk} {L : Lk} {l : List Thing} {w : World} (h : HearSt w0 tb pb p L l w) (n : Nat) : HearSt w0 tb pb p L l (w.drewN n) := by
  obtain ⟨a, cap, mb, h⟩ := h; exact ⟨a, cap, mb, h.drewN n⟩
theorem HearSt.link {w0 : World} {tb pb : Nat} {p : Pk} {L : Lk} {l : List Thing} {w : World} (h : HearSt w0 tb pb p L l w) : St w0 w (lk pb L :: l) := by
  obtain ⟨a, cap, mb, h⟩ := h; exact h.tail.relk

/-- The code from a region on. -/
def startsAt (n : Nat) : Code → Bool
  | .region m _ _ => m == n
  | .seq a _ => startsAt n a
  | _ => false
def codeAt (n : Nat) : Code → Option Code
  | .seq a b => if startsAt n a then some (.seq a b) else match codeAt n a with
    | some c => some c
    | none => codeAt n b
  | .block _ c => codeAt n c
  | .scope c => codeAt n c
  | .loop c => codeAt n c
  | .cond _ a b => match codeAt n a with
    | some c => some c
    | none => codeAt n b
  | _ => none

noncomputable def hearLoop : Code := ((Try.f17.body.bind (codeAt 19)).getD .skip)

/-- The key that is looked for next: one more, or none that is kept. -/
theorem next_key {f : Int → Option ByteArray} {g : Int} {m : Nat} (h0 : 0 ≤ g) (h1 : g ≤ 9223372036854775807) (h : ∀ k s, f k = some s → g < k ∧ k ≤ g + m ∧ k ≤ 9223372036854775807) :
    ∃ y, IntKind.i64.wrap (g + 1) = y ∧ -9223372036854775808 ≤ y ∧ y ≤ 9223372036854775807 ∧ f y = f (g + 1) := by
  by_cases hg : g + 1 ≤ 9223372036854775807
  · exact ⟨g + 1, IntWalk.i64_in _ (by omega), by omega, hg, rfl⟩
  · refine ⟨-9223372036854775808, by rw [IntKind.wrap_i64]; omega, by omega, by omega, ?_⟩
    have e1 : f (-9223372036854775808) = none := by
      cases hf : f (-9223372036854775808) with
      | none => rfl
      | some s => have := (h _ s hf).1; omega
    have e2 : f (g + 1) = none := by
      cases hf : f (g + 1) with
      | none => rfl
      | some s => have := (h _ s hf).2.2; omega
    rw [e1, e2]

/-- Between the rounds. -/
structure LpSt (w0 : World) (tb pb : Nat) (p : Pk) (L : Lk) (l : List Thing) (m : Nat) (f : Int → Option ByteArray) (g : Int) (out : List ByteArray) (a8 : Option Addr) (n8 cap8 : Nat) (wr : World) : Prop where
  len : out.length = n8
  goes : drain 64 L.kept L.got = ((drain m f g).1, (drain m f g).2.1, out ++ (drain m f g).2.2)
  g0 : 0 ≤ g
  g1 : g ≤ 9223372036854775807
  near : ∀ k s, f k = some s → g < k ∧ k ≤ g + m ∧ k ≤ 9223372036854775807
  few : n8 + m ≤ 64
  lies : ∃ a cap mb, St w0 wr (sl 9 1 a8 n8 cap8 (out.map .string) :: bx tb p.cells.toArray 41 :: bx pb (Lk.cells { L with kept := f, got := g } a L.queue.length cap mb) 66 :: sl 68 2 a L.queue.length cap (ftx L.queue) :: mp Try.prog 3 mb L.cnt (fmap f) :: l)

def lookS (v : Option ByteArray) : Value := .string (v.getD .empty)
theorem look_val (f : Int → Option ByteArray) (x : Int) : (fmap f x).getD (.string .empty) = lookS (f x) := by unfold fmap lookS; cases f x <;> rfl
theorem look_is (f : Int → Option ByteArray) (x : Int) : (fmap f x).isSome = (f x).isSome := by unfold fmap; cases f x <;> rfl

set_option maxRecDepth 100000 in
set_option maxHeartbeats 4000000 in
theorem hear_loop (x1 x2 x4 x5 x6 x7 x8 x9 x10 x11 x12 x13 x14 x15 x16 x17 x18 x19 x20 x21 x22 x23 x24 x25 x26 x27 x28 x29 x30 x31 x32 x33 x34 x35 x36 x37 x38 x39 x40 x41 x42 x43 x44 x45 x46 x47 x48 x49 x50 x51 x52 x53 x54 x55 x56 x57 x58 x59 x60 x61 x62 x63 x64 x65 x66 x67 x68 x69 x70 x71 x72 x73 x74 x75 x76 x77 x78 x79 x80 x81 x82 x83 x84 x85 x86 x87 x88 x89 x90 x91 x92 x93 x94 x95 x96 x97 x98 x99 x100 x101 x102 x103 x104 x105 x106 x107 x108 x109 x110 x111 x112 x113 x114 x115 x116 x117 x118 x119 x120 x121 x122 x123 x124 x125 x126 x127 x128 x129 x130 x131 x132 x133 x134 x135 x136 x137 x138 x139 x140 x141 x142 x143 x144 x145 x146 x147 x148 x149 x150 x151 x152 x153 x154 x155 x156 x157 x158 x159 x160 x161 x162 x163 x164 x165 x166 x167 x168 x169 x170 x171 x172 x173 x174 x175 x176 x177 x178 x179 x180 x181 x182 x183 x184 x185 x186 x187 x188 x189 x190 x191 x192 x193 x194 x195 x196 x197 x198 x199 x200 x201 x202 x203 x204 x205 x206 x207 x208 x209 x210 x211 x212 x213 x214 x215 x216 x217 x218 x219 x220 x221 x222 : Value) {w0 w : World} {tb pb : Nat} {p : Pk} {L : Lk} {l : List Thing} (h : HearSt w0 tb pb p L l w) (hok : L.ok) (M : Lk) (hM : M = L) :
    Code.wp Try.prog hearLoop (bodyPost Try.prog Try.f17 (StTexts w0 M.came false (lk pb M.taken :: l))) ⟨#[.pointer (some ⟨pb, 0, none⟩), x1, x2, .pointer (some ⟨tb, 0, none⟩), x4, x5, x6, x7, x8, x9, x10, x11, x12, x13, x14, x15, x16, x17, x18, x19, x20, x21, x22, x23, x24, x25, x26, x27, x28, x29, x30, x31, x32, x33, x34, x35, x36, x37, x38, x39, x40, x41, x42, x43, x44, x45, x46, x47, x48, x49, x50, x51, x52, x53, x54, x55, x56, x57, x58, x59, x60, x61, x62, x63, x64, x65, x66, x67, x68, x69, x70, x71, x72, x73, x74, x75, x76, x77, x78, x79, x80, x81, x82, x83, x84, x85, x86, x87, x88, x89, x90, x91, x92, x93, x94, x95, x96, x97, x98, x99, x100, x101, x102, x103, x104, x105, x106, x107, x108, x109, x110, x111, x112, x113, x114, x115, x116, x117, x118, x119, x120, x121, x122, x123, x124, x125, x126, x127, x128, x129, x130, x131, x132, x133, x134, x135, x136, x137, x138, x139, x140, x141, x142, x143, x144, x145, x146, x147, x148, x149, x150, x151, x152, x153, x154, x155, x156, x157, x158, x159, x160, x161, x162, x163, x164, x165, x166, x167, x168, x169, x170, x171, x172, x173, x174, x175, x176, x177, x178, x179, x180, x181, x182, x183, x184, x185, x186, x187, x188, x189, x190, x191, x192, x193, x194, x195, x196, x197, x198, x199, x200, x201, x202, x203, x204, x205, x206, x207, x208, x209, x210, x211, x212, x213, x214, x215, x216, x217, x218, x219, x220, x221, x222], []⟩ w := by
  rw [hM]
  clear hM
  have HT := Lib.hid h
  have hg0 := hok.1
  have hg1 := hok.2.1
  have HK := Lib.hid hok.2.2
  clear h hok
  conv => arg 2; whnf
  go_upto_region 20 with (fail)
  go_cut [9, 10] (fun c d wx => c = lookS (L.kept (L.got + 1)) ∧ d = .bool (L.kept (L.got + 1)).isSome ∧ HearSt w0 tb pb p L l wx)
  case first =>
    obtain ⟨a, cap, mb, hS⟩ := HT.out
    have hbp := hS.box 1 rfl
    have c2 := blk_cell hbp 2 (.int .i64 L.got) rfl
    have c8 := blk_cell hbp 8 (.map (some mb)) rfl
    have hpb := heap_lt hbp
    obtain ⟨y, hwr, hy0, hy1, hfy⟩ := next_key (m := 64) hg0 hg1 (fun k s hk => by have := HK.out k s hk; exact ⟨this.1, by omega, this.2.2⟩)
    have hlk : ∀ n, (Instr.lookup 64 (.map (some mb)) (.int .i64 y) true).run Try.prog (w.drewN n) = .ok (.tuple #[lookS (L.kept (L.got + 1)), .bool (L.kept (L.got + 1)).isSome]) (w.drewN n) := fun n => by
      have h := ((hS.drewN n).mapAt 3 rfl).look keyI mapT true (zeroS _) hy0 hy1
      rw [look_val, look_is, hfy] at h
      simpa using h
    clear hS hbp hfy
    go_quiet (fail)
    go_wp2
    go_meet
    exact ⟨rfl, rfl, HT.out.drewN _⟩
  case rest =>
    clear HT
    obtain ⟨rfl, rfl, hS⟩ := hcut
    have HT := Lib.hid hS
    clear hS
    go_wp2
    go_loopg [8, 9, 10] 64 (fun m v8 v9 v10 wr => ∃ f g out a8 n8 cap8, v8 = .slice a8 n8 cap8 ∧ v9 = lookS (f (g + 1)) ∧ v10 = .bool (f (g + 1)).isSome ∧ LpSt w0 tb pb p L l m f g out a8 n8 cap8 wr)
    case atStart =>
      obtain ⟨a, cap, mb, hS⟩ := HT.out
      exact ⟨L.kept, L.got, [], none, 0, 0, rfl, rfl, rfl, rfl, by rw [List.nil_append], hg0, hg1, fun k s hk => by have := HK.out k s hk; exact ⟨this.1, by omega, this.2.2⟩, by omega, a, cap, mb, hS.nilSlice _ _⟩
    case round =>
      clear HT
      obtain ⟨f, g, out, a8, n8, cap8, rfl, rfl, rfl, hL⟩ := hrel
      cases hfg : f (g + 1) with
      | none =>
        have HL := Lib.hid hL
        have HF := Lib.hid hfg
        clear hL hfg
        simp only [Option.isSome_none]
        go_wp2
        go_ret2
        obtain ⟨hlen, hgo, _, _, _, _, a, cap, mb, hS⟩ := HL.out
        rw [drain_none HF.out, List.append_nil] at hgo
        have e1 : L.came = out := by rw [Lk.came, hgo]
        have e2 : L.taken = { L with kept := f, got := g } := by rw [Lk.taken, hgo]
        rw [e1, e2]
        refine ⟨a8, cap8, by rw [hlen]; rfl, ?_⟩
        rw [hlen]
        have hS2 := hS.perm (List.perm_append_comm_assoc [_] [_, _, _, _] _)
        exact (St.relk { L with kept := f, got := g } (a := a) (cap := cap) (mb := mb) (hS2.tail)).perm (.swap _ _ _)
      | some s =>
        have hnear := hL.near _ s hfg
        have hm1 : 1 ≤ gk := by omega
        obtain ⟨a, cap, mb, hS⟩ := hL.lies
        have hn8 := hL.few
        have hg0' := hL.g0
        have hbp := hS.box 2 rfl
        have c2 := blk_cell hbp 2 (.int .i64 g) rfl
        have c8 := blk_cell hbp 8 (.map (some mb)) rfl
        have f2 := blk_free hbp 2
        have hpb := heap_lt hbp
        have hwr : IntKind.i64.wrap (g + 1) = g + 1 := IntWalk.i64_in _ (by omega)
        have hS1 := hS.set 2 rfl 2 (.int .i64 (g + 1))
        have HS1 := Lib.hid hS1
        have HF := Lib.hid hfg
        have HL := Lib.hid hL
        clear hS hbp hS1 hL hfg
        simp only [Option.isSome_some, lookS, Option.getD_some]
        go_upto_region 24 with (fail)
        generalize wr.setCell ⟨pb, 2, none⟩ (.int .i64 (g + 1)) = W at HS1 ⊢
        go_cut [] (fun wx => ∃ a cap mb, St w0 wx (sl 9 1 a8 n8 cap8 (out.map .string) :: bx tb p.cells.toArray 41 :: bx pb (Lk.cells { L with kept := set1 f (g + 1) none, got := g + 1 } a L.queue.length cap mb) 66 :: sl 68 2 a L.queue.length cap (ftx L.queue) :: mp Try.prog 3 mb L.cnt (fmap (set1 f (g + 1) none)) :: l))
        case first =>
          have hb2 := HS1.out.box 2 rfl
          have c2 := blk_cell hb2 2 (.int .i64 (g + 1)) rfl
          have c8 := blk_cell hb2 8 (.map (some mb)) rfl
          have hpb := heap_lt hb2
          obtain ⟨w', hdel, hmp, hmod⟩ := (HS1.out.drew.mapAt 4 rfl).del keyI mapT (x := g + 1) (by omega) (by omega) 0
          have hSd := Lib.hid (HS1.out.drew.remap 4 rfl hmp hmod)
          clear hb2 hmp hmod
          go_region
          all_goals
            (try go_wp2_with fail)
            go_meet
            have h := hSd.out
            rw [show upd (fmap f) (g + 1) none = fmap (set1 f (g + 1) none) from fmap_set f (g + 1) none] at h
            exact ⟨a, cap, mb, h⟩
        case rest =>
          clear HS1
          obtain ⟨a, cap, mb, hS⟩ := hcut
          obtain ⟨ip, hip1, hip2, hip3⟩ := info_parts infoS
          have HI := Lib.hid (And.intro hip1 (And.intro hip2 hip3))
          clear hip1 hip2 hip3
          have hSn := hS.box1 #[.string s] 9
          have HSL := Lib.hid (hSn.slice 1 rfl)
          have HSR := Lib.hid (Sl.new (E := 9) (k := 1) (n := 1) (c := #[.string s]) (hSn.box 0 rfl) rfl (by unfold maxLen; omega)).rd
          have HSN := Lib.hid hSn
          clear hS hSn
          obtain ⟨g', hg'⟩ : ∃ g', g + 1 = g' := ⟨_, rfl⟩
          have hg0n : 0 ≤ g' := by omega
          have hg1n : g' ≤ 9223372036854775807 := by omega
          have HG' := Lib.hid hg'
          rw [hg'] at HSN
          clear hg'
          go_upto_region 22 with (at_builtin; refine wpList_append 9 ip _ 1 16 (by kernel_rfl) HI.out.1 HI.out.2.1 HI.out.2.2.1 HI.out.2.2.2 rfl a8 n8 cap8 (out.map .string) rfl HSL.out (some ⟨wc.heap.size, 0, none⟩) 1 1 [.string s] rfl HSR.out (fun u hu => by rw [List.mem_singleton.1 hu]; rfl) (by unfold maxLen; omega) (by omega) ?_; intro a9 cap9 w9 hS9 hM9 hF9 hN9 hR9; clear hN9 hR9)
          have hSA := (HSN.out.regrow 1 rfl hS9 hM9 hF9).tail
          have hb9 := hSA.box 2 rfl
          have c2 := blk_cell hb9 2 (.int .i64 g') rfl
          have c8 := blk_cell hb9 8 (.map (some mb)) rfl
          have hpb := heap_lt hb9
          have hnearN : ∀ k t, set1 f g' none k = some t → g' < k ∧ k ≤ g' + (gk - 1 : Nat) ∧ k ≤ 9223372036854775807 := fun k t hk => by
            rcases set1_some hk with ⟨_, h⟩ | ⟨hne, h⟩
            · cases h
            · have := HL.out.near k t h
              have := HG'.out
              omega
          obtain ⟨y, hwr, hy0, hy1, hfy⟩ := next_key hg0n hg1n hnearN
          have hlk : ∀ n, (Instr.lookup 64 (.map (some mb)) (.int .i64 y) true).run Try.prog (w9.drewN n) = .ok (.tuple #[lookS (set1 f g' none (g' + 1)), .bool (set1 f g' none (g' + 1)).isSome]) (w9.drewN n) := fun n => by
            have h := ((hSA.drewN n).mapAt 4 rfl).look keyI mapT true (zeroS _) hy0 hy1
            rw [look_val, look_is, hfy] at h
            simpa using h
          have HNN := Lib.hid hnearN
          have HSA := Lib.hid hSA
          clear hfy hb9 hnearN hSA hS9 hM9 hF9
          go_quiet (fail)
          go_wp2
          go_roundg (gk - 1)
          case measure => omega
          case rel =>
            have hgo := HL.out.goes
            have hG := HG'.out
            subst hG
            rw [show gk = (gk - 1) + 1 by omega, drain_some HF.out] at hgo
            refine ⟨set1 f (g + 1) none, g + 1, out ++ [s], a9, n8 + 1, cap9, rfl, rfl, rfl, ?_, ?_, hg0n, hg1n, HNN.out, by omega, a, cap, mb, ?_⟩
            · rw [List.length_append, HL.out.len]; rfl
            · rw [hgo, List.append_assoc]; rfl
            · rw [List.map_append]; exact HSA.out.drewN _
end Go.Proofs.Ytoeokdachojhjaa
