/-
  VoteAgrees: many voters side by side; the last loop, in which time goes on.
  Conditions: what the net holds when nothing is under way.
-/
import Derived.Test.YtmikenagaihoiaaVoteM
import Derived.Test.YtmikenagaihoiaaVoteOpen
import Derived.Deep.CutBlock
namespace Go.Proofs.Ytmikenagaihoiaa
open Go.RowKit
set_option linter.unusedSectionVars false
set_option linter.unusedSimpArgs false
set_option linter.unusedVariables false

/-- The code from a region on. -/
def startsAt (n : Nat) : Code → Bool
  | .region m _ _ => m == n
  | .seq a _ => startsAt n a
  | _ => false
def codeAt (n : Nat) : Code → Option Code
  | .seq a b => if startsAt n a then some (.seq a b) else match codeAt n a with
    | some c => some c
    | none => codeAt n b
  | .block _ c => codeAt n c
  | .scope c => codeAt n c
  | .loop c => codeAt n c
  | .cond _ a b => match codeAt n a with
    | some c => some c
    | none => codeAt n b
  | _ => none

/-! ### voters side by side -/

def vs (pb : Nat → Nat) (V : Int → Vr) (n : Nat) : List Thing := (List.range n).map fun k => vr (pb k) (V ((k : Int) + 1))
def vsRest (pb : Nat → Nat) (V : Int → Vr) (n i : Nat) : List Thing := ((List.range n).erase i).map fun k => vr (pb k) (V ((k : Int) + 1))
def ptrs (pb : Nat → Nat) (n : Nat) : List Value := (List.range n).map fun k => .pointer (some ⟨pb k, 0, none⟩)

theorem vs_out (pb : Nat → Nat) (V : Int → Vr) {n i : Nat} (h : i < n) : (vs pb V n).Perm (vr (pb i) (V ((i : Int) + 1)) :: vsRest pb V n i) :=
  (List.perm_cons_erase (List.mem_range.2 h)).map _
theorem vsRest_put (pb : Nat → Nat) (V : Int → Vr) (n i : Nat) (X : Vr) : vsRest pb (put2 V ((i : Int) + 1) X) n i = vsRest pb V n i := by
  unfold vsRest
  refine List.map_congr_left fun k hk => ?_
  have hne : k ≠ i := by
    intro e
    subst e
    exact (List.Nodup.not_mem_erase List.nodup_range) hk
  rw [put2_other V X (by omega)]
theorem vs_in (pb : Nat → Nat) (V : Int → Vr) {n i : Nat} (h : i < n) (X : Vr) : (vr (pb i) X :: vsRest pb V n i).Perm (vs pb (put2 V ((i : Int) + 1) X) n) := by
  have := (vs_out pb (put2 V ((i : Int) + 1) X) h).symm
  rw [put2_same, vsRest_put] at this
  exact this

theorem perm3 {α : Type} (a b c x : α) (l : List α) : (a :: b :: c :: x :: l).Perm (x :: a :: b :: c :: l) := (List.perm_append_comm (l₁ := [a, b, c]) (l₂ := [x])).append_right l
theorem St.voter {w0 w : World} {a b c : Thing} {pb : Nat → Nat} {V : Int → Vr} {n i : Nat} (h : St w0 w (a :: b :: c :: vs pb V n)) (hi : i < n) : St w0 w (vr (pb i) (V ((i : Int) + 1)) :: a :: b :: c :: vsRest pb V n i) :=
  h.perm (((((vs_out pb V hi).cons c).cons b).cons a).trans (perm3 _ _ _ _ _))
theorem St.unvoter {w0 w : World} {a b c : Thing} {pb : Nat → Nat} {V : Int → Vr} {n i : Nat} {X : Vr} (h : St w0 w (vr (pb i) X :: a :: b :: c :: vsRest pb V n i)) (hi : i < n) : St w0 w (a :: b :: c :: vs pb (put2 V ((i : Int) + 1) X) n) :=
  h.perm ((perm3 _ _ _ _ _).symm.trans ((((vs_in pb V hi X).cons c).cons b).cons a))

theorem ptrs_get (pb : Nat → Nat) {n i : Nat} (h : i < n) : (ptrs pb n)[i]? = some (.pointer (some ⟨pb i, 0, none⟩)) := by
  unfold ptrs
  rw [List.getElem?_map, List.getElem?_range h]
  rfl
theorem Rd.one {w : World} {b o n cap : Nat} {cs : List Value} (h : Rd w 1 (some ⟨b, o, none⟩) n cap cs) {k : Nat} {v : Value} (hv : cs[k]? = some v) : w.cell? ⟨b, o + k, none⟩ = some v := by
  have hf : cs = cs.flatMap (fun x => [x]) := by simp
  rw [hf] at h
  obtain ⟨b', o', e, _, hc⟩ := h.elem (k := 1) (fun s => [s]) (fun _ => rfl) (by omega) hv
  cases e
  have := hc 0 _ rfl
  simpa using this
theorem St.ptr {w0 w : World} {b o n cap : Nat} {pb : Nat → Nat} {l : List Thing} (i : Nat) (h : St w0 w l) (hi : l[i]? = some (sl 29 1 (some ⟨b, o, none⟩) n cap (ptrs pb n))) {k : Nat} (hk : k < n) :
    w.cell? ⟨b, o + k, none⟩ = some (.pointer (some ⟨pb k, 0, none⟩)) ∧ b < w.heap.size :=
  ⟨(h.slice i hi).rd.one (ptrs_get pb hk), (h.slice i hi).lt b rfl⟩

noncomputable def agrTail : Code := ((Try.f5.body.bind (codeAt 34)).getD .skip)

set_option maxRecDepth 100000 in
set_option maxHeartbeats 4000000 in
theorem agr_tail (x0 x1 x2 x3 x4 x5 x8 x10 x11 x12 x13 x14 x15 x16 x17 x18 x19 x20 x21 x22 x23 x24 x25 x26 x27 x28 x29 x30 x31 x32 x33 x34 x35 x36 x37 x38 x39 x40 x41 x42 x43 x44 x45 x46 x47 x48 x49 x50 x51 x52 x53 x54 x55 x56 x57 x58 x59 x60 x61 x62 x63 x64 x65 x66 x67 x68 x69 x70 x71 x72 x73 x74 x75 x76 x77 x78 x79 x80 x81 x82 x83 x84 x85 x86 x87 x88 x89 x90 x91 x92 x93 x94 x95 x96 x97 x98 x99 x100 x101 x102 x103 x104 x105 x106 x107 x108 x109 x110 x111 x112 x113 x114 x115 x116 x117 x118 x119 x120 x121 x122 x123 x124 x125 x126 x127 x128 x129 x130 x131 x132 x133 x134 x135 x136 x137 x138 x139 x140 x141 x142 x143 x144 x145 x146 x147 x148 x149 x150 x151 x152 x153 x154 x155 x156 x157 x158 x159 x160 x161 x162 x163 x164 x165 x166 x167 x168 x169 x170 x171 x172 x173 x174 x175 x176 x177 x178 x179 x180 x181 x182 x183 x184 : Value) {W w : World} {b o cap bb n : Nat} {T : Thing} {best : No} {pb : Nat → Nat} {V : Int → Vr} (hn : n ≤ 7) (h : St W w (sl 29 1 (some ⟨b, o, none⟩) n cap (ptrs pb n) :: T :: bx bb best.cells.toArray 23 :: vs pb V n))
    (hd : ∀ i, In n i → (V i).servers = n ∧ (V i).wait = 2 ∧ (V i).tick.wait = 1 ∧ (V i).tick.servers = n ∧ (V i).tick.tick.does = 2 ∧ (V i).tick.tick.vote.l = best.le ∧ (V i).tick.tick.round = 1 ∧ True) :
    Code.wp Try.prog agrTail (bodyPost Try.prog Try.f5 (CopyPost (.bool true) W)) ⟨#[x0, x1, x2, x3, x4, x5, .int .i64 (n : Int), .slice (some ⟨b, o, none⟩) n cap, x8, .pointer (some ⟨bb, 0, none⟩), x10, x11, x12, x13, x14, x15, x16, x17, x18, x19, x20, x21, x22, x23, x24, x25, x26, x27, x28, x29, x30, x31, x32, x33, x34, x35, x36, x37, x38, x39, x40, x41, x42, x43, x44, x45, x46, x47, x48, x49, x50, x51, x52, x53, x54, x55, x56, x57, x58, x59, x60, x61, x62, x63, x64, x65, x66, x67, x68, x69, x70, x71, x72, x73, x74, x75, x76, x77, x78, x79, x80, x81, x82, x83, x84, x85, x86, x87, x88, x89, x90, x91, x92, x93, x94, x95, x96, x97, x98, x99, x100, x101, x102, x103, x104, x105, x106, x107, x108, x109, x110, x111, x112, x113, x114, x115, x116, x117, x118, x119, x120, x121, x122, x123, x124, x125, x126, x127, x128, x129, x130, x131, x132, x133, x134, x135, x136, x137, x138, x139, x140, x141, x142, x143, x144, x145, x146, x147, x148, x149, x150, x151, x152, x153, x154, x155, x156, x157, x158, x159, x160, x161, x162, x163, x164, x165, x166, x167, x168, x169, x170, x171, x172, x173, x174, x175, x176, x177, x178, x179, x180, x181, x182, x183, x184], []⟩ w := by
  have HD := Lib.hid hd
  have HS := Lib.hid h
  clear hd h
  conv => arg 2; whnf
  dsimp only
  go_wp2
  go_loopg [17] n (fun g y wr => ∃ k : Nat, k + g = n ∧ y = .int .i64 k ∧ ∃ V', (∀ j, (k : Int) < j → V' j = V j) ∧ St W wr (sl 29 1 (some ⟨b, o, none⟩) n cap (ptrs pb n) :: T :: bx bb best.cells.toArray 23 :: vs pb V' n))
  case atStart => exact ⟨0, by omega, rfl, V, fun _ _ => rfl, HS.out⟩
  case round =>
    clear HS
    obtain ⟨k, hkg, rfl, V', hV', hS⟩ := hrel
    by_cases hkn : k < n
    · obtain ⟨d1, d2, d3, d4, d5, d6, d7, d8⟩ := HD.out ((k : Int) + 1) ⟨by omega, by omega⟩
      obtain ⟨cp, hb⟩ := hS.ptr 0 rfl hkn
      have HS := Lib.hid (hS.voter hkn)
      rw [hV' _ (by omega)] at HS
      have HV := Lib.hid hV'
      clear hS hV'
      obtain ⟨X, hX⟩ : ∃ X, V ((k : Int) + 1) = X := ⟨_, rfl⟩
      rw [hX] at HS d1 d2 d3 d4 d5 d6 d7
      clear hX
      have E6 := Lib.hid d6
      have E7 := Lib.hid d7
      have E8 := Lib.hid d8
      clear d6 d7 d8
      go_wp2_with fail
      refine (tick_st HS.out (by rw [d1]; omega) (by rw [d1]; omega) (by rw [d2]; omega) (by rw [d2]; omega)).mono ?_
      rintro e w1 ⟨a1, cap1, rfl, hS1⟩
      have hS1 := hS1.tail
      have HS1 := Lib.hid hS1
      clear cp hb hS1
      obtain ⟨cp, hb⟩ := HS1.out.ptr 1 rfl hkn
      go_wp2_with fail
      refine (tick_st HS1.out (by rw [d4]; omega) (by rw [d4]; omega) (by rw [d3]; omega) (by rw [d3]; omega)).mono ?_
      rintro e w2 ⟨a2, cap2, rfl, hS2⟩
      have HS2 := Lib.hid hS2.tail
      clear cp hb hS2 HS HS1
      obtain ⟨Y, hY⟩ : ∃ Y, X.tick.tick = Y := ⟨_, rfl⟩
      have hd : Y.does = 2 := by rw [← hY]; exact d5
      have hl : Y.vote.l = best.le := by rw [← hY]; exact E6.out
      have hr : Y.round = 1 := by rw [← hY]; exact E7.out
      have hL : Y.leads = .tuple #[.int .i64 best.le, .bool true] := by rw [Vr.leads, if_pos hd, hl]
      have HL := Lib.hid hL
      have HR := Lib.hid hr
      rw [hY] at HS2
      clear hY hd hl hr hL d1 d2 d3 d4 d5 E6 E7 E8
      obtain ⟨cp, hb⟩ := HS2.out.ptr 1 rfl hkn
      go_wp2_with fail
      refine (leader_st HS2.out).mono ?_
      rw [HL.out]
      rintro e w3 ⟨rfl, hS3⟩
      have HS3 := Lib.hid hS3
      clear cp hb hS3 HS2
      obtain ⟨cp, hb⟩ := HS3.out.ptr 1 rfl hkn
      have cb := blk_cell (HS3.out.box 3 rfl) 3 (.int .i64 best.le) rfl
      have hbb := heap_lt (HS3.out.box 3 rfl)
      go_wp2_with fail
      refine (round_st HS3.out).mono ?_
      rw [HR.out]
      rintro e w4 ⟨rfl, hS4⟩
      have HS4 := Lib.hid (hS4.unvoter hkn)
      clear cp hb cb hbb hS4 HS3
      go_wp2
      go_roundg (gk - 1)
      case measure => omega
      case rel => exact ⟨k + 1, by omega, by simp, _, fun j hj => by rw [put2_other _ _ (by omega)]; exact HV.out j (by omega), HS4.out⟩
    · have HM := Lib.hid hS.1
      clear hS
      go_wp2
      go_ret
      exact ⟨rfl, HM.out⟩
end Go.Proofs.Ytmikenagaihoiaa
