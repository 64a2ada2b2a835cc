/-
  VoteAgrees: the middle loop, in which notes are delivered in whatever order.
  Conditions: the net at the start.
-/
import Derived.Test.YtmikenagaihoiaaVoteN
namespace Go.Proofs.Ytmikenagaihoiaa
open Go.RowKit
set_option linter.unusedSectionVars false
set_option linter.unusedSimpArgs false
set_option linter.unusedVariables false

theorem cellsC : Try.prog.cellsOf 41 = 7 := by kernel_rfl
theorem isC : (Try.prog.info? 41).isSome = true := by kernel_rfl
theorem sizeC : (Try.prog.info? 41).map (·.size) = some 7 := by kernel_rfl

theorem St.voterP {w0 w : World} {p : List Thing} {pb : Nat → Nat} {V : Int → Vr} {n i : Nat} (h : St w0 w (p ++ vs pb V n)) (hi : i < n) : St w0 w (vr (pb i) (V ((i : Int) + 1)) :: (p ++ vsRest pb V n i)) :=
  h.perm (((vs_out pb V hi).append_left p).trans List.perm_middle)
theorem St.unvoterP {w0 w : World} {p : List Thing} {pb : Nat → Nat} {V : Int → Vr} {n i : Nat} {X : Vr} (h : St w0 w (vr (pb i) X :: (p ++ vsRest pb V n i))) (hi : i < n) : St w0 w (p ++ vs pb (put2 V ((i : Int) + 1) X) n) :=
  h.perm (List.perm_middle.symm.trans ((vs_in pb V hi X).append_left p))

/-- What the middle loop holds. -/
structure Mid (W : World) (n : Nat) (own : Int → Vt) (b o cap bb : Nat) (best : No) (pb : Nat → Nat) (ua : Option Addr) (m ucap : Nat) (U : List Cs) (V : Int → Vr) (w : World) : Prop where
  nt : Nt n own V U
  len : U.length = m
  st : St W w (sl 29 1 (some ⟨b, o, none⟩) n cap (ptrs pb n) :: sl 41 7 ua m ucap (U.flatMap Cs.cells) :: bx bb best.cells.toArray 23 :: vs pb V n)

theorem Rd.int1 {w : World} {a : Option Addr} {n cap : Nat} {raw : List Int} (h : Rd w 1 a n cap (raw.map (Value.int .i64))) {r : Nat} {x : Int} (hx : raw[r]? = some x) : ∃ b o, a = some ⟨b, o, none⟩ ∧ b < w.heap.size ∧ w.cell? ⟨b, o + r, none⟩ = some (.int .i64 x) := by
  have e : ∀ l : List Int, l.map (Value.int .i64) = l.flatMap (fun x => [Value.int .i64 x]) := by
    intro l
    induction l with
    | nil => rfl
    | cons y ys ih => rw [List.map_cons, List.flatMap_cons, ih]; rfl
  rw [e] at h
  obtain ⟨b, o, rfl, hb, hc⟩ := h.elem (k := 1) (fun x => [Value.int .i64 x]) (fun _ => rfl) (by omega) hx
  exact ⟨b, o, rfl, hb, by have := hc 0 _ rfl; simpa using this⟩

theorem take_drop_flat (U : List Cs) (k m : Nat) (hm : U.length = m) : (U.flatMap Cs.cells).take (k * 7) ++ ((U.flatMap Cs.cells).drop ((k + 1) * 7)).take ((m - (k + 1)) * 7) = (U.take k ++ U.drop (k + 1)).flatMap Cs.cells := by
  rw [List.take_of_length_le (l := (U.flatMap Cs.cells).drop ((k + 1) * 7)) (by rw [List.length_drop, flatk_length Cs.cells cslen, hm]; omega), flatk_take Cs.cells cslen, flatk_drop Cs.cells cslen, List.flatMap_append]

noncomputable def agrMid : Code := ((Try.f5.body.bind (codeAt 19)).getD .skip)

set_option maxRecDepth 100000 in
set_option maxHeartbeats 4000000 in
theorem agr_mid (x0 x2 x3 x4 x5 x10 x11 x12 x13 x14 x15 x16 x17 x18 x19 x20 x21 x22 x23 x24 x25 x26 x27 x28 x29 x30 x31 x32 x33 x34 x35 x36 x37 x38 x39 x40 x41 x42 x43 x44 x45 x46 x47 x48 x49 x50 x51 x52 x53 x54 x55 x56 x57 x58 x59 x60 x61 x62 x63 x64 x65 x66 x67 x68 x69 x70 x71 x72 x73 x74 x75 x76 x77 x78 x79 x80 x81 x82 x83 x84 x85 x86 x87 x88 x89 x90 x91 x92 x93 x94 x95 x96 x97 x98 x99 x100 x101 x102 x103 x104 x105 x106 x107 x108 x109 x110 x111 x112 x113 x114 x115 x116 x117 x118 x119 x120 x121 x122 x123 x124 x125 x126 x127 x128 x129 x130 x131 x132 x133 x134 x135 x136 x137 x138 x139 x140 x141 x142 x143 x144 x145 x146 x147 x148 x149 x150 x151 x152 x153 x154 x155 x156 x157 x158 x159 x160 x161 x162 x163 x164 x165 x166 x167 x168 x169 x170 x171 x172 x173 x174 x175 x176 x177 x178 x179 x180 x181 x182 x183 x184 : Value) {W w : World} {b o cap bb n : Nat} {ow : Int → Vt} {best : No} {pb : Nat → Nat} {V : Int → Vr} {ua ra : Option Addr} {m ucap rn rcap : Nat} {raw : List Int} {U : List Cs} (hn : n ≤ 7) (h1 : 1 ≤ n) (h : Mid W n ow b o cap bb best pb ua m ucap U V w) (hp : pot n ow V U ≤ 400)
    (hr : Rd W 1 ra rn rcap (raw.map (Value.int .i64))) (hrn : raw.length = rn) (hwf : ∀ x ∈ raw, wf64 x) (hrl : rn ≤ 2 ^ 63 - 1) (hl : ∀ j, (ow j).l = j) (hbest : best.le = (bestOf ow n).l) :
    Code.wp Try.prog agrMid (bodyPost Try.prog Try.f5 (CopyPost (.bool true) W)) ⟨#[x0, .slice ra rn rcap, x2, x3, x4, x5, .int .i64 (n : Int), .slice (some ⟨b, o, none⟩) n cap, .slice ua m ucap, .pointer (some ⟨bb, 0, none⟩), x10, x11, x12, x13, x14, x15, x16, x17, x18, x19, x20, x21, x22, x23, x24, x25, x26, x27, x28, x29, x30, x31, x32, x33, x34, x35, x36, x37, x38, x39, x40, x41, x42, x43, x44, x45, x46, x47, x48, x49, x50, x51, x52, x53, x54, x55, x56, x57, x58, x59, x60, x61, x62, x63, x64, x65, x66, x67, x68, x69, x70, x71, x72, x73, x74, x75, x76, x77, x78, x79, x80, x81, x82, x83, x84, x85, x86, x87, x88, x89, x90, x91, x92, x93, x94, x95, x96, x97, x98, x99, x100, x101, x102, x103, x104, x105, x106, x107, x108, x109, x110, x111, x112, x113, x114, x115, x116, x117, x118, x119, x120, x121, x122, x123, x124, x125, x126, x127, x128, x129, x130, x131, x132, x133, x134, x135, x136, x137, x138, x139, x140, x141, x142, x143, x144, x145, x146, x147, x148, x149, x150, x151, x152, x153, x154, x155, x156, x157, x158, x159, x160, x161, x162, x163, x164, x165, x166, x167, x168, x169, x170, x171, x172, x173, x174, x175, x176, x177, x178, x179, x180, x181, x182, x183, x184], []⟩ w := by
  obtain ⟨ip, hip1, hip2, hip3⟩ := info_parts infoC
  have HI := Lib.hid (And.intro hip1 (And.intro hip2 hip3))
  have HM := Lib.hid h
  have HP := Lib.hid hp
  have HR := Lib.hid hr
  have HW := Lib.hid hwf
  have HRN := Lib.hid hrn
  have HO := Lib.hid hl
  have HB := Lib.hid hbest
  clear hip1 hip2 hip3 h hp hr hwf hrn hl hbest
  conv => arg 2; whnf
  dsimp only
  go_wp2
  go_loopg [8, 13] 400 (fun g x8 y wr => ∃ (j : Nat) (ua : Option Addr) (m ucap : Nat) (U : List Cs) (V : Int → Vr), x8 = .slice ua m ucap ∧ y = .int .i64 j ∧ pot n ow V U ≤ g ∧ j + g = 400 ∧ Mid W n ow b o cap bb best pb ua m ucap U V wr)
  case atStart => exact ⟨0, ua, m, ucap, U, V, rfl, rfl, HP.out, rfl, HM.out⟩
  case round =>
    clear HM HP
    obtain ⟨j, ua, m, ucap, U, V, rfl, rfl, hpot, hj, hmid⟩ := hrel
    have hml : m ≤ gk := by have := hmid.len; have : U.length ≤ pot n ow V U := Nat.le_add_right _ _; omega
    by_cases hm0 : 0 < m
    · have hj2 : decide ((j : Int) < 2000) = true := by simp; omega
      have HMID := Lib.hid hmid
      have HPOT := Lib.hid hpot
      clear hmid hpot
      go_upto_if 97 with (fail)
      go_cut [14] (fun v wx => wr = wx ∧ ∃ k : Nat, k < m ∧ v = .int .i64 k)
      case first =>
        by_cases hr0 : 0 < rn
        · obtain ⟨r, hrr⟩ : ∃ r : Nat, (j : Int).tmod (rn : Int) = (r : Int) ∧ r < rn := ⟨j % rn, by rw [Int.tmod_eq_emod_of_nonneg (by omega)]; omega, Nat.mod_lt _ hr0⟩
          obtain ⟨hrm, hrlt⟩ := hrr
          have hrx : raw[r]? = some (raw[r]'(HRN.out ▸ hrlt)) := List.getElem?_eq_getElem _
          have hxw := HW.out (raw[r]'(HRN.out ▸ hrlt)) (List.getElem_mem _)
          generalize raw[r]'(HRN.out ▸ hrlt) = x at hrx hxw
          obtain ⟨rb, ro, rfl, hrb, c0⟩ := (HMID.out.st.old HR.out).int1 hrx
          have hrz : ((rn : Int) == 0) = false := by simp; omega
          clear hrx
          go_wp2_with fail
          refine (pick_any x m wr hxw.1 hxw.2 (by omega) (by omega)).mono ?_
          rintro e w1 ⟨k, hk, rfl, rfl⟩
          go_wp2
          go_meet
          exact ⟨rfl, k, by omega, rfl⟩
        · obtain rfl : rn = 0 := by omega
          go_wp2_with fail
          go_meet
          exact ⟨rfl, 0, hm0, rfl⟩
      case rest =>
        obtain ⟨rfl, k, hk, rfl⟩ := hcut
        obtain ⟨c, hc0⟩ : ∃ c, U[k]? = some c := ⟨U[k]'(by rw [HMID.out.len]; exact hk), List.getElem?_eq_getElem _⟩
        have hS := HMID.out.st
        obtain ⟨ub, uo, rfl, hub, hcc⟩ := (hS.slice 1 rfl).rd.elem Cs.cells cslen (by omega) hc0
        obtain ⟨q1, q2, q3, q4, q5, q6, q7⟩ := HMID.out.nt.note c (List.mem_of_getElem? hc0)
        have HC := Lib.hid (show ∀ t u, c.cells[t]? = some u → wr.cell? ((⟨ub, uo + k * 7, none⟩ : Addr).add t) = some u from fun t u hu => by
          rw [add_none]
          exact hcc t u hu)
        have HC0 := Lib.hid hc0
        have hu1 := (hS.slice 1 rfl).2.1
        have HS := Lib.hid hS
        have q11 := q1.1
        have q12 := q1.2
        clear hcc hc0 hS q1 q2 q3 q4 q5 q6 q7
        have hkc : k ≤ ucap := by omega
        go_upto_region 27 with (first | ((with_reducible refine at_list ?_); refine wpList_load_chunk 7 _ Try.underlying41 rfl sizeC ⟨ub, uo + k * 7, none⟩ rfl c.cells rfl HC.out ?_) | (refine wpList_store_whole 7 sizeC wr.heap.size rfl _ _ (heap_alloc_new wr _) rfl c.cells rfl rfl (by kernel_rfl) ?_; intro w8 hb8 hm8 hz8; have hS8 := (HS.out.box1 _ _).rebox 0 rfl hb8 hm8; have HS8 := Lib.hid hS8; have zb := heap_lt hb8; clear hb8 hm8 hz8 hS8; generalize wr.heap.size = cb at zb HS8 ⊢))
        clear HC HS hub zb
        have HV8 := Lib.hid (HS8.out.slice 2 rfl)
        go_upto_region 29 with (first
          | (at_builtin; refine wpList_append 41 ip _ 7 56 (by kernel_rfl) HI.out.1 HI.out.2.1 HI.out.2.2.1 HI.out.2.2.2 rfl none 0 0 [] rfl (Sl.nil _ _ _) (some ⟨ub, uo, none⟩) k ucap _ rfl (HV8.out.rd.upto k (by omega)) (fun u hu => cs_one U u (List.mem_of_mem_take hu)) (by unfold maxLen; omega) (by omega) ?_; rw [Nat.zero_add, List.nil_append]; intro a9 cap9 w9 hS9 hM9 hF9 hN9 hG9; clear hN9 hG9; have hT89 : Mod (fun _ => False) w8 w9 := hM9.mono (fun x _ hx => by cases hx))
          | ((with_reducible refine at_list ?_); refine wpList_cutR 41 7 (by kernel_rfl) cellsC isC (some ⟨ub, uo, none⟩) m ucap (U.flatMap Cs.cells) rfl (HV8.out.rd.mod hT89 (fun _ _ => id)) _ _ _ rfl rfl rfl (k + 1) m ucap (bounds_l _ _ _ _ (by omega) (by omega)) (by omega) (Nat.le_refl _) hu1 (Nat.le_refl _) ?_; intro p10 hR10 hO10)
          | (at_builtin; refine wpList_append 41 ip _ 7 56 (by kernel_rfl) HI.out.1 HI.out.2.1 HI.out.2.2.1 HI.out.2.2.2 rfl a9 k cap9 _ rfl hS9 p10 (m - (k + 1)) (ucap - (k + 1)) _ rfl hR10 (fun u hu => cs_one U u (List.mem_of_mem_drop (List.mem_of_mem_take hu))) (by unfold maxLen; omega) (by omega) ?_; rw [show k + (m - (k + 1)) = m - 1 from by omega, take_drop_flat U k m HMID.out.len]; intro a11 cap11 w11 hS11 hM11 hF11 hN11 hG11; clear hN11 hG11))
        have ho9 : ∀ x, own a9 = some x → w8.heap.size ≤ x := fun x hx => by
          rcases hF9 x hx with h | h
          · cases h
          · exact h.1
        have hT811 : Mod (fun _ => False) w8 w11 := hT89.then hM11 (fun x hx h => by have := ho9 x h; omega)
        have hz89 := hT89.size
        have hS12 := (HS8.out.newSlice hT811 hS11 (fun x hx => by
          rcases hF11 x hx with h | h
          · exact ho9 x h
          · omega)).perm (((perm3 _ _ _ _ _)))
        have hS12 := hS12.tail
        clear hR10 hO10 hS9 hM9 hF9 hS11 hM11 hF11 hT89 hT811 hz89 ho9 HV8 HS8
        obtain ⟨hnt, hpt⟩ := HMID.out.nt.step HO.out k c HC0.out
        obtain ⟨i0, hi0, htox⟩ : ∃ i0 : Nat, i0 < n ∧ c.tox = (i0 : Int) + 1 := ⟨(c.tox - 1).toNat, by omega, by omega⟩
        obtain ⟨R, hRR⟩ : ∃ R, U.take k ++ U.drop (k + 1) = R := ⟨_, rfl⟩
        have hRl : R.length = m - 1 := by have := HMID.out.len; rw [← hRR, List.length_append, List.length_take, List.length_drop]; omega
        have hlo := HMID.out.nt.lo c.tox ⟨q11, q12⟩
        have hv := hS12.voterP (p := [_, _, _, _]) hi0
        rw [← htox] at hv
        have hv := hv.flat hlo.ok
        have HOK := Lib.hid (Vr.flat_ok hlo.ok)
        obtain ⟨Y, hY⟩ : ∃ Y, (V c.tox).flat = Y := ⟨_, rfl⟩
        have hn0 : Y.hn = 1000 := by rw [← hY]; rfl
        have hs0 : Y.sn = 1000 := by rw [← hY]; rfl
        rw [hRR] at hv hnt hpt
        rw [hY] at hv hnt hpt HOK
        clear hRR hY hlo hS12
        obtain ⟨xs, hxs⟩ : ∃ xs, Y.hearCs c.n = xs := ⟨_, rfl⟩
        obtain ⟨Z, hZ⟩ : ∃ Z, Y.hear c.n = Z := ⟨_, rfl⟩
        rw [hxs, hZ] at hnt hpt
        obtain ⟨mx, hmx⟩ : ∃ mx, xs.length = mx := ⟨_, rfl⟩
        have HPOT2 := Lib.hid (show pot n ow (put2 V c.tox Z) (R ++ xs) ≤ gk - 1 from by have := HPOT.out; omega)
        have hbd : m - 1 + mx ≤ 400 ∧ 1 ≤ gk := by
          have h1 : (R ++ xs).length ≤ pot n ow (put2 V c.tox Z) (R ++ xs) := Nat.le_add_right _ _
          rw [List.length_append, hRl, hmx] at h1
          have := HPOT.out
          omega
        obtain ⟨hbd, hgk⟩ := hbd
        have HNT := Lib.hid hnt
        have HXS := Lib.hid hxs
        have HZ := Lib.hid hZ
        have HMX := Lib.hid hmx
        have HRL := Lib.hid hRl
        have HTX := Lib.hid htox
        have hw1 : IntKind.i64.wrap (c.tox - 1) = (i0 : Int) := by rw [htox, show (i0 : Int) + 1 - 1 = i0 by omega]; exact IntWalk.i64_in _ (by omega)
        have g1 : decide (c.tox < 1) = false := by simp; omega
        have g2 : decide ((n : Int) < c.tox) = false := by simp; omega
        have hbx := hv.box 2 rfl
        have e0 := blk_cell hbx 0 (.int .i64 c.tox) rfl
        have e1 := blk_cell hbx 1 (.int .i64 c.n.fr) rfl
        have e2 := blk_cell hbx 2 (.int .i64 c.n.st) rfl
        have e3 := blk_cell hbx 3 (.int .i64 c.n.ro) rfl
        have e4 := blk_cell hbx 4 (.int .i64 c.n.le) rfl
        have e5 := blk_cell hbx 5 (.int .i64 c.n.ep) rfl
        have e6 := blk_cell hbx 6 (.int .i64 c.n.zx) rfl
        have hcb := heap_lt hbx
        obtain ⟨e7, hbl⟩ := hv.ptr 3 rfl hi0
        have HV := Lib.hid hv
        clear hnt hpt hxs hZ hmx hRl htox hbx hv q11 q12 HPOT
        go_upto_region 31 with (fail)
        go_region_held3 (fun w' => w'.cell? ⟨cb, 0, none⟩ = some (.int .i64 c.tox) ∧ w'.cell? ⟨cb, 1, none⟩ = some (.int .i64 c.n.fr) ∧ w'.cell? ⟨cb, 2, none⟩ = some (.int .i64 c.n.st) ∧ w'.cell? ⟨cb, 3, none⟩ = some (.int .i64 c.n.ro) ∧ w'.cell? ⟨cb, 4, none⟩ = some (.int .i64 c.n.le) ∧ w'.cell? ⟨cb, 5, none⟩ = some (.int .i64 c.n.ep) ∧ w'.cell? ⟨cb, 6, none⟩ = some (.int .i64 c.n.zx) ∧ w'.cell? ⟨b, o + i0, none⟩ = some (.pointer (some ⟨pb i0, 0, none⟩)))
          (first | exact ⟨e0, e1, e2, e3, e4, e5, e6, e7⟩ | exact ⟨f0, f1, f2, f3, f4, f5, f6, f7⟩ | exact ⟨g0, g1, g2, g3, g4, g5, g6, g7⟩ | go_keep)
          ((first
            | (go_at_call 11; refine (hear_st (HV.out.mod ((Mod.refl _ _).drewN _)) c.n HOK.out (by rw [hn0]; omega) (by rw [hs0]; omega)).mono ?_; rw [HXS.out, HZ.out]; rintro e w2 ⟨a2, cap2, rfl, hS2⟩; rw [HMX.out] at hS2 ⊢; have f0 := blk_cell (hS2.box 3 rfl) 0 (.int .i64 c.tox) rfl; have f1 := blk_cell (hS2.box 3 rfl) 1 (.int .i64 c.n.fr) rfl; have f2 := blk_cell (hS2.box 3 rfl) 2 (.int .i64 c.n.st) rfl; have f3 := blk_cell (hS2.box 3 rfl) 3 (.int .i64 c.n.ro) rfl; have f4 := blk_cell (hS2.box 3 rfl) 4 (.int .i64 c.n.le) rfl; have f5 := blk_cell (hS2.box 3 rfl) 5 (.int .i64 c.n.ep) rfl; have f6 := blk_cell (hS2.box 3 rfl) 6 (.int .i64 c.n.zx) rfl; obtain ⟨f7, f8⟩ := hS2.ptr 4 rfl hi0; have HS2 := Lib.hid hS2; clear hS2)
            | (refine step_append rfl rfl 41 ip _ 7 56 (by kernel_rfl) HI.out.1 HI.out.2.1 HI.out.2.2.1 HI.out.2.2.2 rfl a11 (m - 1) cap11 (R.flatMap Cs.cells) (by rfl) (HS2.out.slice 2 rfl) a2 mx cap2 (xs.flatMap Cs.cells) (by rfl) (HS2.out.slice 0 rfl).rd (cs_one xs) (by unfold maxLen; omega) (by omega) ?_; intro a6 cap6 w6 hS6 hM6 hF6 hN6 hR6; have hSA := (HS2.out.regrow 2 rfl hS6 hM6 hF6).tail; have g0 := blk_cell (hSA.box 2 rfl) 0 (.int .i64 c.tox) rfl; have g1 := blk_cell (hSA.box 2 rfl) 1 (.int .i64 c.n.fr) rfl; have g2 := blk_cell (hSA.box 2 rfl) 2 (.int .i64 c.n.st) rfl; have g3 := blk_cell (hSA.box 2 rfl) 3 (.int .i64 c.n.ro) rfl; have g4 := blk_cell (hSA.box 2 rfl) 4 (.int .i64 c.n.le) rfl; have g5 := blk_cell (hSA.box 2 rfl) 5 (.int .i64 c.n.ep) rfl; have g6 := blk_cell (hSA.box 2 rfl) 6 (.int .i64 c.n.zx) rfl; obtain ⟨g7, g8⟩ := hSA.ptr 3 rfl hi0; have HSA := Lib.hid hSA; clear hN6 hR6 hSA hS6)))
        all_goals
          have hS := HSA.out.unvoterP (p := [_, _, _, _]) hi0
          have hS := (hS.perm (.swap _ _ _)).tail
          have HS := Lib.hid (hS.perm (.swap _ _ _))
          clear hS
          go_wp2
          go_roundg (gk - 1)
          case measure => omega
          case rel =>
            refine ⟨j + 1, a6, m - 1 + mx, cap6, R ++ xs, put2 V c.tox Z, rfl, by simp, HPOT2.out, by omega, HNT.out, by rw [List.length_append, HRL.out, HMX.out], ?_⟩
            rw [List.flatMap_append, HTX.out]
            exact HS.out
    · obtain rfl : m = 0 := by omega
      obtain rfl : U = [] := List.length_eq_zero_iff.1 hmid.len
      have hnt := hmid.nt
      have hd : ∀ i, In n i → (V i).servers = n ∧ (V i).wait = 2 ∧ (V i).tick.wait = 1 ∧ (V i).tick.servers = n ∧ (V i).tick.tick.does = 2 ∧ (V i).tick.tick.vote.l = best.le ∧ (V i).tick.tick.round = 1 ∧ True := fun i hi => by
        obtain ⟨d1, d2, d3, d4, d5, d6⟩ := hnt.done hi
        exact ⟨(hnt.lo i hi).sv, d1, d2, d3, d4, by rw [d5, HB.out], d6, trivial⟩
      have HD := Lib.hid hd
      have HS := Lib.hid hmid.st
      clear hmid hnt hd
      go_upto_if 145 with (fail)
      go_cut [] (fun wx => wr = wx)
      case first =>
        go_wp2
        go_meet
        rfl
      case rest =>
        subst hcut
        apply_assumption
        exact agr_tail _ _ _ _ _ _ _ _ _ _ _ _ _ _ _ _ _ _ _ _ _ _ _ _ _ _ _ _ _ _ _ _ _ _ _ _ _ _ _ _ _ _ _ _ _ _ _ _ _ _ _ _ _ _ _ _ _ _ _ _ _ _ _ _ _ _ _ _ _ _ _ _ _ _ _ _ _ _ _ _ _ _ _ _ _ _ _ _ _ _ _ _ _ _ _ _ _ _ _ _ _ _ _ _ _ _ _ _ _ _ _ _ _ _ _ _ _ _ _ _ _ _ _ _ _ _ _ _ _ _ _ _ _ _ _ _ _ _ _ _ _ _ _ _ _ _ _ _ _ _ _ _ _ _ _ _ _ _ _ _ _ _ _ _ _ _ _ _ _ _ _ _ _ _ _ _ _ _ _ _ _ _ hn HS.out HD.out
end Go.Proofs.Ytmikenagaihoiaa
