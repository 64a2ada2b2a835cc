/-
  PostPlays: two posts by turns, the program's and the document's.
  No condition.
-/
import Derived.Test.YtnggolgpnbdghaaPostZ
import Derived.Test.YtnggolgpnbdghaaPostOpen
import Derived.Deep.DeepCutAuto
import Derived.Deep.LoopGhost
namespace Go.Proofs.Ytnggolgpnbdghaa
open Go.ChangeShapes Go.WideShapes Go.ChangeAt Go.RowKit Go.Deep
set_option linter.unusedSectionVars false
set_option linter.unusedSimpArgs false
set_option linter.unusedVariables false

/-- One step of a script. -/
structure Stp where
  what : Int
  num : Int
  s : Option Addr
  n : Nat
  sc : Nat
  ys : List Pk
instance : Inhabited Stp := ⟨⟨0, 0, none, 0, 0, []⟩⟩
def Stp.cells (x : Stp) : List Value := [.int .i64 x.what, .int .i64 x.num, .slice x.s x.n x.sc]
def Stp.ok (w : World) (x : Stp) : Prop := (-9223372036854775808 ≤ x.what ∧ x.what ≤ 9223372036854775807) ∧ (-9223372036854775808 ≤ x.num ∧ x.num ≤ 9223372036854775807) ∧ x.ys.length = x.n ∧ Rd w 8 x.s x.n x.sc (flat x.ys) ∧ fits (400 + x.n)

def InRel (W : World) (a : Option Addr) (n cap : Nat) (L : List Thing) (wi : World) : Prop := ∃ cs, St W wi (sl 32 8 a n cap cs :: L)

theorem same_n' (a b : Option Addr) (ca cb n : Nat) (xs : List Pk) (hn : xs.length = n) (w : World) (ha : Rd w 8 a n ca (flat xs)) (hb : Rd w 8 b n cb (flat xs)) :
    Calls Try.prog 8 #[.slice a n ca, .slice b n cb] w (DrawPost (.bool true) w) := by
  subst hn; exact same_yes a b ca cb xs w ha hb

/-- What holds between the steps: each post holds what the document's holds. -/
def PlRel (W : World) (p0 p1 r0 r1 pa ra : Nat) (wr : World) : Prop :=
  ∃ (xs ys : List Pk) (l : List Thing), xs.length ≤ 400 ∧ ys.length ≤ 400 ∧
    St W wr (pst 47 p0 xs :: pst 51 r0 xs :: pst 47 p1 ys :: pst 51 r1 ys ::
      bx pa #[.pointer (some ⟨p0, 0, none⟩), .pointer (some ⟨p1, 0, none⟩)] 25 :: bx ra #[.pointer (some ⟨r0, 0, none⟩), .pointer (some ⟨r1, 0, none⟩)] 39 :: l)

set_option maxRecDepth 100000 in
set_option maxHeartbeats 4000000 in
theorem plays_walk (a0 : Option Addr) (c0 n : Nat) (l : List Stp) (hn : l.length = n) (W : World) (hr : Rd W 3 a0 n c0 (l.flatMap Stp.cells)) (hok : ∀ x ∈ l, Stp.ok W x) (hnl : n ≤ 2 ^ 63 - 1) :
    Calls Try.prog 4 #[.slice a0 n c0] W (AwakePost W) := by
  have HR := Lib.hid hr
  have HN := Lib.hid hn
  have HOK := Lib.hid hok
  clear hr hn hok
  go_enter Try.func4, Try.ntmps4
  go_wp2_with fail
  refine (awake_any W).mono ?_
  rintro e w1 ⟨rfl, hm⟩
  have hS := St.begin hm
  clear hm
  go_wp2_with fail
  refine (hS.newPost (New_any w1)).mono ?_
  clear hS
  rintro e w2 ⟨p0, rfl, hS⟩
  go_wp2_with fail
  refine (hS.newPost (New_any w2)).mono ?_
  clear hS
  rintro e w3 ⟨p1, rfl, hS⟩
  have hA := Lib.hid (hS.box1 #[.pointer (some ⟨p0, 0, none⟩), .pointer (some ⟨p1, 0, none⟩)] 25)
  clear hS
  go_wp2_with fail
  refine (hA.out.newPost (rNew_any _)).mono ?_
  rintro e w4 ⟨r0, rfl, hS⟩
  generalize w3.heap.size = pa at hS ⊢
  clear hA
  go_wp2_with fail
  refine (hS.newPost (rNew_any w4)).mono ?_
  clear hS
  rintro e w5 ⟨r1, rfl, hS⟩
  have hB := hS.box1 #[.pointer (some ⟨r0, 0, none⟩), .pointer (some ⟨r1, 0, none⟩)] 39
  clear hS
  -- the walk
  have hC : St W (w5.alloc (.cells #[.pointer (some ⟨r0, 0, none⟩), .pointer (some ⟨r1, 0, none⟩)] 39)) (pst 47 p0 [] :: pst 51 r0 [] :: pst 47 p1 [] :: pst 51 r1 [] ::
      bx pa #[.pointer (some ⟨p0, 0, none⟩), .pointer (some ⟨p1, 0, none⟩)] 25 :: bx w5.heap.size #[.pointer (some ⟨r0, 0, none⟩), .pointer (some ⟨r1, 0, none⟩)] 39 :: []) :=
    hB.perm ((List.reverse_perm _).symm.trans (List.Perm.cons _ ((List.perm_append_comm_assoc [_, _] [_] [_, _]).trans (.cons _ (.cons _ (.swap _ _ _))))))
  have hbA := hC.box 4 rfl
  have a0c := blk_cell hbA 0 (.pointer (some ⟨p0, 0, none⟩)) rfl
  have a1c := blk_cell hbA 1 (.pointer (some ⟨p1, 0, none⟩)) rfl
  have hza := heap_lt hbA
  have HC := Lib.hid hC
  clear hB hC hbA
  go_wp2
  go_loopg [6] n (fun g i wr => ∃ k : Nat, k + g = n ∧ i = .int .i64 k ∧ PlRel W p0 p1 r0 r1 pa w5.heap.size wr)
  case atStart => exact ⟨0, by omega, rfl, [], [], [], by simp, by simp, HC.out⟩
  case round =>
    clear a0c a1c hza HC
    generalize w5.heap.size = ra at *
    obtain ⟨k, hkg, rfl, xs, ys, tl, hxs0, hys0, hS0⟩ := hrel
    obtain ⟨G, hG⟩ : ∃ G : Nat, Hid (G = gk) := ⟨_, Lib.hid rfl⟩
    by_cases hlt : k < n
    · have hx : l[k]? = some (l[k]'(HN.out ▸ hlt)) := List.getElem?_eq_getElem _
      obtain ⟨x, hxx⟩ : ∃ x, l[k]'(HN.out ▸ hlt) = x := ⟨_, rfl⟩
      rw [hxx] at hx
      have hxo := HOK.out x (List.mem_of_getElem? hx)
      obtain ⟨b, o, rfl, hbl, hcell⟩ := (hS0.old HR.out).elem Stp.cells (fun _ => rfl) (by omega) hx
      obtain ⟨b', o', he, hbl', hcell'⟩ := HR.out.elem Stp.cells (fun _ => rfl) (by omega) hx
      injection he with he; injection he with he1 he2
      subst he1; subst he2
      obtain ⟨what, num, s, m, sc, ps⟩ := x
      have e0 : wr.cell? ⟨b, o + k * 3, none⟩ = some (.int .i64 what) := hcell 0 _ rfl
      have e1 : wr.cell? ⟨b, o + k * 3 + 1, none⟩ = some (.int .i64 num) := hcell 1 _ rfl
      have e2 : wr.cell? ⟨b, o + k * 3 + 2, none⟩ = some (.slice s m sc) := hcell 2 _ rfl
      have E0 : Hid (W.cell? ⟨b, o + k * 3, none⟩ = some (.int .i64 what)) := Lib.hid (hcell' 0 _ rfl)
      have E1 : Hid (W.cell? ⟨b, o + k * 3 + 1, none⟩ = some (.int .i64 num)) := Lib.hid (hcell' 1 _ rfl)
      have E2 : Hid (W.cell? ⟨b, o + k * 3 + 2, none⟩ = some (.slice s m sc)) := Lib.hid (hcell' 2 _ rfl)
      have HX := Lib.hid hxo
      have hn0 := HX.out.2.1
      clear hx hxx hxo hcell hcell'
      go_wp2_with fail
      refine (pick_any num 2 wr hn0.1 hn0.2 (by omega) (by omega)).mono ?_
      rintro e w6 ⟨kk, hkk2, rfl, rfl⟩
      have hxs : xs.length ≤ 400 := hxs0
      have hys : ys.length ≤ 400 := hys0
      rcases (show kk = 0 ∨ kk = 1 by omega) with hkk | hkk
      · subst hkk
        have hS : St W wr (pst 47 p0 xs :: pst 51 r0 xs :: pst 47 p1 ys :: pst 51 r1 ys :: bx pa #[.pointer (some ⟨p0, 0, none⟩), .pointer (some ⟨p1, 0, none⟩)] 25 :: bx ra #[.pointer (some ⟨r0, 0, none⟩), .pointer (some ⟨r1, 0, none⟩)] 39 :: tl) := hS0
        have u1 : wr.cell? ⟨pa, 0, none⟩ = some (.pointer (some ⟨p0, 0, none⟩)) := blk_cell (hS.box 4 rfl) 0 _ rfl
        have u2 : wr.cell? ⟨ra, 0, none⟩ = some (.pointer (some ⟨r0, 0, none⟩)) := blk_cell (hS.box 5 rfl) 0 _ rfl
        have HS := Lib.hid hS
        clear hS hS0 hxs0 hys0
        go_wp2
        go_region_held3 (fun w' => w'.cell? ⟨pa, 0, none⟩ = some (.pointer (some ⟨p0, 0, none⟩)) ∧ w'.cell? ⟨ra, 0, none⟩ = some (.pointer (some ⟨r0, 0, none⟩)) ∧ w'.cell? ⟨b, o + k * 3, none⟩ = some (.int .i64 what) ∧ w'.cell? ⟨b, o + k * 3 + 1, none⟩ = some (.int .i64 num) ∧ w'.cell? ⟨b, o + k * 3 + 2, none⟩ = some (.slice s m sc))
          (first | exact ⟨u1, u2, e0, e1, e2⟩ | exact ⟨v1, v2, f0, f1, f2⟩)
          ((first
            | (go_at_call 14; refine (do_st (HS.out.mod ((Mod.refl _ _).drewN _)) hxs what num HX.out.1.1 HX.out.1.2 s m sc ps HX.out.2.2.1 HX.out.2.2.2.1 HX.out.2.2.2.2).mono ?_; rintro e w7 ⟨rfl, zs, hzs, hS7⟩; have v1 : w7.cell? ⟨pa, 0, none⟩ = some (.pointer (some ⟨p0, 0, none⟩)) := blk_cell (hS7.box 4 rfl) 0 _ rfl; have v2 : w7.cell? ⟨ra, 0, none⟩ = some (.pointer (some ⟨r0, 0, none⟩)) := blk_cell (hS7.box 5 rfl) 0 _ rfl; have f0 := hS7.1.cell E0.out id; have f1 := hS7.1.cell E1.out id; have f2 := hS7.1.cell E2.out id; have HS7 := Lib.hid hS7; clear hS7)))
        have hz7 := heap_lt (HS7.out.box 4 rfl)
        have hz7r := heap_lt (HS7.out.box 5 rfl)
        obtain ⟨q, hq⟩ : ∃ q, zs.length = q := ⟨_, rfl⟩
        have HQ := Lib.hid hq
        have hzs0 : zs.length ≤ 400 := hzs
        rw [hq] at hzs
        clear u1 u2 f0 f1 f2 hq
        go_wp2_with fail
        refine (HS7.out.all 0 HQ.out rfl (fun a cap hp => All_any p0 a cap zs w7 hp)).mono ?_
        rintro e w8 ⟨a8, cap8, rfl, hS8⟩
        have t1 : w8.cell? ⟨pa, 0, none⟩ = some (.pointer (some ⟨p0, 0, none⟩)) := blk_cell (hS8.box 5 rfl) 0 _ rfl
        have t2 : w8.cell? ⟨ra, 0, none⟩ = some (.pointer (some ⟨r0, 0, none⟩)) := blk_cell (hS8.box 6 rfl) 0 _ rfl
        have hz8 := heap_lt (hS8.box 5 rfl)
        have hz8r := heap_lt (hS8.box 6 rfl)
        have HS8 := Lib.hid hS8
        clear hS8 v1 v2
        go_wp2
        go_region_held3 (fun w' => w'.cell? ⟨pa, 0, none⟩ = some (.pointer (some ⟨p0, 0, none⟩)) ∧ w'.cell? ⟨ra, 0, none⟩ = some (.pointer (some ⟨r0, 0, none⟩)))
          (first | exact ⟨t1, t2⟩ | exact ⟨t3, t4⟩ | exact ⟨t5, t6⟩ | exact ⟨t7, t8⟩ | exact ⟨t9, t10⟩)
          ((first
            | (go_at_call 12; refine ((HS8.out.mod ((Mod.refl _ _).drewN _)).postR 1 rfl (fun a cap hp => Len_any p0 a cap zs _ hp)).mono ?_; rw [HQ.out]; rintro e w9 ⟨rfl, hS9⟩; have t3 : w9.cell? ⟨pa, 0, none⟩ = some (.pointer (some ⟨p0, 0, none⟩)) := blk_cell (hS9.box 5 rfl) 0 _ rfl; have t4 : w9.cell? ⟨ra, 0, none⟩ = some (.pointer (some ⟨r0, 0, none⟩)) := blk_cell (hS9.box 6 rfl) 0 _ rfl; have HS9 := Lib.hid hS9; clear hS9)
            | (go_at_call 15; refine (HS9.out.postR 2 rfl (fun a cap hp => rLen_any r0 a cap zs _ hp)).mono ?_; rw [HQ.out]; rintro e w10 ⟨rfl, hS10⟩; have t5 : w10.cell? ⟨pa, 0, none⟩ = some (.pointer (some ⟨p0, 0, none⟩)) := blk_cell (hS10.box 5 rfl) 0 _ rfl; have t6 : w10.cell? ⟨ra, 0, none⟩ = some (.pointer (some ⟨r0, 0, none⟩)) := blk_cell (hS10.box 6 rfl) 0 _ rfl; have HS10 := Lib.hid hS10; clear hS10)
            | (go_at_call 16; refine (HS10.out.all 2 HQ.out rfl (fun a cap hp => rAll_any r0 a cap zs _ hp)).mono ?_; rintro e w11 ⟨a11, cap11, rfl, hS11⟩; have t7 : w11.cell? ⟨pa, 0, none⟩ = some (.pointer (some ⟨p0, 0, none⟩)) := blk_cell (hS11.box 6 rfl) 0 _ rfl; have t8 : w11.cell? ⟨ra, 0, none⟩ = some (.pointer (some ⟨r0, 0, none⟩)) := blk_cell (hS11.box 7 rfl) 0 _ rfl; have HS11 := Lib.hid hS11; clear hS11)
            | (go_at_call 8; refine (same_n' a8 a11 cap8 cap11 q zs HQ.out w11 (HS11.out.slice 1 rfl).rd (HS11.out.slice 0 rfl).rd).mono ?_; rintro e w12 ⟨d, rfl, rfl⟩; have t9 : (w11.drewN d).cell? ⟨pa, 0, none⟩ = some (.pointer (some ⟨p0, 0, none⟩)) := t7; have t10 : (w11.drewN d).cell? ⟨ra, 0, none⟩ = some (.pointer (some ⟨r0, 0, none⟩)) := t8; have HS12 := Lib.hid ((HS11.out.drewN d).tail))))
        clear t1 t2 t3 t4 t5 t6 t7 t8 t9 t10 HS7 HS8 HS9 HS10 HS11 e0 e1 e2 E0 E1 E2 HS HX
        generalize w11.drewN d = wo at *
        go_wp2
        go_loopg [9] q (fun g y wi => ∃ jj : Nat, jj + g = q ∧ y = .int .i64 jj ∧ InRel W a8 q cap8 (pst 47 p0 zs :: pst 51 r0 zs :: pst 47 p1 ys :: pst 51 r1 ys :: bx pa #[.pointer (some ⟨p0, 0, none⟩), .pointer (some ⟨p1, 0, none⟩)] 25 :: bx ra #[.pointer (some ⟨r0, 0, none⟩), .pointer (some ⟨r1, 0, none⟩)] 39 :: tl) wi)
        case atStart => exact ⟨0, by omega, rfl, _, HS12.out⟩
        case round =>
          clear HS12
          obtain ⟨jj, hjg, rfl, cs, hSi⟩ := hrel
          by_cases hjq : jj < q
          · obtain ⟨b8, o8, c8, rfl, hg8, hfit8⟩ := (hSi.slice 0 rfl).block (by omega)
            have hnc8 := (hSi.slice 0 rfl).2.1
            have hfi : o8 + jj * 8 + 8 ≤ c8.size := by omega
            have HG8 := Lib.hid hg8
            have HSI := Lib.hid hSi
            have hbl8 := heap_lt hg8
            clear hSi hg8
            go_wp2_with (refine wpList_store_chunk 8 sizeP b8 (o8 + jj * 8) rfl c8 32 HG8.out _ rfl (Pk.cells ⟨-9, 0, 0, 0, 0, 0, 0, .empty⟩) rfl rfl hfi (fun u hu => flat_one [⟨-9, 0, 0, 0, 0, 0, 0, .empty⟩] u (by simpa [flat] using hu)) ?_; intro w13 hb13 hm13 hz13; have HB13 := Lib.hid hb13; have HM13 := Lib.hid hm13; clear hb13 hm13 hz13)
            go_roundg (gk - 1)
            case measure => omega
            case rel =>
              obtain ⟨cs', hs'⟩ := (HSI.out.slice 0 rfl).poke HG8.out hfit8 (o8 + jj * 8) (Pk.cells ⟨-9, 0, 0, 0, 0, 0, 0, .empty⟩) hfi HB13.out
              exact ⟨jj + 1, by omega, by simp, cs', HSI.out.reslice 0 rfl hs' HM13.out⟩
          · have HSI := Lib.hid hSi
            clear hSi
            go_wp2
            go_roundg (G - 1)
            case measure => have := hG.out; omega
            case rel => exact ⟨k + 1, by have := hG.out; omega, by simp, zs, ys, tl, hzs0, hys, HSI.out.tail⟩
      · subst hkk
        have hS : St W wr (pst 47 p1 ys :: pst 51 r1 ys :: pst 47 p0 xs :: pst 51 r0 xs :: bx pa #[.pointer (some ⟨p0, 0, none⟩), .pointer (some ⟨p1, 0, none⟩)] 25 :: bx ra #[.pointer (some ⟨r0, 0, none⟩), .pointer (some ⟨r1, 0, none⟩)] 39 :: tl) := hS0.two
        have u1 : wr.cell? ⟨pa, 1, none⟩ = some (.pointer (some ⟨p1, 0, none⟩)) := blk_cell (hS.box 4 rfl) 1 _ rfl
        have u2 : wr.cell? ⟨ra, 1, none⟩ = some (.pointer (some ⟨r1, 0, none⟩)) := blk_cell (hS.box 5 rfl) 1 _ rfl
        have HS := Lib.hid hS
        clear hS hS0 hxs0 hys0
        go_wp2
        go_region_held3 (fun w' => w'.cell? ⟨pa, 1, none⟩ = some (.pointer (some ⟨p1, 0, none⟩)) ∧ w'.cell? ⟨ra, 1, none⟩ = some (.pointer (some ⟨r1, 0, none⟩)) ∧ w'.cell? ⟨b, o + k * 3, none⟩ = some (.int .i64 what) ∧ w'.cell? ⟨b, o + k * 3 + 1, none⟩ = some (.int .i64 num) ∧ w'.cell? ⟨b, o + k * 3 + 2, none⟩ = some (.slice s m sc))
          (first | exact ⟨u1, u2, e0, e1, e2⟩ | exact ⟨v1, v2, f0, f1, f2⟩)
          ((first
            | (go_at_call 14; refine (do_st (HS.out.mod ((Mod.refl _ _).drewN _)) hys what num HX.out.1.1 HX.out.1.2 s m sc ps HX.out.2.2.1 HX.out.2.2.2.1 HX.out.2.2.2.2).mono ?_; rintro e w7 ⟨rfl, zs, hzs, hS7⟩; have v1 : w7.cell? ⟨pa, 1, none⟩ = some (.pointer (some ⟨p1, 0, none⟩)) := blk_cell (hS7.box 4 rfl) 1 _ rfl; have v2 : w7.cell? ⟨ra, 1, none⟩ = some (.pointer (some ⟨r1, 0, none⟩)) := blk_cell (hS7.box 5 rfl) 1 _ rfl; have f0 := hS7.1.cell E0.out id; have f1 := hS7.1.cell E1.out id; have f2 := hS7.1.cell E2.out id; have HS7 := Lib.hid hS7; clear hS7)))
        have hz7 := heap_lt (HS7.out.box 4 rfl)
        have hz7r := heap_lt (HS7.out.box 5 rfl)
        obtain ⟨q, hq⟩ : ∃ q, zs.length = q := ⟨_, rfl⟩
        have HQ := Lib.hid hq
        have hzs0 : zs.length ≤ 400 := hzs
        rw [hq] at hzs
        clear u1 u2 f0 f1 f2 hq
        go_wp2_with fail
        refine (HS7.out.all 0 HQ.out rfl (fun a cap hp => All_any p1 a cap zs w7 hp)).mono ?_
        rintro e w8 ⟨a8, cap8, rfl, hS8⟩
        have t1 : w8.cell? ⟨pa, 1, none⟩ = some (.pointer (some ⟨p1, 0, none⟩)) := blk_cell (hS8.box 5 rfl) 1 _ rfl
        have t2 : w8.cell? ⟨ra, 1, none⟩ = some (.pointer (some ⟨r1, 0, none⟩)) := blk_cell (hS8.box 6 rfl) 1 _ rfl
        have hz8 := heap_lt (hS8.box 5 rfl)
        have hz8r := heap_lt (hS8.box 6 rfl)
        have HS8 := Lib.hid hS8
        clear hS8 v1 v2
        go_wp2
        go_region_held3 (fun w' => w'.cell? ⟨pa, 1, none⟩ = some (.pointer (some ⟨p1, 0, none⟩)) ∧ w'.cell? ⟨ra, 1, none⟩ = some (.pointer (some ⟨r1, 0, none⟩)))
          (first | exact ⟨t1, t2⟩ | exact ⟨t3, t4⟩ | exact ⟨t5, t6⟩ | exact ⟨t7, t8⟩ | exact ⟨t9, t10⟩)
          ((first
            | (go_at_call 12; refine ((HS8.out.mod ((Mod.refl _ _).drewN _)).postR 1 rfl (fun a cap hp => Len_any p1 a cap zs _ hp)).mono ?_; rw [HQ.out]; rintro e w9 ⟨rfl, hS9⟩; have t3 : w9.cell? ⟨pa, 1, none⟩ = some (.pointer (some ⟨p1, 0, none⟩)) := blk_cell (hS9.box 5 rfl) 1 _ rfl; have t4 : w9.cell? ⟨ra, 1, none⟩ = some (.pointer (some ⟨r1, 0, none⟩)) := blk_cell (hS9.box 6 rfl) 1 _ rfl; have HS9 := Lib.hid hS9; clear hS9)
            | (go_at_call 15; refine (HS9.out.postR 2 rfl (fun a cap hp => rLen_any r1 a cap zs _ hp)).mono ?_; rw [HQ.out]; rintro e w10 ⟨rfl, hS10⟩; have t5 : w10.cell? ⟨pa, 1, none⟩ = some (.pointer (some ⟨p1, 0, none⟩)) := blk_cell (hS10.box 5 rfl) 1 _ rfl; have t6 : w10.cell? ⟨ra, 1, none⟩ = some (.pointer (some ⟨r1, 0, none⟩)) := blk_cell (hS10.box 6 rfl) 1 _ rfl; have HS10 := Lib.hid hS10; clear hS10)
            | (go_at_call 16; refine (HS10.out.all 2 HQ.out rfl (fun a cap hp => rAll_any r1 a cap zs _ hp)).mono ?_; rintro e w11 ⟨a11, cap11, rfl, hS11⟩; have t7 : w11.cell? ⟨pa, 1, none⟩ = some (.pointer (some ⟨p1, 0, none⟩)) := blk_cell (hS11.box 6 rfl) 1 _ rfl; have t8 : w11.cell? ⟨ra, 1, none⟩ = some (.pointer (some ⟨r1, 0, none⟩)) := blk_cell (hS11.box 7 rfl) 1 _ rfl; have HS11 := Lib.hid hS11; clear hS11)
            | (go_at_call 8; refine (same_n' a8 a11 cap8 cap11 q zs HQ.out w11 (HS11.out.slice 1 rfl).rd (HS11.out.slice 0 rfl).rd).mono ?_; rintro e w12 ⟨d, rfl, rfl⟩; have t9 : (w11.drewN d).cell? ⟨pa, 1, none⟩ = some (.pointer (some ⟨p1, 0, none⟩)) := t7; have t10 : (w11.drewN d).cell? ⟨ra, 1, none⟩ = some (.pointer (some ⟨r1, 0, none⟩)) := t8; have HS12 := Lib.hid ((HS11.out.drewN d).tail))))
        clear t1 t2 t3 t4 t5 t6 t7 t8 t9 t10 HS7 HS8 HS9 HS10 HS11 e0 e1 e2 E0 E1 E2 HS HX
        generalize w11.drewN d = wo at *
        go_wp2
        go_loopg [9] q (fun g y wi => ∃ jj : Nat, jj + g = q ∧ y = .int .i64 jj ∧ InRel W a8 q cap8 (pst 47 p1 zs :: pst 51 r1 zs :: pst 47 p0 xs :: pst 51 r0 xs :: bx pa #[.pointer (some ⟨p0, 0, none⟩), .pointer (some ⟨p1, 0, none⟩)] 25 :: bx ra #[.pointer (some ⟨r0, 0, none⟩), .pointer (some ⟨r1, 0, none⟩)] 39 :: tl) wi)
        case atStart => exact ⟨0, by omega, rfl, _, HS12.out⟩
        case round =>
          clear HS12
          obtain ⟨jj, hjg, rfl, cs, hSi⟩ := hrel
          by_cases hjq : jj < q
          · obtain ⟨b8, o8, c8, rfl, hg8, hfit8⟩ := (hSi.slice 0 rfl).block (by omega)
            have hnc8 := (hSi.slice 0 rfl).2.1
            have hfi : o8 + jj * 8 + 8 ≤ c8.size := by omega
            have HG8 := Lib.hid hg8
            have HSI := Lib.hid hSi
            have hbl8 := heap_lt hg8
            clear hSi hg8
            go_wp2_with (refine wpList_store_chunk 8 sizeP b8 (o8 + jj * 8) rfl c8 32 HG8.out _ rfl (Pk.cells ⟨-9, 0, 0, 0, 0, 0, 0, .empty⟩) rfl rfl hfi (fun u hu => flat_one [⟨-9, 0, 0, 0, 0, 0, 0, .empty⟩] u (by simpa [flat] using hu)) ?_; intro w13 hb13 hm13 hz13; have HB13 := Lib.hid hb13; have HM13 := Lib.hid hm13; clear hb13 hm13 hz13)
            go_roundg (gk - 1)
            case measure => omega
            case rel =>
              obtain ⟨cs', hs'⟩ := (HSI.out.slice 0 rfl).poke HG8.out hfit8 (o8 + jj * 8) (Pk.cells ⟨-9, 0, 0, 0, 0, 0, 0, .empty⟩) hfi HB13.out
              exact ⟨jj + 1, by omega, by simp, cs', HSI.out.reslice 0 rfl hs' HM13.out⟩
          · have HSI := Lib.hid hSi
            clear hSi
            go_wp2
            go_roundg (G - 1)
            case measure => have := hG.out; omega
            case rel => exact ⟨k + 1, by have := hG.out; omega, by simp, xs, zs, tl, hxs, hzs0, HSI.out.tail.two⟩
    · have hkn : k = n := by omega
      clear hlt hkg
      have b4 := hS0.box 4 rfl
      have b5 := hS0.box 5 rfl
      have u1 : wr.cell? ⟨pa, 0, none⟩ = some (.pointer (some ⟨p0, 0, none⟩)) := blk_cell b4 0 _ rfl
      have u2 : wr.cell? ⟨pa, 1, none⟩ = some (.pointer (some ⟨p1, 0, none⟩)) := blk_cell b4 1 _ rfl
      have u3 : wr.cell? ⟨ra, 0, none⟩ = some (.pointer (some ⟨r0, 0, none⟩)) := blk_cell b5 0 _ rfl
      have u4 : wr.cell? ⟨ra, 1, none⟩ = some (.pointer (some ⟨r1, 0, none⟩)) := blk_cell b5 1 _ rfl
      have hz4 := heap_lt b4
      have hz5 := heap_lt b5
      have HS := Lib.hid hS0
      clear hS0 b4 b5
      subst hkn
      obtain ⟨q, hq⟩ : ∃ q, xs.length = q := ⟨_, rfl⟩
      obtain ⟨q', hq'⟩ : ∃ q', ys.length = q' := ⟨_, rfl⟩
      have HQ := Lib.hid hq
      have HQ' := Lib.hid hq'
      clear hq hq'
      go_wp2
      go_region_held3 (fun w' => w'.cell? ⟨pa, 0, none⟩ = some (.pointer (some ⟨p0, 0, none⟩)) ∧ w'.cell? ⟨pa, 1, none⟩ = some (.pointer (some ⟨p1, 0, none⟩)) ∧ w'.cell? ⟨ra, 0, none⟩ = some (.pointer (some ⟨r0, 0, none⟩)) ∧ w'.cell? ⟨ra, 1, none⟩ = some (.pointer (some ⟨r1, 0, none⟩)))
        (first | exact ⟨u1, u2, u3, u4⟩ | exact ⟨a1, a2, a3, a4⟩ | exact ⟨c1, c2, c3, c4⟩ | exact ⟨d1, d2, d3, d4⟩ | exact ⟨e1, e2, e3, e4⟩ | exact ⟨f1, f2, f3, f4⟩ | exact ⟨g1, g2, g3, g4⟩)
        ((first
          | (go_at_call_of 9 (Value.pointer (some ⟨p0, 0, none⟩)); refine ((HS.out.mod ((Mod.refl _ _).drewN _)).all 0 HQ.out rfl (fun a cap hp => All_any p0 a cap xs _ hp)).mono ?_; rintro e w7 ⟨a7, cap7, rfl, hS7⟩; have a1 : w7.cell? ⟨pa, 0, none⟩ = some (.pointer (some ⟨p0, 0, none⟩)) := blk_cell (hS7.box 5 rfl) 0 _ rfl; have a2 : w7.cell? ⟨pa, 1, none⟩ = some (.pointer (some ⟨p1, 0, none⟩)) := blk_cell (hS7.box 5 rfl) 1 _ rfl; have a3 : w7.cell? ⟨ra, 0, none⟩ = some (.pointer (some ⟨r0, 0, none⟩)) := blk_cell (hS7.box 6 rfl) 0 _ rfl; have a4 : w7.cell? ⟨ra, 1, none⟩ = some (.pointer (some ⟨r1, 0, none⟩)) := blk_cell (hS7.box 6 rfl) 1 _ rfl; have HS7 := Lib.hid hS7; clear hS7)
          | (go_at_call_of 16 (Value.pointer (some ⟨r0, 0, none⟩)); refine (HS7.out.all 2 HQ.out rfl (fun a cap hp => rAll_any r0 a cap xs _ hp)).mono ?_; rintro e w8 ⟨a8, cap8, rfl, hS8⟩; have c1 : w8.cell? ⟨pa, 0, none⟩ = some (.pointer (some ⟨p0, 0, none⟩)) := blk_cell (hS8.box 6 rfl) 0 _ rfl; have c2 : w8.cell? ⟨pa, 1, none⟩ = some (.pointer (some ⟨p1, 0, none⟩)) := blk_cell (hS8.box 6 rfl) 1 _ rfl; have c3 : w8.cell? ⟨ra, 0, none⟩ = some (.pointer (some ⟨r0, 0, none⟩)) := blk_cell (hS8.box 7 rfl) 0 _ rfl; have c4 : w8.cell? ⟨ra, 1, none⟩ = some (.pointer (some ⟨r1, 0, none⟩)) := blk_cell (hS8.box 7 rfl) 1 _ rfl; have HS8 := Lib.hid hS8; clear hS8)
          | (go_at_call_of 8 (Value.slice a7 q cap7); refine (same_n' a7 a8 cap7 cap8 q xs HQ.out w8 (HS8.out.slice 1 rfl).rd (HS8.out.slice 0 rfl).rd).mono ?_; rintro e w9 ⟨n9, rfl, rfl⟩; have hS9 := HS8.out.drewN n9; have d1 : (w8.drewN n9).cell? ⟨pa, 0, none⟩ = some (.pointer (some ⟨p0, 0, none⟩)) := blk_cell (hS9.box 6 rfl) 0 _ rfl; have d2 : (w8.drewN n9).cell? ⟨pa, 1, none⟩ = some (.pointer (some ⟨p1, 0, none⟩)) := blk_cell (hS9.box 6 rfl) 1 _ rfl; have d3 : (w8.drewN n9).cell? ⟨ra, 0, none⟩ = some (.pointer (some ⟨r0, 0, none⟩)) := blk_cell (hS9.box 7 rfl) 0 _ rfl; have d4 : (w8.drewN n9).cell? ⟨ra, 1, none⟩ = some (.pointer (some ⟨r1, 0, none⟩)) := blk_cell (hS9.box 7 rfl) 1 _ rfl; have HS9 := Lib.hid hS9; clear hS9)
          | (go_at_call_of 9 (Value.pointer (some ⟨p1, 0, none⟩)); refine (HS9.out.all 4 HQ'.out rfl (fun a cap hp => All_any p1 a cap ys _ hp)).mono ?_; rintro e w10 ⟨a10, cap10, rfl, hS10⟩; have e1 : w10.cell? ⟨pa, 0, none⟩ = some (.pointer (some ⟨p0, 0, none⟩)) := blk_cell (hS10.box 7 rfl) 0 _ rfl; have e2 : w10.cell? ⟨pa, 1, none⟩ = some (.pointer (some ⟨p1, 0, none⟩)) := blk_cell (hS10.box 7 rfl) 1 _ rfl; have e3 : w10.cell? ⟨ra, 0, none⟩ = some (.pointer (some ⟨r0, 0, none⟩)) := blk_cell (hS10.box 8 rfl) 0 _ rfl; have e4 : w10.cell? ⟨ra, 1, none⟩ = some (.pointer (some ⟨r1, 0, none⟩)) := blk_cell (hS10.box 8 rfl) 1 _ rfl; have HS10 := Lib.hid hS10; clear hS10)
          | (go_at_call_of 16 (Value.pointer (some ⟨r1, 0, none⟩)); refine (HS10.out.all 6 HQ'.out rfl (fun a cap hp => rAll_any r1 a cap ys _ hp)).mono ?_; rintro e w11 ⟨a11, cap11, rfl, hS11⟩; have f1 : w11.cell? ⟨pa, 0, none⟩ = some (.pointer (some ⟨p0, 0, none⟩)) := blk_cell (hS11.box 8 rfl) 0 _ rfl; have f2 : w11.cell? ⟨pa, 1, none⟩ = some (.pointer (some ⟨p1, 0, none⟩)) := blk_cell (hS11.box 8 rfl) 1 _ rfl; have f3 : w11.cell? ⟨ra, 0, none⟩ = some (.pointer (some ⟨r0, 0, none⟩)) := blk_cell (hS11.box 9 rfl) 0 _ rfl; have f4 : w11.cell? ⟨ra, 1, none⟩ = some (.pointer (some ⟨r1, 0, none⟩)) := blk_cell (hS11.box 9 rfl) 1 _ rfl; have HS11 := Lib.hid hS11; clear hS11)
          | (go_at_call_of 8 (Value.slice a10 q' cap10); refine (same_n' a10 a11 cap10 cap11 q' ys HQ'.out w11 (HS11.out.slice 1 rfl).rd (HS11.out.slice 0 rfl).rd).mono ?_; rintro e w12 ⟨n12, rfl, rfl⟩; have hS12 := HS11.out.drewN n12; have g1 : (w11.drewN n12).cell? ⟨pa, 0, none⟩ = some (.pointer (some ⟨p0, 0, none⟩)) := blk_cell (hS12.box 8 rfl) 0 _ rfl; have g2 : (w11.drewN n12).cell? ⟨pa, 1, none⟩ = some (.pointer (some ⟨p1, 0, none⟩)) := blk_cell (hS12.box 8 rfl) 1 _ rfl; have g3 : (w11.drewN n12).cell? ⟨ra, 0, none⟩ = some (.pointer (some ⟨r0, 0, none⟩)) := blk_cell (hS12.box 9 rfl) 0 _ rfl; have g4 : (w11.drewN n12).cell? ⟨ra, 1, none⟩ = some (.pointer (some ⟨r1, 0, none⟩)) := blk_cell (hS12.box 9 rfl) 1 _ rfl; have HS12 := Lib.hid hS12; clear hS12)))
      go_wp2
      go_ret
      exact ⟨rfl, HS12.out.1⟩
end Go.Proofs.Ytnggolgpnbdghaa
