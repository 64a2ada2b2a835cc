/-
  Two ends: hand: a packet to whom it is for.
  Conditions: the net's ('Inv'); the packet is one that the other end may have sent.
-/
import Derived.Test.YtoeokdachojhjaaTwoA
namespace Go.Proofs.Ytoeokdachojhjaa
open Go.RowKit
set_option linter.unusedSectionVars false
set_option linter.unusedSimpArgs false
set_option linter.unusedVariables false

/-! ### a count that is not told -/

theorem wc_deaf (L : Lk) (c : Nat) (p : Pk) : (L.wc c).deaf p = L.deaf p ∧ (L.wc c).alien p = L.alien p ∧ (L.wc c).older p = L.older p ∧ (L.wc c).newer p = L.newer p := ⟨rfl, rfl, rfl, rfl⟩
theorem wc_main (L : Lk) (c : Nat) (p : Pk) : ∃ c', (L.wc c).main p = (L.main p).wc c' := by
  unfold Lk.main Lk.keep
  by_cases hc : (((L.acked p).owing p).wants p && (((L.acked p).owing p).kept p.f).isNone) = true
  · have hc2 : ((((L.wc c).acked p).owing p).wants p && ((((L.wc c).acked p).owing p).kept p.f).isNone) = true := hc
    rw [if_pos hc, if_pos hc2]
    exact ⟨c + 1, rfl⟩
  · have hc2 : ¬ ((((L.wc c).acked p).owing p).wants p && ((((L.wc c).acked p).owing p).kept p.f).isNone) = true := hc
    rw [if_neg hc, if_neg hc2]
    exact ⟨c, rfl⟩
theorem wc_hear (L : Lk) (c : Nat) (p : Pk) : (∃ c', (L.wc c).hear p = (L.hear p).wc c') ∧ (L.wc c).heard p = L.heard p ∧ (L.wc c).ends p = L.ends p := by
  obtain ⟨c', hc⟩ := wc_main L c p
  obtain ⟨h1, h2, h3, h4⟩ := wc_deaf L c p
  refine ⟨?_, ?_, ?_⟩
  · unfold Lk.hear
    rw [h1, h2, h3, h4, hc]
    split
    · exact ⟨c, rfl⟩
    split
    · exact ⟨c, rfl⟩
    split
    · exact ⟨c, rfl⟩
    split
    · exact ⟨c, rfl⟩
    · exact ⟨c', rfl⟩
  · unfold Lk.heard
    rw [h1, h2, h3, h4, hc]
    rfl
  · unfold Lk.ends
    rw [h1, h2, h3, h4]
theorem wc_send (L : Lk) (c : Nat) (s : ByteArray) : (L.wc c).send s = (L.send s).wc c ∧ (L.wc c).sendErr = L.sendErr := by
  refine ⟨?_, rfl⟩
  unfold Lk.send
  rw [show (L.wc c).full = L.full from rfl]
  split <;> rfl
theorem wc_behind (L : Lk) (c : Nat) (n : Int) : (L.wc c).behind n = (L.behind n).wc c ∧ (L.wc c).out n = L.out n := by
  refine ⟨?_, rfl⟩
  unfold Lk.behind
  rw [show (L.wc c).over = L.over from rfl]
  split <;> rfl

theorem St.few {w0 w : World} {pb : Nat} {L : Lk} {c : Nat} {l : List Thing} (h : St w0 w (lk pb (L.wc c) :: l)) (hk : ∀ n s, L.kept n = some s → 1 ≤ n ∧ n ≤ 64) : St w0 w (lk pb (L.wc 64) :: l) := by
  obtain ⟨a, cap, mb, hS⟩ := h.unlk
  have m1 := (hS.mapAt 2 rfl).small (N := 64) keyI mapT (zeroS _) (fun x v hv => by
    unfold fmap at hv
    obtain ⟨s, hs, _⟩ := Option.map_eq_some_iff.1 hv
    exact hk x s hs)
  exact (hS.remap 2 rfl m1 (Mod.refl _ _)).relk (L := L.wc 64)

/-- An end comes to the front. -/
theorem St.end1 {w0 w : World} {b : Thing} {pb cn : Nat → Nat} {E : Nat → Lk} {l : List Thing} (h : St w0 w (b :: lk (pb 0) ((E 0).wc (cn 0)) :: lk (pb 1) ((E 1).wc (cn 1)) :: l)) {k : Nat} (hk : k < 2) :
    St w0 w (lk (pb k) ((E k).wc (cn k)) :: b :: lk (pb (1 - k)) ((E (1 - k)).wc (cn (1 - k))) :: l) := by
  rcases two_cases hk with rfl | rfl
  · exact h.perm (.swap _ _ _)
  · exact h.perm ((((List.Perm.swap _ _ _).cons _)).trans (.swap _ _ _))
theorem St.end2 {w0 w : World} {b : Thing} {pb cn : Nat → Nat} {E : Nat → Lk} {l : List Thing} {k : Nat} (hk : k < 2) {L : Lk} {c : Nat} (h : St w0 w (lk (pb k) (L.wc c) :: b :: lk (pb (1 - k)) ((E (1 - k)).wc (cn (1 - k))) :: l)) :
    St w0 w (b :: lk (pb 0) ((upd2 E k L 0).wc (upd2 cn k c 0)) :: lk (pb 1) ((upd2 E k L 1).wc (upd2 cn k c 1)) :: l) := by
  rcases two_cases hk with rfl | rfl
  · exact h.perm (.swap _ _ _)
  · exact h.perm ((List.Perm.swap _ _ _).trans ((List.Perm.swap _ _ _).cons _))

theorem perm3 {α : Type} (a b c x : α) (l : List α) : (a :: b :: c :: x :: l).Perm (x :: a :: b :: c :: l) := (List.perm_append_comm (l₁ := [a, b, c]) (l₂ := [x])).append_right l

theorem twc_set_got (pb : Nat → Nat) (sa ga : Nat → Option Addr) (sc gc : Nat → Nat) (S G : Nat → List ByteArray) (pa : Option Addr) (pl pc : Nat) {k : Nat} (h : k < 2) (X : List ByteArray) (n : Nat) (hn : X.length = n) (a : Option Addr) (c : Nat) :
    (twc pb sa ga sc gc S G pa pl pc).setIfInBounds (6 + k) (.slice a n c) = twc pb sa (upd2 ga k a) sc (upd2 gc k c) S (upd2 G k X) pa pl pc := by
  subst hn
  rcases two_cases h with rfl | rfl <;> rfl
theorem got_at (t0 t1 t2 t3 t4 t5 t6 t9 : Thing) (ga : Nat → Option Addr) (gc : Nat → Nat) (G : Nat → List ByteArray) {k : Nat} (h : k < 2) :
    [t0, t1, t2, t3, t4, t5, t6, tx (ga 0) (gc 0) (G 0), tx (ga 1) (gc 1) (G 1), t9][7 + k]? = some (tx (ga k) (gc k) (G k)) := by
  rcases two_cases h with rfl | rfl <;> rfl
theorem str_one (l : List ByteArray) : ∀ u ∈ l.map Value.string, u.oneCell' = true := by
  intro u hu
  obtain ⟨s, _, rfl⟩ := List.mem_map.1 hu
  rfl
theorem set_got (t0 t1 t2 t3 t4 t5 t6 t9 : Thing) (ga : Nat → Option Addr) (gc : Nat → Nat) (G : Nat → List ByteArray) {k : Nat} (h : k < 2) (X : List ByteArray) (a : Option Addr) (c : Nat) :
    [t0, t1, t2, t3, t4, t5, t6, tx (ga 0) (gc 0) (G 0), tx (ga 1) (gc 1) (G 1), t9].set (7 + k) (tx a c X) = [t0, t1, t2, t3, t4, t5, t6, tx (upd2 ga k a 0) (upd2 gc k c 0) (upd2 G k X 0), tx (upd2 ga k a 1) (upd2 gc k c 1) (upd2 G k X 1), t9] := by
  rcases two_cases h with rfl | rfl <;> rfl

set_option maxHeartbeats 4000000 in
theorem hand_two {W w : World} {tb : Nat} {E : Nat → Lk} {S G : Nat → List ByteArray} {P Q : List Pk} (h : Two W tb E S G P w) (hI : Inv E S G Q) {k : Nat} (hk : k < 2) (p : Pk) (hp : PkI (1 - k) (S (1 - k)) (G (1 - k)) p) :
    Calls Try.prog 12 #[.pointer (some ⟨tb, 0, none⟩), p.agg] w (fun e w' => e = .returned (.bool true) ∧ Two W tb (upd2 E k ((E k).hear p)) S (upd2 G k (G k ++ (E k).heard p)) P w') := by
  obtain ⟨pb, cn, sa, ga, sc, gc, pa, pc, hS⟩ := h
  have hB := (hS.box1 p.cells.toArray 41).perm (perm3 _ _ _ _ _).symm
  have hpb2 : p.b = (k : Int) + 1 := by have := hp.b; omega
  have hw : IntKind.i64.wrap (p.b - 1) = (k : Int) := by rw [hpb2, show (k : Int) + 1 - 1 = k by omega]; exact IntWalk.i64_in _ (by omega)
  have hk0 : (0 : Int) ≤ (k : Int) := by omega
  have hk2 : (k : Int) < 2 := by omega
  have hkn : k < 2 := hk
  have hL := hI.lk k hk
  have hmost := hI.most (1 - k) (by omega)
  have hend := (hear_ord hL hk hmost hp).1
  have hlen := (hear_ord hL hk hmost hp).2.1.le
  have hf : p.f = 0 ∨ (1 ≤ p.f ∧ p.f ≤ 60) := by
    rcases hp.f with e | ⟨j, j1, j2⟩
    · exact .inl e
    · have := (List.getElem?_eq_some_iff.1 j2).1
      right; omega
  have hfew : ∀ n s, (E k).kept n = some s → 1 ≤ n ∧ n ≤ 64 := fun n s hs => by
    obtain ⟨b1, b2⟩ := hL.bound hs
    have := hL.gotn
    omega
  have hE := (hB.end1 hk).few hfew
  have hok : ((E k).wc 64).ok := hL.okk hmost
  obtain ⟨⟨c', hc'⟩, hhd, hen⟩ := wc_hear (E k) 64 p
  rw [hend] at hen
  obtain ⟨xs, hxs⟩ : ∃ xs, (E k).heard p = xs := ⟨_, rfl⟩
  obtain ⟨m, hm⟩ : ∃ m, xs.length = m := ⟨_, rfl⟩
  obtain ⟨gl, hgl⟩ : ∃ gl, (G k).length = gl := ⟨_, rfl⟩
  rw [hxs] at hhd hlen ⊢
  have hgm : gl + m ≤ 60 := by rw [List.length_append, hgl, hm] at hlen; omega
  have HOK := Lib.hid hok
  have HHD := Lib.hid hhd
  have HEN := Lib.hid hen
  have HHE := Lib.hid hc'
  have HM := Lib.hid hm
  have HGL := Lib.hid hgl
  clear hS hB hpb2 hL hend hlen hfew hok hc' hhd hen hxs hm hgl hp hI hmost
  simp only [Pk.agg]
  go_enter Try.func12, Try.ntmps12
  go_upto_region 1 with (fail)
  change Code.wp _ _ _ _ (w.alloc (.cells p.cells.toArray 41))
  generalize w.alloc (.cells p.cells.toArray 41) = w1 at hE ⊢
  generalize w.heap.size = nb at hE ⊢
  have hbp := hE.box 3 rfl
  have p0 := blk_cell hbp 0 (.int .i64 p.a) rfl
  have p1 := blk_cell hbp 1 (.int .i64 p.b) rfl
  have p2 := blk_cell hbp 2 (.int .i64 p.c) rfl
  have p3 := blk_cell hbp 3 (.int .i64 p.d) rfl
  have p4 := blk_cell hbp 4 (.int .i64 p.e) rfl
  have p5 := blk_cell hbp 5 (.int .i64 p.f) rfl
  have p6 := blk_cell hbp 6 (.int .i64 p.g) rfl
  have p7 := blk_cell hbp 7 (.string p.s) rfl
  have hnb := heap_lt hbp
  have htb := heap_lt (hE.box 1 rfl)
  have p8 := blk_cell (hE.box 1 rfl) k _ (twc_end pb sa ga sc gc S G pa P.length pc hk)
  have HE := Lib.hid hE
  clear hE hbp
  go_upto_region 2 with (fail)
  go_cut [6, 7] (fun v6 v7 wx => ∃ a cap, v6 = .slice a m cap ∧ v7 = .bool false ∧ St W wx (sl 9 1 a m cap (xs.map .string) :: lk (pb k) (((E k).hear p).wc c') :: bx tb (twc pb sa ga sc gc S G pa P.length pc) 32 :: lk (pb (1 - k)) ((E (1 - k)).wc (cn (1 - k))) :: bx nb p.cells.toArray 41 :: [tx (sa 0) (sc 0) (S 0), tx (sa 1) (sc 1) (S 1), tx (ga 0) (gc 0) (G 0), tx (ga 1) (gc 1) (G 1), sl 41 8 pa P.length pc (flat P)]))
  case first =>
    go_region_held3 (fun w' => w'.cell? ⟨nb, 0, none⟩ = some (.int .i64 p.a) ∧ w'.cell? ⟨nb, 1, none⟩ = some (.int .i64 p.b) ∧ w'.cell? ⟨nb, 2, none⟩ = some (.int .i64 p.c) ∧ w'.cell? ⟨nb, 3, none⟩ = some (.int .i64 p.d) ∧ w'.cell? ⟨nb, 4, none⟩ = some (.int .i64 p.e) ∧ w'.cell? ⟨nb, 5, none⟩ = some (.int .i64 p.f) ∧ w'.cell? ⟨nb, 6, none⟩ = some (.int .i64 p.g) ∧ w'.cell? ⟨nb, 7, none⟩ = some (.string p.s) ∧ w'.cell? ⟨tb, k, none⟩ = some (.pointer (some ⟨pb k, 0, none⟩)))
      (first | exact ⟨p0, p1, p2, p3, p4, p5, p6, p7, p8⟩ | exact ⟨q0, q1, q2, q3, q4, q5, q6, q7, q8⟩ | go_keep)
      ((first
        | (go_at_call 17; refine (lHear_st (HE.out.mod ((Mod.refl _ _).drewN _)) p HOK.out (by show 64 < maxLen; unfold maxLen; omega) (by omega) (by omega)).mono ?_; rw [HHD.out, HEN.out, HHE.out]; rintro e w2 ⟨a2, cap2, rfl, hS2⟩; rw [HM.out] at hS2 ⊢; have hbq := hS2.box 4 rfl; have q0 := blk_cell hbq 0 (.int .i64 p.a) rfl; have q1 := blk_cell hbq 1 (.int .i64 p.b) rfl; have q2 := blk_cell hbq 2 (.int .i64 p.c) rfl; have q3 := blk_cell hbq 3 (.int .i64 p.d) rfl; have q4 := blk_cell hbq 4 (.int .i64 p.e) rfl; have q5 := blk_cell hbq 5 (.int .i64 p.f) rfl; have q6 := blk_cell hbq 6 (.int .i64 p.g) rfl; have q7 := blk_cell hbq 7 (.string p.s) rfl; have q8 := blk_cell (hS2.box 2 rfl) k _ (twc_end pb sa ga sc gc S G pa P.length pc hk); have hnb2 := heap_lt hbq; have htb2 := heap_lt (hS2.box 2 rfl); have HS2 := Lib.hid hS2; clear hS2 hbq)))
    all_goals
      (try go_wp2_with fail)
      go_meet
      exact ⟨a2, cap2, rfl, rfl, HS2.out⟩
  case rest =>
    clear HE p0 p1 p2 p3 p4 p5 p6 p7 p8 hnb htb
    obtain ⟨a, cap, rfl, rfl, hS⟩ := hcut
    have hT := St.end2 (E := E) (cn := cn) hk (hS.perm (perm3 _ _ _ _ _).symm)
    have hG : Sl wc 9 1 (ga k) gl (gc k) ((G k).map .string) := by
      have := hT.slice (7 + k) (got_at _ _ _ _ _ _ _ _ ga gc G hk)
      rw [HGL.out] at this
      exact this
    have hb := hT.box 0 rfl
    have cg : wc.cell? ⟨tb, 6 + k, none⟩ = some (.slice (ga k) gl (gc k)) := by rw [← HGL.out]; exact blk_cell hb (6 + k) _ (twc_got pb sa ga sc gc S G pa P.length pc hk)
    have htb := heap_lt hb
    have HA := Lib.hid (hT.slice 3 rfl).rd
    have HG := Lib.hid hG
    have HT := Lib.hid hT
    obtain ⟨ip, hip1, hip2, hip3⟩ := info_parts infoS
    have HI := Lib.hid (And.intro hip1 (And.intro hip2 hip3))
    clear hS hT hG hb hip1 hip2 hip3
    go_upto_region 6 with (fail)
    go_cut [] (fun wx => ∃ a2 cap2, St W wx (bx tb ((twc pb sa ga sc gc S G pa P.length pc).setIfInBounds (6 + k) (.slice a2 (gl + m) cap2)) 32 :: lk (pb 0) ((upd2 E k ((E k).hear p) 0).wc (upd2 cn k c' 0)) :: lk (pb 1) ((upd2 E k ((E k).hear p) 1).wc (upd2 cn k c' 1)) :: sl 9 1 a m cap (xs.map .string) :: bx nb p.cells.toArray 41 :: [tx (sa 0) (sc 0) (S 0), tx (sa 1) (sc 1) (S 1), tx (ga 0) (gc 0) (G 0), tx (ga 1) (gc 1) (G 1), sl 41 8 pa P.length pc (flat P)].set (2 + k) (sl 9 1 a2 (gl + m) cap2 ((G k).map .string ++ xs.map .string))))
    case first =>
      go_region_law ((refine step_append rfl rfl 9 ip _ 1 16 (by kernel_rfl) HI.out.1 HI.out.2.1 HI.out.2.2.1 HI.out.2.2.2 rfl (ga k) gl (gc k) ((G k).map .string) (by rfl) ?hv a m cap (xs.map .string) (by rfl) ?hs ?h1 ?h63 ?hb ?_
                      case hv => exact HG.out.mod (S := fun _ => False) (by first | exact (Mod.refl _ _).drew | exact Mod.refl _ _) (fun _ _ => id)
                      case hs => exact HA.out.mod (S := fun _ => False) (by first | exact (Mod.refl _ _).drew | exact Mod.refl _ _) (fun _ _ => id)
                      case h1 => exact str_one _
                      case h63 => unfold maxLen; omega
                      case hb => omega
                      intro a2 cap2 w2 hS2 hM2 hF2 hN2 hR2
                      have hSA := HT.out.mod (by first | exact (Mod.refl _ wc).drew | exact Mod.refl _ wc)
                      have hSB := hSA.regrow (cs' := (G k).map .string ++ xs.map .string) (7 + k) (by have := got_at (bx tb (twc pb sa ga sc gc S G pa P.length pc) 32) (lk (pb 0) ((upd2 E k ((E k).hear p) 0).wc (upd2 cn k c' 0))) (lk (pb 1) ((upd2 E k ((E k).hear p) 1).wc (upd2 cn k c' 1))) (sl 9 1 a m cap (xs.map .string)) (bx nb p.cells.toArray 41) (tx (sa 0) (sc 0) (S 0)) (tx (sa 1) (sc 1) (S 1)) (sl 41 8 pa P.length pc (flat P)) ga gc G hk; unfold tx at this; rw [HGL.out] at this; exact this) hS2 hM2 hF2
                      have hb2 := hSB.box 0 (by rw [show 7 + k = (6 + k) + 1 by omega]; rfl)
                      have hc2 : w2.cell? ⟨tb, 6 + k, none⟩ = some (.slice (ga k) gl (gc k)) := by rw [← HGL.out]; exact blk_cell hb2 (6 + k) _ (twc_got pb sa ga sc gc S G pa P.length pc hk)
                      have hf2 := blk_free hb2 (6 + k)
                      have htb2 := heap_lt hb2
                      have HSB := Lib.hid hSB
                      clear hN2 hR2 hb2 hSA hSB hS2))
      all_goals
        (try go_wp2_with fail)
        go_meet
        refine ⟨a2, cap2, ?_⟩
        have h := HSB.out.set 0 (pb := tb) (c := twc pb sa ga sc gc S G pa P.length pc) (t := 32) (by rw [show 7 + k = (6 + k) + 1 by omega]; rfl) (6 + k) (.slice a2 (gl + m) cap2)
        clear HSB HT HG HA HM HGL hw cg htb hc2 hf2 htb2 HOK HHD HEN HHE
        rcases two_cases hk with rfl | rfl <;> exact h
    case rest =>
      clear cg htb
      obtain ⟨a2, cap2, hC⟩ := hcut
      have hC := ((hC.perm (perm3 _ _ _ _ _)).tail.perm (perm3 _ _ _ _ _)).tail
      have hlen : (G k ++ xs).length = gl + m := by rw [List.length_append, HGL.out, HM.out]
      rw [twc_set_got pb sa ga sc gc S G pa P.length pc hk (G k ++ xs) (gl + m) hlen, ← List.map_append, ← hlen] at hC
      have HC := Lib.hid hC
      clear hC hlen HT HG HA
      go_wp2
      go_ret
      refine ⟨rfl, pb, upd2 cn k c', sa, upd2 ga k a2, sc, upd2 gc k cap2, pa, pc, ?_⟩
      have h := HC.out
      rcases two_cases hk with rfl | rfl <;> exact h
end Go.Proofs.Ytoeokdachojhjaa
