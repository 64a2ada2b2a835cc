/-
  The document's post: each of its methods, for every list.
  Conditions: the post lies in a block of its own ('PostAt'); the lists fit append's room.
-/
import Derived.Test.YtnggolgpnbdghaaPostC
import Derived.Test.YtnggolgpnbdghaaStep
import Derived.Deep.LoopGhost
import Derived.Deep.DeepCutAuto
namespace Go.Proofs.Ytnggolgpnbdghaa
open Go.RowKit
set_option linter.unusedSectionVars false
set_option linter.unusedSimpArgs false
set_option linter.unusedVariables false

theorem rLen_any (pb : Nat) (a : Option Addr) (cap : Nat) (xs : List Pk) (w : World) (h : PostAt 51 w pb a cap xs) :
    Calls Try.prog 15 #[.pointer (some ⟨pb, 0, none⟩)] w (RetPost (.int .i64 xs.length) w) := by
  have hc := blk_cell h.1 0 _ rfl
  go_enter Try.func15, Try.ntmps15
  go_wp2
  go_ret
  exact ⟨rfl, rfl⟩

theorem rNew_any (w : World) : Calls Try.prog 13 #[] w (NewPost 51 w) := by
  go_enter Try.func13, Try.ntmps13
  go_wp2
  go_ret
  exact new_post _ _

theorem rCopy_yes (pb : Nat) (a : Option Addr) (cap : Nat) (xs : List Pk) (w : World) (h : PostAt 51 w pb a cap xs) (k : Nat) (p : Pk) (hp : xs[k]? = some p) :
    Calls Try.prog 22 #[.pointer (some ⟨pb, 0, none⟩), .int .i64 k] w (CopyPost (.tuple #[p.agg, .bool true]) w) := by
  have hc := blk_cell h.1 0 _ rfl
  have hpb := heap_lt h.1
  have hk : k < xs.length := (List.getElem?_eq_some_iff.1 hp).1
  have hl := h.2.2.2.le
  obtain ⟨b, o, rfl, h8⟩ := h.2.1.rd.at8 hp
  have hbl := h.2.1.lt b rfl
  obtain ⟨c0, c1, c2, c3, c4, c5, c6, c7⟩ := h8
  have hk2 : decide ((xs.length : Int) ≤ (k : Int)) = false := by simp; omega
  have hk3 : ¬ xs.length ≤ k := by omega
  clear h hp
  go_enter Try.func22, Try.ntmps22
  go_wp2
  exact bodyPost_ret (v := .tuple #[p.agg, .bool true]) (by simp [results, Try.results22, go_sem, Pk.agg]) rfl ⟨rfl, (Mod.refl _ _).alloc _⟩

theorem rCopy_no (pb : Nat) (a : Option Addr) (cap : Nat) (xs : List Pk) (w : World) (h : PostAt 51 w pb a cap xs) (k : Int) (hk : k < 0 ∨ (xs.length : Int) ≤ k) :
    Calls Try.prog 22 #[.pointer (some ⟨pb, 0, none⟩), .int .i64 k] w (CopyPost (.tuple #[Pk.zero.agg, .bool false]) w) := by
  have hc := blk_cell h.1 0 _ rfl
  have hpb := heap_lt h.1
  have hl := h.2.2.2.le
  by_cases h0 : k < 0
  · have hk1 : decide (k < 0) = true := by simpa using h0
    clear h hk
    go_enter Try.func22, Try.ntmps22
    go_wp2
    exact bodyPost_ret (v := .tuple #[Pk.zero.agg, .bool false]) (by simp [results, Try.results22, go_sem, Pk.agg, Pk.zero]; rfl) rfl ⟨rfl, (Mod.refl _ _).alloc _⟩
  · have hk1 : decide (k < 0) = false := by simpa using h0
    have hk2 : decide ((xs.length : Int) ≤ k) = true := by simp; omega
    clear h hk
    go_enter Try.func22, Try.ntmps22
    go_wp2
    exact bodyPost_ret (v := .tuple #[Pk.zero.agg, .bool false]) (by simp [results, Try.results22, go_sem, Pk.agg, Pk.zero]; rfl) rfl ⟨rfl, (Mod.refl _ _).alloc _⟩

theorem rTake_no (pb : Nat) (a : Option Addr) (cap : Nat) (xs : List Pk) (w : World) (h : PostAt 51 w pb a cap xs) (k : Int) (hk : k < 0 ∨ (xs.length : Int) ≤ k) :
    Calls Try.prog 21 #[.pointer (some ⟨pb, 0, none⟩), .int .i64 k] w (ToPost 51 (.tuple #[Pk.zero.agg, .bool false]) w pb a xs) := by
  have hlt := h.lt
  have HP := Lib.hid h
  clear h
  go_enter Try.func21, Try.ntmps21
  go_wp2_with fail
  refine (rCopy_no pb a cap xs _ (HP.out.mod (S := fun _ => False) ((Mod.refl _ _).alloc _) id (fun _ _ => id)) k hk).mono ?_
  rintro e w1 ⟨rfl, hM⟩
  have hz1 : w.heap.size < w1.heap.size := by have := hM.size; simp at this; omega
  have hg := hM.heap (heap_alloc_new w _) id
  go_wp2_with (refine wpList_store_whole 8 sizeP w.heap.size rfl _ _ ((Mod.refl (fun _ => False) w1).alloc _ |>.heap hg id) rfl _ rfl rfl (by kernel_rfl) ?_; intro w2 hg2 hM2 hz2)
  have hT : Mod (fun _ => False) w w2 := ((((Mod.refl _ w).alloc _).then hM (fun _ _ h => h)).alloc _).then hM2 (fun x hx h => by omega)
  refine bodyPost_ret (results_cell_tmp rfl _ w2 w.heap.size _ _ _ _ rfl hg2 Try.underlying32 rfl sizeP) rfl ?_
  exact
    ⟨rfl, a, cap, HP.out.mod hT id (fun _ _ => id), hT.mono (fun _ _ h => h.elim), fun b hb => .inl hb⟩


theorem rAll_any (pb : Nat) (a : Option Addr) (cap : Nat) (xs : List Pk) (w : World) (h : PostAt 51 w pb a cap xs) :
    Calls Try.prog 16 #[.pointer (some ⟨pb, 0, none⟩)] w (ClonePost xs.length (flat xs) w) := by
  have hc := blk_cell h.1 0 _ rfl
  have hpb := heap_lt h.1
  have HP := Lib.hid h
  clear h
  obtain ⟨ip, hip1, hip2, hip3⟩ := info_parts infoP
  have HI := Lib.hid (And.intro hip1 (And.intro hip2 hip3))
  clear hip1 hip2 hip3
  go_enter Try.func16, Try.ntmps16
  go_wp2_with (at_builtin; refine wpList_append 32 ip _ 8 72 (by kernel_rfl) HI.out.1 HI.out.2.1 HI.out.2.2.1 HI.out.2.2.2 rfl none 0 0 [] rfl (Sl.nil _ _ _) a xs.length cap _ rfl HP.out.2.1.rd (flat_one xs) (by rw [Nat.zero_add]; exact HP.out.2.2.2.maxLen) (by rw [Nat.zero_add]; exact HP.out.2.2.2.room) ?_; rw [Nat.zero_add, List.nil_append]; intro a1 cap1 w1 hS1 hM1 hF1 hN1 hR1; clear hN1 hR1)
  go_ret
  refine ⟨a1, cap1, rfl, hS1, hM1.mono (fun x _ h => by simp [own] at h), fun b hb => ?_⟩
  rcases hF1 b hb with h | h
  · simp [own] at h
  · exact h

theorem lastq_small {q : Nat} {xs : List Pk} (h : xs.length ≤ q) : xs.drop (xs.length - q) = xs := by
  rw [show xs.length - q = 0 by omega, List.drop_zero]
theorem lastq_snoc (q : Nat) (hq : 1 ≤ q) (xs : List Pk) (y : Pk) : (xs ++ [y]).drop ((xs ++ [y]).length - q) = (xs.drop (xs.length - q) ++ [y]).drop ((xs.drop (xs.length - q) ++ [y]).length - q) := by
  by_cases h : xs.length ≤ q
  · rw [lastq_small h]
  · have e1 : (xs.drop (xs.length - q) ++ [y]).length = q + 1 := by rw [List.length_append, List.length_drop, List.length_singleton]; omega
    rw [e1, ← List.drop_append_of_le_length (by omega), List.drop_drop, List.length_append, List.length_singleton]
    congr 1
    omega
theorem last400_small {xs : List Pk} (h : xs.length ≤ 400) : last400 xs = xs := lastq_small h
theorem last400_len (xs : List Pk) : (last400 xs).length ≤ 400 := by unfold last400; rw [List.length_drop]; omega
theorem last400_snoc (xs : List Pk) (y : Pk) : last400 (xs ++ [y]) = last400 (last400 xs ++ [y]) := lastq_snoc 400 (by omega) xs y
theorem lastq_one {q : Nat} {xs : List Pk} {y : Pk} (h : xs.length = q) : (xs ++ [y]).drop ((xs ++ [y]).length - q) = (xs ++ [y]).drop 1 := by
  rw [List.length_append, h, List.length_singleton, Nat.add_sub_cancel_left]
theorem last400_one {xs : List Pk} {y : Pk} (h : xs.length = 400) : last400 (xs ++ [y]) = (xs ++ [y]).drop 1 := lastq_one h

def rSendRel (w : World) (pb : Nat) (a : Option Addr) (xs ys : List Pk) (k : Nat) (wr : World) : Prop :=
  ∃ a' cap', PostAt 51 wr pb a' cap' (last400 (xs ++ ys.take k)) ∧ Mod (fun b => b = pb ∨ own a = some b) w wr ∧ ∀ b, own a' = some b → own a = some b ∨ (w.heap.size ≤ b ∧ b < wr.heap.size)

def rMid (w : World) (pb : Nat) (a : Option Addr) (xs : List Pk) (wr : World) : Prop :=
  ∃ a' cap', PostAt 51 wr pb a' cap' xs ∧ Mod (fun b => b = pb ∨ own a = some b) w wr ∧ ∀ b, own a' = some b → own a = some b ∨ (w.heap.size ≤ b ∧ b < wr.heap.size)

/-- A slice's first elements are let go. -/
theorem Sl.tail {w : World} {E k : Nat} {a : Option Addr} {n cap : Nat} {cs : List Value} (h : Sl w E k a n cap cs) (hn : 1 ≤ n) : ∃ p', p' = (if cap = 1 then a else a.map (·.add (1 * k))) ∧ Sl w E k p' (n - 1) (cap - 1) (cs.drop (1 * k)) ∧ own p' = own a := by
  have hnc := h.2.1
  obtain ⟨h1, h2⟩ := h.cut 1 n cap hn (Nat.le_refl _) hnc (Nat.le_refl _)
  refine ⟨_, rfl, ?_, h2⟩
  rw [List.take_of_length_le (by rw [List.length_drop, h.1, Nat.sub_mul]; exact Nat.le_refl _)] at h1
  exact h1

set_option maxHeartbeats 2000000 in
theorem rSend_any (pb : Nat) (a : Option Addr) (cap : Nat) (xs : List Pk) (w : World) (h : PostAt 51 w pb a cap xs) (hx : xs.length ≤ 400) (s : Option Addr) (n sc : Nat) (ys : List Pk) (hn : ys.length = n) (hs : Rd w 8 s n sc (flat ys)) (hfit : fits n)
    (hd : 0 < n → ∀ b, own s = some b → b < w.heap.size ∧ b ≠ pb ∧ own a ≠ some b) :
    Calls Try.prog 25 #[.pointer (some ⟨pb, 0, none⟩), .slice s n sc] w (ToPost 51 (.tuple #[]) w pb a (last400 (xs ++ ys))) := by
  have hlt := h.lt
  have hl := hfit.le
  have HP := Lib.hid h
  have HR := Lib.hid hs
  have HD := Lib.hid hd
  have HN := Lib.hid hn
  clear h hs hfit hd hn
  obtain ⟨ip, hip1, hip2, hip3⟩ := info_parts infoP
  have HI := Lib.hid (And.intro hip1 (And.intro hip2 hip3))
  clear hip1 hip2 hip3
  go_enter Try.func25, Try.ntmps25
  go_wp2
  go_loopg [4] n (fun g i wr => ∃ k : Nat, k + g = n ∧ i = .int .i64 k ∧ rSendRel w pb a xs ys k wr)
  case atStart => exact ⟨0, by omega, rfl, a, cap, by rw [List.take_zero, List.append_nil, last400_small hx]; exact HP.out, Mod.refl _ _, fun b hb => .inl hb⟩
  case round =>
    obtain ⟨k, hk, rfl, a1, cap1, hP, hM, hF⟩ := hrel
    by_cases hlt2 : k < n
    · have hy : ys[k]? = some (ys[k]'(HN.out ▸ hlt2)) := List.getElem?_eq_getElem _
      obtain ⟨y, hyy⟩ : ∃ y, ys[k]'(HN.out ▸ hlt2) = y := ⟨_, rfl⟩
      rw [hyy] at hy
      have hE : last400 (xs ++ ys.take (k + 1)) = last400 (last400 (xs ++ ys.take k) ++ [y]) := by
        rw [List.take_succ_eq_append_getElem (HN.out ▸ hlt2), hyy, ← List.append_assoc, last400_snoc]
      have HE := Lib.hid hE
      obtain ⟨zs, hz⟩ : ∃ zs, last400 (xs ++ ys.take k) = zs := ⟨_, rfl⟩
      have hzl : zs.length ≤ 400 := by rw [← hz]; exact last400_len _
      rw [hz] at HE hP
      clear hyy hE hz
      obtain ⟨m, hm⟩ : ∃ m, zs.length = m := ⟨_, rfl⟩
      rw [hm] at hzl
      have hPc : PostAt 51 wr pb a1 cap1 zs := hP
      have hc := blk_cell hP.1 0 _ rfl
      have hfz := blk_free hP.1 0
      have hpb := heap_lt hP.1
      have hrs : Rd wr 8 s n sc (flat ys) := HR.out.mod hM (fun b hb h => by
        obtain ⟨h1, h2, h3⟩ := HD.out (by omega) b hb
        rcases h with h | h
        · exact h2 h
        · exact h3 h)
      obtain ⟨b, o, rfl, h8⟩ := hrs.at8 hy
      have hbl : b < wr.heap.size := by have := (HD.out (by omega) b rfl).1; have := hM.size; omega
      have HPW := Lib.hid hPc
      rw [hm] at hc
      have HM := Lib.hid hm
      clear hm hP hPc hrs hy
      obtain ⟨c0, c1, c2, c3, c4, c5, c6, c7⟩ := h8
      have hne : b ≠ pb := (HD.out (by omega) b rfl).2.1
      have hk0 : (0 : Int) ≤ (k : Int) := by omega
      have hk1 : (k : Int) < (n : Int) := by omega
      go_upto_region 3 with (fail)
      go_cut [] (fun wx => rMid wr pb a1 (zs ++ [y]) wx)
      case first =>
        go_region_law ((refine step_append rfl rfl 32 ip _ 8 72 (by kernel_rfl) HI.out.1 HI.out.2.1 HI.out.2.2.1 HI.out.2.2.2 rfl a1 m cap1 (flat zs) (by rfl) ?hv (some ⟨wr.heap.size, 0, none⟩) 1 1 y.cells (by rfl) ?hs ?h1 ?h63 ?hb ?_
                        case hv => exact (HM.out ▸ HPW.out.2.1).mod (S := fun _ => False) (by first | exact ((Mod.refl _ _).alloc _).drew | exact ((Mod.refl _ _).drew).alloc _) (fun _ _ => id)
                        case hs => exact (Sl.new (c := y.cells.toArray) (by first | exact heap_alloc_new wr _ | exact heap_alloc_new wr.drew _) rfl (by unfold maxLen; omega)).rd
                        case h1 => exact fun u hu => flat_one [y] u (by simpa [flat] using hu)
                        case h63 => unfold maxLen; omega
                        case hb => omega
                        intro a2 cap2 w2 hS2 hM2 hF2 hN2 hR2
                        have hb2 := hM2.heap (Mod.heap (S := fun _ => False) (by first | exact ((Mod.refl _ _).alloc _).drew | exact ((Mod.refl _ _).drew).alloc _) HPW.out.1 id) (fun h => HPW.out.2.2.1 h)
                        have hc2 := blk_cell hb2 0 _ rfl
                        have hf2 := blk_free hb2 0
                        have HB2 := Lib.hid hb2
                        clear hN2 hR2 hb2))
        all_goals
          have hpw := HPW.out
          have hn1 : ∀ x, own a2 = some x → x ≠ pb := fun x hb e => by
            rcases hF2 x hb with h | h
            · exact hpw.2.2.1 (e ▸ h)
            · simp at h; omega
          have hz2 := hM2.size
          simp at hz2
          (try go_wp2_with fail)
          go_meet
          refine ⟨a2, cap2, ⟨?_, ?_, ?_, ?_⟩, ?_, fun x hb => ?_⟩
          · rw [List.length_append, HM.out]; exact blk_set (i := 0) (.slice a2 (m + 1) cap2) HB2.out
          · rw [List.length_append, HM.out, flat_append]; exact hS2.mod (S := fun x => x = pb) ((Mod.refl _ w2).setCell ⟨pb, 0, none⟩ (.slice a2 (m + 1) cap2) (fun _ => rfl)) hn1
          · exact fun h => hn1 pb h rfl
          · rw [List.length_append, HM.out]; unfold fits; simp; omega
          · exact Mod.setCell (Mod.then (Mod.mono (S := fun _ => False) (by first | exact ((Mod.refl _ _).alloc _).drew | exact ((Mod.refl _ _).drew).alloc _) (fun _ _ h => h.elim)) hM2 (fun x _ h => .inr h)) _ _ (fun _ => .inl rfl)
          · simp only [World.size_setCell]
            rcases hF2 x hb with h | h
            · exact .inl h
            · simp at h; exact .inr ⟨by omega, h.2⟩
      case rest =>
        obtain ⟨a2, cap2, hPA, hMA, hFA⟩ := hcut
        have hMT : Mod (fun x => x = pb ∨ own a = some x) w wc := hM.then hMA (fun x hx h => by
          rcases h with h | h
          · exact .inl h
          · rcases hF x h with h | h
            · exact .inr h
            · omega)
        have hz1 := hM.size
        have hzA := hMA.size
        have hFT : ∀ x, own a2 = some x → own a = some x ∨ (w.heap.size ≤ x ∧ x < wc.heap.size) := fun x hb => by
          rcases hFA x hb with h | h
          · rcases hF x h with h | h
            · exact .inl h
            · exact .inr ⟨h.1, by omega⟩
          · exact .inr ⟨by omega, h.2⟩
        have hl1 : (zs ++ [y]).length = m + 1 := by rw [List.length_append, HM.out]; rfl
        have hcA := blk_cell hPA.1 0 _ rfl
        rw [hl1] at hcA
        have hfA := blk_free hPA.1 0
        have hpA := heap_lt hPA.1
        have HFT := Lib.hid hFT
        have HPA := Lib.hid hPA
        have HL1 := Lib.hid hl1
        clear hFT hPA hl1 hFA hF c0 c1 c2 c3 c4 c5 c6 c7 hc hfz
        by_cases h400 : m = 400
        · have hE : last400 (xs ++ ys.take (k + 1)) = (zs ++ [y]).drop 1 := by rw [HE.out, last400_one (by rw [HM.out]; exact h400)]
          have HE2 := Lib.hid hE
          have g : decide ((400 : Int) < (m : Int) + 1) = true := by simp; omega
          have hSl : Sl wc 32 8 a2 (m + 1) cap2 (flat (zs ++ [y])) := by have := HPA.out.2.1; rw [HL1.out] at this; exact this
          have hnc := hSl.2.1
          clear hE h400
          go_wp2_with (refine wpList_cut 32 8 (by kernel_rfl) cellsP isP a2 (m + 1) cap2 (flat (zs ++ [y])) rfl hSl _ _ _ rfl rfl rfl 1 (m + 1) cap2 (bounds_l _ _ _ _ (by omega) (by omega)) (by omega) (Nat.le_refl _) hnc (Nat.le_refl _) ?_; intro p3 hS3 hown3)
          have hls : (last400 (xs ++ ys.take (k + 1))).length = m := by rw [HE2.out, List.length_drop, HL1.out]; omega
          have hfl : (flat (zs ++ [y])).drop (1 * 8) = flat (last400 (xs ++ ys.take (k + 1))) := by rw [HE2.out, flat_drop]
          have hSd : Sl wc 32 8 p3 m (cap2 - 1) (flat (last400 (xs ++ ys.take (k + 1)))) := by
            rw [hfl, Nat.add_sub_cancel, List.take_of_length_le (by rw [flat_length, hls]; exact Nat.le_refl _)] at hS3
            exact hS3
          have hnp : ∀ x, own p3 = some x → x ≠ pb := fun x hb e => HPA.out.2.2.1 (by rw [← hown3, hb, e])
          go_roundg (gk - 1)
          case measure => omega
          case rel =>
            refine ⟨k + 1, by omega, by simp, p3, cap2 - 1, ⟨?_, ?_, fun h => hnp pb h rfl, ?_⟩, hMT.setCell _ _ (fun _ => .inl rfl), fun x hb => ?_⟩
            · rw [hls]; exact blk_set (i := 0) (.slice p3 m (cap2 - 1)) HPA.out.1
            · rw [hls]; exact hSd.mod (S := fun x => x = pb) ((Mod.refl _ wc).setCell ⟨pb, 0, none⟩ (.slice p3 m (cap2 - 1)) (fun _ => rfl)) hnp
            · rw [hls]; unfold fits; omega
            · simp only [World.size_setCell]
              exact HFT.out x (hown3 ▸ hb)
        · have hE : last400 (xs ++ ys.take (k + 1)) = zs ++ [y] := by rw [HE.out, last400_small (by rw [HL1.out]; omega)]
          have HE2 := Lib.hid hE
          have g : decide ((400 : Int) < (m : Int) + 1) = false := by simp; omega
          clear hE
          go_wp2
          go_roundg (gk - 1)
          case measure => omega
          case rel => exact ⟨k + 1, by omega, by simp, a2, cap2, by rw [HE2.out]; exact HPA.out, hMT, HFT.out⟩
    · obtain rfl : k = n := by omega
      clear hlt2
      go_wp2
      go_end0
      rw [List.take_of_length_le (by rw [HN.out]; exact Nat.le_refl _)] at hP
      exact ⟨rfl, a1, cap1, hP, hM, hF⟩
end Go.Proofs.Ytnggolgpnbdghaa
