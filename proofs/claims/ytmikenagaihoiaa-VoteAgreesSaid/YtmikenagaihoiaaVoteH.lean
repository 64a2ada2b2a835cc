/-
  A voter: Hear.
  Conditions: at most 1000 servers, of which it is one; what it holds is from servers that there are.
-/
import Derived.Test.YtmikenagaihoiaaVoteG
import Derived.Test.YtmikenagaihoiaaMapS
namespace Go.Proofs.Ytmikenagaihoiaa
open Go.RowKit
set_option linter.unusedSectionVars false
set_option linter.unusedSimpArgs false
set_option linter.unusedVariables false

structure Vr.ok (V : Vr) : Prop where
  me0 : 1 ≤ V.me
  me1 : V.me ≤ V.servers
  most : V.servers ≤ 1000
  heard : ∀ i x, V.heard i = some x → 1 ≤ i ∧ i ≤ V.servers
  settled : ∀ i x, V.settled i = some x → 1 ≤ i ∧ i ≤ V.servers

def Vr.flat (V : Vr) : Vr := { V with hn := 1000, sn := 1000 }
theorem St.flat {w0 w : World} {pb : Nat} {V : Vr} {l : List Thing} (h : St w0 w (vr pb V :: l)) (hok : V.ok) : St w0 w (vr pb V.flat :: l) := by
  obtain ⟨hb, sb, hS⟩ := h.unvr
  have m1 := (hS.mapAt 1 rfl).small (N := 1000) keyI mapV (zeroV _) (fun x v hv => by
    unfold vmap at hv
    obtain ⟨c, hc, _⟩ := Option.map_eq_some_iff.1 hv
    have := hok.heard x c hc; have := hok.most; omega)
  have h1 := hS.remap 1 rfl m1 (Mod.refl _ _)
  have m2 := (h1.mapAt 2 rfl).small (N := 1000) keyI mapN (zeroN _) (fun x v hv => by
    unfold nmap at hv
    obtain ⟨c, hc, _⟩ := Option.map_eq_some_iff.1 hv
    have := hok.settled x c hc; have := hok.most; omega)
  exact (h1.remap 2 rfl m2 (Mod.refl _ _)).revr (V := V.flat)

def Vr.drops (V : Vr) (n : No) : Bool :=
  !V.knows n.fr || n.fr == V.me || !V.knows n.le || decide (n.st < 0) || decide (2 < n.st) || decide (n.ro < 1) || V.does == 0
def Vr.hears (V : Vr) (n : No) : Vr := if n.ro < V.round then V else ((V.chosen n).hear1 n).counted
def Vr.hearsCs (V : Vr) (n : No) : List Cs := if n.ro < V.round then [⟨n.fr, V.note⟩] else V.answer n
def Vr.hear (V : Vr) (n : No) : Vr := if V.drops n = true then V else if V.does = 2 then V else if n.st = 0 then V.hears n else V.joined n
def Vr.hearCs (V : Vr) (n : No) : List Cs := if V.drops n = true then [] else if V.does = 2 then (if n.st = 0 then [⟨n.fr, V.note⟩] else []) else if n.st = 0 then V.hearsCs n else []

theorem drops_not {V : Vr} {n : No} (h : V.drops n = false) : (1 ≤ n.fr ∧ n.fr ≤ V.servers) ∧ n.fr ≠ V.me ∧ (1 ≤ n.le ∧ n.le ≤ V.servers) ∧ 0 ≤ n.st ∧ n.st ≤ 2 ∧ 1 ≤ n.ro ∧ V.does ≠ 0 := by
  simp [Vr.drops, Vr.knows] at h
  omega

set_option maxRecDepth 100000 in
set_option maxHeartbeats 4000000 in
theorem hear_st {w0 w : World} {pb : Nat} {V : Vr} {l : List Thing} (h : St w0 w (vr pb V :: l)) (n : No) (hok : V.ok) (hn : V.hn ≤ 1000) (hn2 : V.sn ≤ 1000) :
    Calls Try.prog 11 #[.pointer (some ⟨pb, 0, none⟩), n.agg] w (StCs w0 (V.hearCs n) (vr pb (V.hear n) :: l)) := by
  have hmf : ∀ (fn : Fn) (first cap : Array Value) (w : World), (Instr.makeFunc fn first cap).run Try.prog w = .ok (.func fn first cap) w := fun _ _ _ _ => rfl
  obtain ⟨hb, sb, hS⟩ := h.unvr
  have hT := (hS.box1 #[.pointer (some ⟨pb, 0, none⟩)] 29).box1 n.cells.toArray 23
  rw [World.size_alloc] at hT
  have HT := Lib.hid hT
  have HOK := Lib.hid hok
  clear h hS hT hok
  simp only [No.agg]
  go_enter Try.func11, Try.ntmps11
  go_upto_region 3 with (fail)
  change Code.wp _ _ _ _ ((w.alloc (.cells #[.pointer (some ⟨pb, 0, none⟩)] 29)).alloc (.cells n.cells.toArray 23))
  generalize (w.alloc (.cells #[.pointer (some ⟨pb, 0, none⟩)] 29)).alloc (.cells n.cells.toArray 23) = W at HT ⊢
  obtain ⟨nb, hnbe⟩ : ∃ nb, w.heap.size + 1 = nb := ⟨_, rfl⟩
  rw [hnbe] at HT ⊢
  generalize w.heap.size = vb at HT ⊢
  clear hnbe
  go_cut [10] (fun v wx => v = .bool (V.drops n) ∧ ∃ hb sb, St w0 wx (bx nb n.cells.toArray 23 :: bx vb #[.pointer (some ⟨pb, 0, none⟩)] 29 :: bx pb (V.cells (some hb) (some sb)) 51 :: mp Try.prog 3 hb V.hn (vmap V.heard) :: mp Try.prog 3 sb V.sn (nmap V.settled) :: l))
  case first =>
    obtain ⟨kf, hkf⟩ : ∃ kf, V.knows n.fr = kf := ⟨_, rfl⟩
    obtain ⟨kl, hkl⟩ : ∃ kl, V.knows n.le = kl := ⟨_, rfl⟩
    have HKF : Hid (∀ k, Calls Try.prog 20 #[.int .i64 n.fr, .pointer (some ⟨vb, 0, none⟩)] (W.drewN k) (fun e w' => e = .returned (.bool kf) ∧ w' = W.drewN k)) := Lib.hid (fun k => by
      rw [← hkf]
      exact (is_any n.fr vb pb V (some hb) (some sb) (W.drewN k) ((HT.out.drewN k).box 1 rfl) ((HT.out.drewN k).box 2 rfl)).mono (fun e w' h => ⟨h.1, h.2.symm⟩))
    have HKL : Hid (∀ k, Calls Try.prog 20 #[.int .i64 n.le, .pointer (some ⟨vb, 0, none⟩)] (W.drewN k) (fun e w' => e = .returned (.bool kl) ∧ w' = W.drewN k)) := Lib.hid (fun k => by
      rw [← hkl]
      exact (is_any n.le vb pb V (some hb) (some sb) (W.drewN k) ((HT.out.drewN k).box 1 rfl) ((HT.out.drewN k).box 2 rfl)).mono (fun e w' h => ⟨h.1, h.2.symm⟩))
    have HF := Lib.hid hkf
    have HL := Lib.hid hkl
    have hbx := HT.out.box 0 rfl
    have n0 := blk_cell hbx 0 (.int .i64 n.fr) rfl
    have n1 := blk_cell hbx 1 (.int .i64 n.st) rfl
    have n2 := blk_cell hbx 2 (.int .i64 n.ro) rfl
    have n3 := blk_cell hbx 3 (.int .i64 n.le) rfl
    have hnb := heap_lt hbx
    have hbx := HT.out.box 1 rfl
    have v0 := blk_cell hbx 0 (.pointer (some ⟨pb, 0, none⟩)) rfl
    have hvb := heap_lt hbx
    have hbx := HT.out.box 2 rfl
    have c0 := blk_cell hbx 0 (.int .i64 V.me) rfl
    have c2 := blk_cell hbx 2 (.int .i64 V.does) rfl
    have hpb := heap_lt hbx
    clear hbx hkf hkl hmf
    obtain - | - := kf
    · have HE : Hid (V.drops n = true) := Lib.hid (by simp only [Vr.drops, HF.out, HL.out]; simp [])
      go_quiet ((first | (go_at_call 20; with_reducible exact Calls.quiet_of_same (HKF.out _)) | (go_at_call 20; with_reducible exact Calls.quiet_of_same (HKL.out _))))
      (try go_wp2_with fail)
      go_meet
      exact ⟨by rw [HE.out], hb, sb, HT.out.drewN nq⟩
    · by_cases h2 : n.fr = V.me
      · have g1 : (n.fr == V.me) = true := by simpa using h2
        have HE : Hid (V.drops n = true) := Lib.hid (by simp only [Vr.drops, HF.out, HL.out]; simp [h2])
        clear h2
        go_quiet ((first | (go_at_call 20; with_reducible exact Calls.quiet_of_same (HKF.out _)) | (go_at_call 20; with_reducible exact Calls.quiet_of_same (HKL.out _))))
        (try go_wp2_with fail)
        go_meet
        exact ⟨by rw [HE.out], hb, sb, HT.out.drewN nq⟩
      · have g1 : (n.fr == V.me) = false := by simpa using h2
        obtain - | - := kl
        · have HE : Hid (V.drops n = true) := Lib.hid (by simp only [Vr.drops, HF.out, HL.out]; simp [h2])
          clear h2
          go_quiet ((first | (go_at_call 20; with_reducible exact Calls.quiet_of_same (HKF.out _)) | (go_at_call 20; with_reducible exact Calls.quiet_of_same (HKL.out _))))
          (try go_wp2_with fail)
          go_meet
          exact ⟨by rw [HE.out], hb, sb, HT.out.drewN nq⟩
        · by_cases h4 : n.st < 0
          · have g3 : decide (n.st < 0) = true := by simpa using h4
            have HE : Hid (V.drops n = true) := Lib.hid (by simp only [Vr.drops, HF.out, HL.out]; simp [h2, h4])
            clear h2 h4
            go_quiet ((first | (go_at_call 20; with_reducible exact Calls.quiet_of_same (HKF.out _)) | (go_at_call 20; with_reducible exact Calls.quiet_of_same (HKL.out _))))
            (try go_wp2_with fail)
            go_meet
            exact ⟨by rw [HE.out], hb, sb, HT.out.drewN nq⟩
          · have g3 : decide (n.st < 0) = false := by simpa using h4
            by_cases h5 : 2 < n.st
            · have g4 : decide (2 < n.st) = true := by simpa using h5
              have HE : Hid (V.drops n = true) := Lib.hid (by simp only [Vr.drops, HF.out, HL.out]; simp [h2, h4, h5])
              clear h2 h4 h5
              go_quiet ((first | (go_at_call 20; with_reducible exact Calls.quiet_of_same (HKF.out _)) | (go_at_call 20; with_reducible exact Calls.quiet_of_same (HKL.out _))))
              (try go_wp2_with fail)
              go_meet
              exact ⟨by rw [HE.out], hb, sb, HT.out.drewN nq⟩
            · have g4 : decide (2 < n.st) = false := by simpa using h5
              by_cases h6 : n.ro < 1
              · have g5 : decide (n.ro < 1) = true := by simpa using h6
                have HE : Hid (V.drops n = true) := Lib.hid (by simp only [Vr.drops, HF.out, HL.out]; simp [h2, h4, h5, h6])
                clear h2 h4 h5 h6
                go_quiet ((first | (go_at_call 20; with_reducible exact Calls.quiet_of_same (HKF.out _)) | (go_at_call 20; with_reducible exact Calls.quiet_of_same (HKL.out _))))
                (try go_wp2_with fail)
                go_meet
                exact ⟨by rw [HE.out], hb, sb, HT.out.drewN nq⟩
              · have g5 : decide (n.ro < 1) = false := by simpa using h6
                by_cases h7 : V.does = 0
                · have g6 : (V.does == 0) = true := by simpa using h7
                  have HE : Hid (V.drops n = true) := Lib.hid (by simp only [Vr.drops, HF.out, HL.out]; simp [h2, h4, h5, h6, h7])
                  clear h2 h4 h5 h6 h7
                  go_quiet ((first | (go_at_call 20; with_reducible exact Calls.quiet_of_same (HKF.out _)) | (go_at_call 20; with_reducible exact Calls.quiet_of_same (HKL.out _))))
                  (try go_wp2_with fail)
                  go_meet
                  exact ⟨by rw [HE.out], hb, sb, HT.out.drewN nq⟩
                · have g6 : (V.does == 0) = false := by simpa using h7
                  have HE : Hid (V.drops n = false) := Lib.hid (by simp only [Vr.drops, HF.out, HL.out]; simp [h2, h4, h5, h6, h7])
                  clear h2 h4 h5 h6 h7
                  go_quiet ((first | (go_at_call 20; with_reducible exact Calls.quiet_of_same (HKF.out _)) | (go_at_call 20; with_reducible exact Calls.quiet_of_same (HKL.out _))))
                  (try go_wp2_with fail)
                  go_meet
                  exact ⟨by rw [HE.out], hb, sb, HT.out.drewN nq⟩
  case rest =>
    clear HT hmf
    obtain ⟨rfl, hb, sb, hS⟩ := hcut
    have hbx := hS.box 0 rfl
    have n0 := blk_cell hbx 0 (.int .i64 n.fr) rfl
    have n1 := blk_cell hbx 1 (.int .i64 n.st) rfl
    have n2 := blk_cell hbx 2 (.int .i64 n.ro) rfl
    have n3 := blk_cell hbx 3 (.int .i64 n.le) rfl
    have n4 := blk_cell hbx 4 (.int .i64 n.ep) rfl
    have n5 := blk_cell hbx 5 (.int .i64 n.zx) rfl
    have hnb := heap_lt hbx
    have hbx := hS.box 1 rfl
    have v0 := blk_cell hbx 0 (.pointer (some ⟨pb, 0, none⟩)) rfl
    have hvb := heap_lt hbx
    have hbx := hS.box 2 rfl
    have c2 := blk_cell hbx 2 (.int .i64 V.does) rfl
    have hpb := heap_lt hbx
    have HS := Lib.hid hS
    have HV : Hid (St w0 wc (vr pb V :: l)) := Lib.hid (St.revr V hS.tail.tail)
    clear hbx hS
    obtain ⟨d, hd⟩ : ∃ d, V.drops n = d := ⟨_, rfl⟩
    rw [hd]
    have HD := Lib.hid hd
    clear hd
    obtain - | - := d
    · by_cases h1 : V.does = 2
      · have g1 : (V.does == 2) = true := by simpa using h1
        by_cases h2 : n.st = 0
        · have g2 : (n.st == 0) = true := by simpa using h2
          have HE : Hid (V.hear n = V ∧ V.hearCs n = [⟨n.fr, V.note⟩]) := Lib.hid ⟨by rw [Vr.hear, HD.out, if_neg (by simp), if_pos h1], by rw [Vr.hearCs, HD.out, if_neg (by simp), if_pos h1, if_pos h2]⟩
          clear h1 h2
          go_upto_region 5 with (fail)
          go_region_held3 (fun w' => w'.cell? ⟨nb, 0, none⟩ = some (.int .i64 n.fr) ∧ w'.cell? ⟨vb, 0, none⟩ = some (.pointer (some ⟨pb, 0, none⟩)))
            (first | with_reducible exact ⟨n0, v0⟩ | with_reducible exact ⟨r0, r1⟩ | go_keep)
            ((first
              | (go_at_call 21; refine (note_bx HS.out.drew 2 rfl).mono ?_; rintro e w5 ⟨rfl, hS5⟩; have r0 := blk_cell (hS5.box 0 rfl) 0 (.int .i64 n.fr) rfl; have r1 := blk_cell (hS5.box 1 rfl) 0 (.pointer (some ⟨pb, 0, none⟩)) rfl)))
          all_goals
            (try go_wp2)
            go_ret
            rw [HE.out.1, HE.out.2]
            exact ⟨_, 1, rfl, one_back hS5 ⟨n.fr, V.note⟩⟩
        · have g2 : (n.st == 0) = false := by simpa using h2
          have HE : Hid (V.hear n = V ∧ V.hearCs n = []) := Lib.hid ⟨by rw [Vr.hear, HD.out, if_neg (by simp), if_pos h1], by rw [Vr.hearCs, HD.out, if_neg (by simp), if_pos h1, if_neg h2]⟩
          clear h1 h2
          go_wp2
          go_ret
          rw [HE.out.1, HE.out.2]
          exact ⟨none, 0, rfl, HV.out.nilSlice _ _⟩
      · have g1 : (V.does == 2) = false := by simpa using h1
        have hno := drops_not HD.out
        have hok := HOK.out
        have hms := hok.most
        have hm0 := hok.me0
        have hm1 := hok.me1
        by_cases h2 : n.st = 0
        · have g2 : (n.st == 0) = true := by simpa using h2
          by_cases h3 : n.ro < V.round
          · have HE : Hid (V.hear n = V ∧ V.hearCs n = [⟨n.fr, V.note⟩]) := Lib.hid ⟨by rw [Vr.hear, HD.out, if_neg (by simp), if_neg h1, if_pos h2, Vr.hears, if_pos h3], by rw [Vr.hearCs, HD.out, if_neg (by simp), if_neg h1, if_pos h2, Vr.hearsCs, if_pos h3]⟩
            have H3 := Lib.hid h3
            clear h1 h2 h3 hno hok hms hm0 hm1
            go_wp2_with fail
            refine (hears_less HV.out n H3.out).mono ?_
            rintro e w5 ⟨a5, cap5, rfl, hS5⟩
            go_wp2
            go_ret
            rw [HE.out.1, HE.out.2]
            exact ⟨a5, cap5, rfl, hS5⟩
          · have HE : Hid (V.hear n = ((V.chosen n).hear1 n).counted ∧ V.hearCs n = V.answer n) := Lib.hid ⟨by rw [Vr.hear, HD.out, if_neg (by simp), if_neg h1, if_pos h2, Vr.hears, if_neg h3], by rw [Vr.hearCs, HD.out, if_neg (by simp), if_neg h1, if_pos h2, Vr.hearsCs, if_neg h3]⟩
            have HC := hears_st HV.out n (by omega) (by omega) (by omega) (by unfold wf64; omega) (by unfold wf64; omega) (by unfold maxLen; omega) hok.heard ⟨hm0, hm1⟩ hno.1
            have HC := Lib.hid HC
            clear h1 h2 h3 hno hok hms hm0 hm1
            go_wp2_with fail
            refine HC.out.mono ?_
            rintro e w5 ⟨a5, cap5, rfl, hS5⟩
            go_wp2
            go_ret
            rw [HE.out.1, HE.out.2]
            exact ⟨a5, cap5, rfl, hS5⟩
        · have g2 : (n.st == 0) = false := by simpa using h2
          have HE : Hid (V.hear n = V.joined n ∧ V.hearCs n = []) := Lib.hid ⟨by rw [Vr.hear, HD.out, if_neg (by simp), if_neg h1, if_neg h2], by rw [Vr.hearCs, HD.out, if_neg (by simp), if_neg h1, if_neg h2]⟩
          have HC := joins_st HV.out n (by omega) (by omega) (by unfold wf64; omega) (by unfold wf64; omega) (by unfold maxLen; omega) hok.settled hno.1
          have HC := Lib.hid HC
          clear h1 h2 hno hok hms hm0 hm1
          go_wp2_with fail
          refine HC.out.mono ?_
          rintro e w5 ⟨rfl, hS5⟩
          go_wp2
          go_ret
          rw [HE.out.1, HE.out.2]
          exact ⟨none, 0, rfl, hS5.nilSlice _ _⟩
    · have HE : Hid (V.hear n = V ∧ V.hearCs n = []) := Lib.hid ⟨by rw [Vr.hear, HD.out, if_pos rfl], by rw [Vr.hearCs, HD.out, if_pos rfl]⟩
      go_wp2
      go_ret
      rw [HE.out.1, HE.out.2]
      exact ⟨none, 0, rfl, HV.out.nilSlice _ _⟩

/-! ### what stays -/
theorem counted_eq (V : Vr) : ∃ x, V.counted = { V with wait := x } := by
  unfold Vr.counted
  split
  · exact ⟨0, rfl⟩
  · split
    · exact ⟨2, rfl⟩
    · exact ⟨V.wait, rfl⟩
theorem chosen_me (V : Vr) (n : No) : (V.chosen n).me = V.me ∧ (V.chosen n).settled = V.settled ∧ (V.chosen n).own = V.own ∧ (V.chosen n).does = V.does := by
  unfold Vr.chosen
  split
  · exact ⟨rfl, rfl, rfl, rfl⟩
  · split <;> exact ⟨rfl, rfl, rfl, rfl⟩
theorem hear1_eq (V : Vr) (n : No) : V.hear1 n = V ∨ V.hear1 n = { V with heard := put1 V.heard n.fr n.of, hn := V.hn + 1 } :=
  (Decidable.em _).elim (fun h => .inr (if_pos h)) (fun h => .inl (if_neg h))
theorem hear1_me (V : Vr) (n : No) : (V.hear1 n).me = V.me ∧ (V.hear1 n).settled = V.settled ∧ (V.hear1 n).own = V.own ∧ (V.hear1 n).does = V.does ∧ (V.hear1 n).vote = V.vote ∧ (V.hear1 n).round = V.round := by
  rcases hear1_eq V n with e | e <;> rw [e] <;> exact ⟨rfl, rfl, rfl, rfl, rfl, rfl⟩
theorem joined_eq (V : Vr) (n : No) : V.joined n = V.settle n ∨ ∃ r v, V.joined n = { V.settle n with round := r, vote := v, does := 2 } := by
  unfold Vr.joined
  split
  · exact .inr ⟨_, _, rfl⟩
  · exact .inl rfl
theorem hear_ok (V : Vr) (n : No) (hok : V.ok) : (V.hear n).ok ∧ (V.hear n).servers = V.servers ∧ (V.hear n).me = V.me := by
  unfold Vr.hear
  split
  · exact ⟨hok, rfl, rfl⟩
  rename_i hd
  have hd : V.drops n = false := by simpa using hd
  have hno := drops_not hd
  split
  · exact ⟨hok, rfl, rfl⟩
  split
  · unfold Vr.hears
    split
    · exact ⟨hok, rfl, rfl⟩
    obtain ⟨a1, a2, a3⟩ := chosen_ok V n hok.heard ⟨hok.me0, hok.me1⟩
    obtain ⟨b1, b2⟩ := hear1_ok (V.chosen n) n V.servers a3 hno.1
    obtain ⟨x, hx⟩ := counted_eq ((V.chosen n).hear1 n)
    rw [hx]
    have hm : ((V.chosen n).hear1 n).me = V.me := by rw [(hear1_me _ _).1, (chosen_me _ _).1]
    have hs : ((V.chosen n).hear1 n).servers = V.servers := by rw [b1, a1]
    have ht : ((V.chosen n).hear1 n).settled = V.settled := by rw [(hear1_me _ _).2.1, (chosen_me _ _).2.1]
    refine ⟨⟨?_, ?_, ?_, ?_, ?_⟩, hs, hm⟩
    · show 1 ≤ ((V.chosen n).hear1 n).me; rw [hm]; exact hok.me0
    · show ((V.chosen n).hear1 n).me ≤ ((V.chosen n).hear1 n).servers; rw [hm, hs]; exact hok.me1
    · show ((V.chosen n).hear1 n).servers ≤ 1000; rw [hs]; exact hok.most
    · show ∀ i x, ((V.chosen n).hear1 n).heard i = some x → 1 ≤ i ∧ i ≤ ((V.chosen n).hear1 n).servers; rw [hs]; exact b2
    · show ∀ i x, ((V.chosen n).hear1 n).settled i = some x → 1 ≤ i ∧ i ≤ ((V.chosen n).hear1 n).servers; rw [hs, ht]; exact hok.settled
  · have hs := settle_ok V n hok.settled hno.1
    rcases joined_eq V n with e | ⟨r, v, e⟩
    · rw [e]; exact ⟨⟨hok.me0, hok.me1, hok.most, hok.heard, hs⟩, rfl, rfl⟩
    · rw [e]; exact ⟨⟨hok.me0, hok.me1, hok.most, hok.heard, hs⟩, rfl, rfl⟩
end Go.Proofs.Ytmikenagaihoiaa
