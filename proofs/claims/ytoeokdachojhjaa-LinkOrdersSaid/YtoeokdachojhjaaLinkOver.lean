/-
  LinkOver: an end that hears of another life is over, and does nothing any more.
  No condition.
-/
import Derived.Test.YtoeokdachojhjaaLinkL
import Derived.Deep.CutBlock
namespace Go.Proofs.Ytoeokdachojhjaa
open Go.RowKit
set_option linter.unusedSectionVars false
set_option linter.unusedSimpArgs false
set_option linter.unusedVariables false

/-- One step of a script. -/
structure Stp where
  what : Int
  text : ByteArray
  pk : Pk
instance : Inhabited Stp := ⟨⟨0, .empty, Pk.zero⟩⟩
def Stp.cells (x : Stp) : List Value := [.int .i64 x.what, .string x.text, .int .i64 x.pk.a, .int .i64 x.pk.b, .int .i64 x.pk.c, .int .i64 x.pk.d, .int .i64 x.pk.e, .int .i64 x.pk.f, .int .i64 x.pk.g, .string x.pk.s]
theorem stplen (x : Stp) : x.cells.length = 10 := rfl
def wf64 (x : Int) : Prop := -9223372036854775808 ≤ x ∧ x ≤ 9223372036854775807
def Stp.ok (x : Stp) : Prop := wf64 x.what ∧ wf64 x.pk.f

/-- An end that has only sent. -/
structure Fresh (life : Int) (k : Nat) (L : Lk) : Prop where
  last : L.last = k
  got : L.got = 0
  me : L.me = 1
  peer : L.peer = 2
  life : L.life = life
  far : L.far = 0
  len : L.queue.length = k
  kept : L.kept = fun _ => none
  over : L.over = false
  cnt : L.cnt = 0

theorem Fresh.new (life : Int) : Fresh life 0 (Lk.new 1 2 life) := ⟨rfl, rfl, rfl, rfl, rfl, rfl, rfl, rfl, rfl, rfl⟩
theorem Fresh.full {life : Int} {k : Nat} {L : Lk} (h : Fresh life k L) (hk : k < 64) : L.full = false := by
  unfold Lk.full; rw [h.over, h.len]; simp; omega
theorem Fresh.send {life : Int} {k : Nat} {L : Lk} (h : Fresh life k L) (hk : k < 64) (s : ByteArray) : Fresh life (k + 1) (L.send s) := by
  unfold Lk.send
  rw [if_neg (by rw [h.full hk]; simp)]
  exact ⟨by show L.last + 1 = _; rw [h.last]; simp, h.got, h.me, h.peer, h.life, h.far, by show (L.queue ++ [_]).length = _; rw [List.length_append, h.len]; rfl, h.kept, h.over, h.cnt⟩
theorem Fresh.ok {life : Int} {k : Nat} {L : Lk} (h : Fresh life k L) : L.ok := ⟨by rw [h.got]; decide, by rw [h.got]; decide, fun x s hx => by rw [h.kept] at hx; cases hx⟩

theorem main_over (L : Lk) (p : Pk) : (L.main p).taken.over = L.over := by unfold Lk.taken Lk.main Lk.keep; split <;> rfl
theorem main_me (L : Lk) (p : Pk) : (L.main p).taken.me = L.me := by unfold Lk.taken Lk.main Lk.keep; split <;> rfl
theorem main_peer (L : Lk) (p : Pk) : (L.main p).taken.peer = L.peer := by unfold Lk.taken Lk.main Lk.keep; split <;> rfl
theorem main_life (L : Lk) (p : Pk) : (L.main p).taken.life = L.life := by unfold Lk.taken Lk.main Lk.keep; split <;> rfl
theorem main_far (L : Lk) (p : Pk) : (L.main p).taken.far = p.d := by unfold Lk.taken Lk.main Lk.keep; split <;> rfl
theorem main_cnt (L : Lk) (p : Pk) : (L.main p).taken.cnt ≤ L.cnt + 1 := by
  unfold Lk.taken Lk.main Lk.keep
  split
  · exact Nat.le_refl _
  · exact Nat.le_succ _

theorem main_last (L : Lk) (p : Pk) : (L.main p).taken.last = L.last := by unfold Lk.taken Lk.main Lk.keep; split <;> rfl
theorem acked_len (L : Lk) (p : Pk) : (L.acked p).queue.length ≤ L.queue.length := by
  unfold Lk.acked
  show (if p.e = L.life then L.queue.filter (stays p.g) else L.queue).length ≤ _
  split
  · exact List.length_filter_le _ _
  · exact Nat.le_refl _
theorem main_len (L : Lk) (p : Pk) : (L.main p).taken.queue.length ≤ L.queue.length := by
  have h : (L.main p).taken.queue = (L.acked p).queue := by unfold Lk.taken Lk.main Lk.keep; split <;> rfl
  rw [h]; exact acked_len L p

/-- The first packet. -/
def pf (far : Int) : Pk := ⟨2, 1, 2, far, 0, 0, 0, .empty⟩
def slate : ByteArray := ⟨#[108, 97, 116, 101]⟩
def pm (more : Int) : Pk := ⟨2, 1, 2, more, 0, 1, 0, slate⟩

theorem hear_first {life far : Int} {k : Nat} {L : Lk} (h : Fresh life k L) (hf : 1 ≤ far) : L.ends (pf far) = false ∧ L.hear (pf far) = (L.main (pf far)).taken := by
  have hd : L.deaf (pf far) = false := by
    have h9 : decide (far < 1) = false := by simp; omega
    unfold Lk.deaf
    rw [h.over, h.peer, h.me]
    show (false || (2 : Int) != 2 || (1 : Int) != 1 || (2 : Int) != 2 || decide (far < 1)) = false
    rw [h9]; rfl
  have ha : L.alien (pf far) = false := by simp [Lk.alien, pf]
  have ho : L.older (pf far) = false := by simp [Lk.older, pf, h.far]; omega
  have hn : L.newer (pf far) = false := by simp [Lk.newer, h.far]
  unfold Lk.ends Lk.hear
  simp [hd, ha, ho, hn]

theorem hear_second {far more : Int} {L : Lk} (h0 : L.over = false) (h1 : L.peer = 2) (h2 : L.me = 1) (h3 : L.far = far) (hf : 1 ≤ far) (hm : far < more) : L.ends (pm more) = true ∧ L.heard (pm more) = [] ∧ L.hear (pm more) = { L with over := true } := by
  have hd : L.deaf (pm more) = false := by
    have h9 : decide (more < 1) = false := by simp; omega
    unfold Lk.deaf
    rw [h0, h1, h2]
    show (false || (2 : Int) != 2 || (1 : Int) != 1 || (2 : Int) != 2 || decide (more < 1)) = false
    rw [h9]; rfl
  have ha : L.alien (pm more) = false := by simp [Lk.alien, pm]
  have ho : L.older (pm more) = false := by simp [Lk.older, pm, h3]; omega
  have hn : L.newer (pm more) = true := by simp [Lk.newer, pm, h3]; omega
  unfold Lk.ends Lk.hear Lk.heard
  simp [hd, ha, ho, hn]

theorem hear_over {L : Lk} (h : L.over = true) (p : Pk) : L.heard p = [] ∧ L.ends p = false ∧ L.hear p = L := by
  have hd : L.deaf p = true := by simp [Lk.deaf, h]
  unfold Lk.ends Lk.hear Lk.heard
  simp [hd]
theorem send_over {L : Lk} (h : L.over = true) (s : ByteArray) : L.sendErr = 150 ∧ L.send s = L := by
  have hf : L.full = true := by simp [Lk.full, h]
  unfold Lk.sendErr Lk.send
  simp [hf]
theorem out_over {L : Lk} (h : L.over = true) (n : Int) : L.out n = [] ∧ L.behind n = L := by
  unfold Lk.out Lk.behind
  simp [h]

set_option maxRecDepth 100000 in
set_option maxHeartbeats 4000000 in
theorem over_walk (life far0 more0 : Int) (hf0 : wf64 far0) (hm0 : wf64 more0) (a0 : Option Addr) (c0 n : Nat) (xs : List ByteArray) (hn : xs.length = n) (a1 : Option Addr) (c1 n1 : Nat) (late : List Stp) (hn1 : late.length = n1)
    (W : World) (hr : Rd W 1 a0 n c0 (xs.map .string)) (hr1 : Rd W 10 a1 n1 c1 (late.flatMap Stp.cells)) (hok : ∀ x ∈ late, Stp.ok x) (hl0 : n ≤ 2 ^ 63 - 1) (hl1 : n1 ≤ 2 ^ 63 - 1) :
    Calls Try.prog 4 #[.int .i64 life, .int .i64 far0, .int .i64 more0, .slice a0 n c0, .slice a1 n1 c1] W (AwakePost W) := by
  have HR := Lib.hid hr
  have HR1 := Lib.hid hr1
  have HN := Lib.hid hn
  have HN1 := Lib.hid hn1
  have HOK := Lib.hid hok
  clear hr hr1 hn hn1 hok
  go_enter Try.func4, Try.ntmps4
  go_wp2_with fail
  refine (awake_any W).mono ?_
  rintro e w1 ⟨rfl, hm⟩
  have hS := St.begin hm
  clear hm
  go_wp2_with fail
  refine (lnew_st hS 1 2 life).mono ?_
  clear hS
  rintro e w2 ⟨pb, rfl, hS⟩
  have HS := Lib.hid hS
  clear hS
  go_wp2_with fail
  refine (pick_any far0 1000 w2 hf0.1 hf0.2 (by omega) (by omega)).mono ?_
  rintro e w3 ⟨kf, hkf, rfl, rfl⟩
  have hw1 : IntKind.i64.wrap (1 + (kf : Int)) = 1 + (kf : Int) := IntWalk.i64_in _ (by omega)
  go_wp2_with fail
  refine (pick_any more0 1000 w2 hm0.1 hm0.2 (by omega) (by omega)).mono ?_
  rintro e w3 ⟨km, hkm, rfl, rfl⟩
  have hw2 : IntKind.i64.wrap (1 + (kf : Int) + 1 + (km : Int)) = 1 + (kf : Int) + 1 + (km : Int) := IntWalk.i64_in _ (by omega)
  go_upto_block 0 with fail
  go_cut [] (fun wx => ∃ k L, k ≤ 50 ∧ Fresh life k L ∧ St W wx [lk pb L])
  case first =>
    go_wp2_with fail
    go_loopg [13] n (fun g y wr => ∃ k : Nat, k + g = n ∧ y = .int .i64 k ∧ k ≤ 50 ∧ ∃ L, Fresh life k L ∧ St W wr [lk pb L])
    case atStart => exact ⟨0, by omega, rfl, by omega, _, Fresh.new life, HS.out⟩
    case round =>
      clear HS
      obtain ⟨k, hkg, rfl, h50, L, hF, hS⟩ := hrel
      by_cases hlt : k < n
      · by_cases h5 : k < 50
        · have hx : xs[k]? = some (xs[k]'(HN.out ▸ hlt)) := List.getElem?_eq_getElem _
          obtain ⟨t, htt⟩ : ∃ x, xs[k]'(HN.out ▸ hlt) = x := ⟨_, rfl⟩
          rw [htt] at hx
          obtain ⟨b, o, rfl, c0⟩ := (hS.old HR.out).at1 hx
          have hbl := World.block_lt_of_cell? wr _ c0
          have HF := Lib.hid hF
          have HS := Lib.hid hS
          have hle : L.sendErr = 0 := by unfold Lk.sendErr; rw [if_neg (by rw [hF.full (by omega)]; simp)]
          have HLE := Lib.hid hle
          clear hx htt hF hS hle
          go_wp2_with fail
          refine (lSend_st HS.out t (by rw [HF.out.len]; omega) (by rw [HF.out.last]; omega) (by rw [HF.out.last]; omega)).mono ?_
          rw [HLE.out]
          rintro e w3 ⟨rfl, hS3⟩
          go_wp2
          go_roundg (gk - 1)
          case measure => omega
          case rel => exact ⟨k + 1, by omega, by simp, by omega, _, HF.out.send (by omega) t, hS3⟩
        · have HF := Lib.hid hF
          have HS := Lib.hid hS
          clear hF hS
          go_wp2_with fail
          go_meet
          exact ⟨k, L, h50, HF.out, HS.out⟩
      · have HF := Lib.hid hF
        have HS := Lib.hid hS
        clear hF hS
        go_wp2_with fail
        go_meet
        exact ⟨k, L, h50, HF.out, HS.out⟩
  case rest =>
    clear HS
    obtain ⟨k, L, h50, hF, hS⟩ := hcut
    obtain ⟨far, hfar⟩ : ∃ far, 1 + (kf : Int) = far := ⟨_, rfl⟩
    obtain ⟨more, hmore⟩ : ∃ more, 1 + (kf : Int) + 1 + (km : Int) = more := ⟨_, rfl⟩
    rw [hmore, hfar]
    have hf1 : 1 ≤ far := by omega
    have hm1 : far < more := by omega
    have HF := Lib.hid hF
    have HS := Lib.hid hS
    clear hF hS hfar hmore hw1 hw2
    obtain ⟨h1e, h1h⟩ := hear_first HF.out hf1
    have HE := Lib.hid h1e
    have HH := Lib.hid h1h
    clear h1e h1h
    go_wp2_with fail
    refine (lHear_st HS.out (pf far) HF.out.ok (by rw [HF.out.cnt]; unfold maxLen; decide) (by show -9223372036854775808 ≤ (0 : Int); decide) (by show (0 : Int) ≤ _; decide)).mono ?_
    rw [HE.out, HH.out]
    rintro e w3 ⟨a3, cap3, rfl, hS3⟩
    obtain ⟨L1, hL1⟩ : ∃ L1, (L.main (pf far)).taken = L1 := ⟨_, rfl⟩
    have hok1 : L1.ok := by rw [← hL1, ← HH.out]; exact Lk.ok_hear HF.out.ok _ (by show (0 : Int) ≤ _; decide)
    have hc1 : L1.cnt < maxLen := by rw [← hL1]; have := main_cnt L (pf far); rw [HF.out.cnt] at this; unfold maxLen; omega
    have hv1 : L1.over = false := by rw [← hL1, main_over]; exact HF.out.over
    have hp1 : L1.peer = 2 := by rw [← hL1, main_peer]; exact HF.out.peer
    have hme1 : L1.me = 1 := by rw [← hL1, main_me]; exact HF.out.me
    have hli1 : L1.life = life := by rw [← hL1, main_life]; exact HF.out.life
    have hfa1 : L1.far = far := by rw [← hL1, main_far]; rfl
    have hq1 : L1.queue.length ≤ 64 := by rw [← hL1]; have := main_len L (pf far); rw [HF.out.len] at this; omega
    have hla1 : L1.last = k := by rw [← hL1, main_last]; exact HF.out.last
    rw [hL1] at hS3
    obtain ⟨h2e, h2r, h2h⟩ := hear_second hv1 hp1 hme1 hfa1 hf1 hm1
    have HE2 := Lib.hid h2e
    have HR2 := Lib.hid h2r
    have HH2 := Lib.hid h2h
    have HLI := Lib.hid hli1
    have HS3 := Lib.hid hS3.tail
    clear hL1 h2e h2r h2h hv1 hp1 hme1 hfa1 hS3 hli1
    go_wp2_with fail
    refine (lHear_st HS3.out (pm more) hok1 hc1 (by show -9223372036854775808 ≤ (1 : Int); decide) (by show (1 : Int) ≤ _; decide)).mono ?_
    rw [HE2.out, HR2.out, HH2.out]
    rintro e w4 ⟨a4, cap4, rfl, hS4⟩
    simp only [List.length_nil]
    obtain ⟨L2, hL2⟩ : ∃ L2, { L1 with over := true } = L2 := ⟨_, rfl⟩
    have ho2 : L2.over = true := by rw [← hL2]
    have hli2 : L2.life = life := by rw [← hL2]; exact HLI.out
    have hok2 : L2.ok := by rw [← hL2]; exact hok1
    have hc2 : L2.cnt < maxLen := by rw [← hL2]; exact hc1
    have hq2 : L2.queue.length ≤ 64 := by rw [← hL2]; exact hq1
    have hla2 : L2.last = k := by rw [← hL2]; exact hla1
    have HQ2 := Lib.hid hq2
    have hlo : 0 ≤ L2.last := by omega
    have hhi : L2.last < 9223372036854775807 := by omega
    rw [hL2] at hS4
    have HS4 := Lib.hid hS4.tail
    have HO2 := Lib.hid ho2
    have HL2 := Lib.hid hli2
    clear hL2 hS4 hok1 hc1 ho2 hli2 hq1 hla1 hq2 hla2
    go_wp2
    go_loopg [18] n1 (fun g y wr => ∃ k : Nat, k + g = n1 ∧ y = .int .i64 k ∧ St W wr [lk pb L2])
    case atStart => exact ⟨0, by omega, rfl, HS4.out⟩
    case round =>
      clear HS4
      obtain ⟨j, hjg, rfl, hS⟩ := hrel
      by_cases hlt : j < n1
      · have hx : late[j]? = some (late[j]'(HN1.out ▸ hlt)) := List.getElem?_eq_getElem _
        obtain ⟨x, hxx⟩ : ∃ x, late[j]'(HN1.out ▸ hlt) = x := ⟨_, rfl⟩
        rw [hxx] at hx
        obtain ⟨b, o, rfl, hbl0, hc⟩ := HR1.out.elem Stp.cells stplen (by omega) hx
        have HOX := Lib.hid (HOK.out x (List.mem_of_getElem? hx))
        have hbl : b < wr.heap.size := by have := hS.1.size; omega
        have HC := Lib.hid (show ∀ t u, x.pk.cells[t]? = some u → wr.cell? ((⟨b, o + j * 10 + 2, none⟩ : Addr).add t) = some u from fun t u hu => by
          rw [add_none]
          have h := hS.1.cell (hc (t + 2) u (by rw [show x.cells = .int .i64 x.what :: .string x.text :: x.pk.cells from rfl]; simpa using hu)) id
          rw [show o + j * 10 + 2 + t = o + j * 10 + (t + 2) by omega]
          exact h)
        have HC1 : Hid (W.cell? ⟨b, o + j * 10 + 1, none⟩ = some (.string x.text)) := Lib.hid (hc 1 _ rfl)
        have HS := Lib.hid hS
        obtain ⟨hr1, hr2, hr3⟩ := hear_over HO2.out x.pk
        have HV1 := Lib.hid hr1
        have HV2 := Lib.hid hr2
        have HV3 := Lib.hid hr3
        clear hx hxx hc hS hr1 hr2 hr3
        go_wp2_with ((with_reducible refine at_list ?_); refine wpList_load_chunk 8 _ Try.underlying41 rfl sizeP ⟨b, o + j * 10 + 2, none⟩ rfl x.pk.cells rfl HC.out ?_)
        refine (lHear_st HS.out x.pk hok2 hc2 HOX.out.2.1 HOX.out.2.2).mono ?_
        rw [HV1.out, HV2.out, HV3.out]
        rintro e w5 ⟨a5, cap5, rfl, hS5⟩
        simp only [List.length_nil]
        have hbl5 : b < w5.heap.size := by have := hS5.1.size; have := World.block_lt_of_cell? W _ HC1.out; omega
        have c1 := hS5.1.cell HC1.out id
        have HS5 := Lib.hid hS5.tail
        clear hS5
        go_wp2_with fail
        refine (lSend_st HS5.out x.text HQ2.out hlo hhi).mono ?_
        rw [(send_over HO2.out x.text).1, (send_over HO2.out x.text).2]
        rintro e w6 ⟨rfl, hS6⟩
        have HS6 := Lib.hid hS6
        clear hS6
        go_wp2_with fail
        refine (lFlush_st HS6.out HQ2.out).mono ?_
        rw [(out_over HO2.out _).1, (out_over HO2.out _).2]
        rintro e w7 ⟨a7, cap7, rfl, hS7⟩
        simp only [List.length_nil]
        have HS7 := Lib.hid hS7.tail
        clear hS7
        go_wp2_with fail
        refine (lTick_st HS7.out HQ2.out).mono ?_
        rw [(out_over HO2.out _).1, (out_over HO2.out _).2]
        rintro e w8 ⟨a8, cap8, rfl, hS8⟩
        simp only [List.length_nil]
        have HS8 := Lib.hid hS8.tail
        clear hS8
        go_wp2
        go_roundg (gk - 1)
        case measure => omega
        case rel => exact ⟨j + 1, by omega, by simp, HS8.out⟩
      · have HS := Lib.hid hS
        clear hS
        go_wp2_with fail
        refine (lSend_st HS.out sx HQ2.out hlo hhi).mono ?_
        rw [(send_over HO2.out sx).1, (send_over HO2.out sx).2]
        rintro e w5 ⟨rfl, hS5⟩
        go_wp2_with fail
        refine (lLife_st hS5).mono ?_
        rw [HL2.out]
        rintro e w6 ⟨rfl, hS6⟩
        have HS6 := Lib.hid hS6
        clear hS5 hS6
        go_wp2
        go_ret
        exact ⟨by simp, HS6.out.1⟩
end Go.Proofs.Ytoeokdachojhjaa
