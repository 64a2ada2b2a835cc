/-
  A voter: takes, counts.
  Conditions: what is heard is from servers that there are.
-/
import Derived.Test.YtmikenagaihoiaaVoteB
namespace Go.Proofs.Ytmikenagaihoiaa
open Go.RowKit
set_option linter.unusedSectionVars false
set_option linter.unusedSimpArgs false
set_option linter.unusedVariables false

def wf64 (x : Int) : Prop := -9223372036854775808 ≤ x ∧ x ≤ 9223372036854775807
def Vr.take (V : Vr) (x : Vt) : Vr := { V with vote := x, wait := 0, heard := put1 V.heard V.me x, hn := V.hn + 1 }

set_option maxHeartbeats 1000000 in
theorem takes_st {w0 w : World} {pb : Nat} {V : Vr} {l : List Thing} (h : St w0 w (vr pb V :: l)) (x : Vt) (hme : wf64 V.me) (hn : V.hn < maxLen) :
    Calls Try.prog 17 #[.pointer (some ⟨pb, 0, none⟩), x.agg] w (StPost (.tuple #[]) w0 (vr pb (V.take x) :: l)) := by
  obtain ⟨hb, sb, hS⟩ := h.unvr
  have hT := hS.box1 x.cells.toArray 45
  have hpb0 := heap_lt (hS.box 0 rfl)
  clear h hS
  simp only [Vt.agg]
  go_enter Try.func17, Try.ntmps17
  go_upto_region 1 with (fail)
  change Code.wp _ _ _ _ (w.alloc (.cells x.cells.toArray 45))
  generalize w.alloc (.cells x.cells.toArray 45) = W at hT ⊢
  generalize w.heap.size = tb at hT hpb0 ⊢
  have HT := Lib.hid hT
  have a0 := blk_cell (hT.box 0 rfl) 0 (.int .i64 x.e) rfl
  have a1 := blk_cell (hT.box 0 rfl) 1 (.int .i64 x.z) rfl
  have a2 := blk_cell (hT.box 0 rfl) 2 (.int .i64 x.l) rfl
  have htb := heap_lt (hT.box 0 rfl)
  have hpb := heap_lt (hT.box 1 rfl)
  have hbx := hT.box 1 rfl
  have c4 := blk_cell hbx 4 (.int .i64 V.wait) rfl
  have c8 := blk_cell hbx 8 (.int .i64 V.vote.e) rfl
  have c9 := blk_cell hbx 9 (.int .i64 V.vote.z) rfl
  have c10 := blk_cell hbx 10 (.int .i64 V.vote.l) rfl
  have f4 := blk_free hbx 4
  have f8 := blk_free hbx 8
  have f9 := blk_free hbx 9
  have f10 := blk_free hbx 10
  clear hT hbx
  go_upto_region 2 with (fail)
  have HX : Hid (St w0 ((((W.setCell ⟨pb, 8, none⟩ (.int .i64 x.e)).setCell ⟨pb, 9, none⟩ (.int .i64 x.z)).setCell ⟨pb, 10, none⟩ (.int .i64 x.l)).setCell ⟨pb, 4, none⟩ (.int .i64 0)) (bx tb x.cells.toArray 45 :: bx pb (({ V with vote := x, wait := 0 } : Vr).cells (some hb) (some sb)) 51 :: mp Try.prog 3 hb V.hn (vmap V.heard) :: mp Try.prog 3 sb V.sn (nmap V.settled) :: l)) :=
    Lib.hid ((((HT.out.set 1 rfl 8 (.int .i64 x.e)).set 1 rfl 9 (.int .i64 x.z)).set 1 rfl 10 (.int .i64 x.l)).set 1 rfl 4 (.int .i64 0))
  clear HT a0 a1 a2 htb hpb c4 c8 c9 c10 f4 f8 f9 f10
  generalize (((W.setCell ⟨pb, 8, none⟩ (.int .i64 x.e)).setCell ⟨pb, 9, none⟩ (.int .i64 x.z)).setCell ⟨pb, 10, none⟩ (.int .i64 x.l)).setCell ⟨pb, 4, none⟩ (.int .i64 0) = X at HX ⊢
  have hb2 := HX.out.box 1 rfl
  have a0 := blk_cell (HX.out.box 0 rfl) 0 (.int .i64 x.e) rfl
  have a1 := blk_cell (HX.out.box 0 rfl) 1 (.int .i64 x.z) rfl
  have a2 := blk_cell (HX.out.box 0 rfl) 2 (.int .i64 x.l) rfl
  have c0 := blk_cell hb2 0 (.int .i64 V.me) rfl
  have c11 := blk_cell hb2 11 (.map (some hb)) rfl
  have hpb := heap_lt hb2
  have htb := heap_lt (HX.out.box 0 rfl)
  obtain ⟨w', hup, hmp, hmod⟩ := (HX.out.drew.mapAt 2 rfl).store keyI mapV hn hme.1 hme.2 x.agg
  have hSd := Lib.hid (HX.out.drew.remap 2 rfl hmp hmod)
  simp only [Vt.agg] at hup
  clear hb2 hmp hmod
  go_region
  all_goals
    (try go_wp2_with fail)
    go_end0
    have h := hSd.out
    rw [show upd (vmap V.heard) V.me (some x.agg) = vmap (put1 V.heard V.me x) from vmap_put _ _ _] at h
    exact ⟨rfl, h.tail.revr (V := V.take x)⟩

/-! ### counts -/

def cnt (p : Int → Bool) : Nat → Nat
  | 0 => 0
  | k + 1 => cnt p k + (if p ((k : Int) + 1) then 1 else 0)
theorem cnt_same {p q : Int → Bool} : ∀ {n : Nat}, (∀ y, 1 ≤ y → y ≤ (n : Int) → p y = q y) → cnt p n = cnt q n
  | 0, _ => rfl
  | k + 1, h => by
    rw [cnt, cnt, cnt_same (fun y h1 h2 => h y h1 (by omega)), h _ (by omega) (by omega)]
theorem cnt_more {p q : Int → Bool} {x : Int} : ∀ {n : Nat}, (∀ y, y ≠ x → p y = q y) → p x = false → q x = true → 1 ≤ x → x ≤ (n : Int) → cnt q n = cnt p n + 1
  | 0, _, _, _, h1, h2 => by omega
  | k + 1, h, hp, hq, h1, h2 => by
    rw [cnt, cnt]
    by_cases hx : x = (k : Int) + 1
    · rw [← hx, hp, hq, cnt_same (p := q) (q := p) (fun y _ h4 => (h y (by omega)).symm)]; simp
    · rw [cnt_more h hp hq h1 (by omega), h ((k : Int) + 1) (fun e => hx e.symm)]; omega
theorem cnt_none {p : Int → Bool} : ∀ {n : Nat}, (∀ y, p y = false) → cnt p n = 0
  | 0, _ => rfl
  | k + 1, h => by rw [cnt, cnt_none h, h]; rfl

theorem cnt_le (p : Int → Bool) : ∀ n, cnt p n ≤ n
  | 0 => Nat.le_refl _
  | k + 1 => by rw [cnt]; have := cnt_le p k; split <;> omega

def Vr.agrees (V : Vr) (i : Int) : Bool := decide (V.heard i = some V.vote)
def Vr.tally (V : Vr) : Nat := cnt V.agrees V.servers.toNat
def Vr.counted (V : Vr) : Vr := if (V.tally : Int) ≤ V.servers / 2 then { V with wait := 0 } else if V.wait = 0 then { V with wait := 2 } else V

set_option maxHeartbeats 2000000 in
theorem counts_st {w0 w : World} {pb : Nat} {V : Vr} {l : List Thing} (h : St w0 w (vr pb V :: l)) (hs0 : 0 ≤ V.servers) (hs1 : V.servers ≤ 1000) (hd : ∀ i x, V.heard i = some x → 1 ≤ i ∧ i ≤ V.servers) :
    Calls Try.prog 19 #[.pointer (some ⟨pb, 0, none⟩)] w (StPost (.tuple #[]) w0 (vr pb V.counted :: l)) := by
  obtain ⟨hb, sb, hS⟩ := h.unvr
  have hbx := hS.box 0 rfl
  have c11 := blk_cell hbx 11 (.map (some hb)) rfl
  have hpb := heap_lt hbx
  have HMP := Lib.hid (hS.mapAt 1 rfl)
  have HS := Lib.hid hS
  have HD := Lib.hid hd
  clear h hS hbx hd
  go_enter Try.func19, Try.ntmps19
  go_wp2_with (at_range; refine wpList_range keyI mapV hb V.hn (vmap V.heard) HMP.out rfl ?_; intro w1 cn hrg hmd hsz)
  go_frame
  have hS1 := HS.out.range 1 rfl hrg hmd
  obtain ⟨n, hn⟩ : ∃ n, V.servers.toNat = n := ⟨_, rfl⟩
  have hsn : V.servers = n := by omega
  have HSN := Lib.hid hsn
  have HN := Lib.hid hn
  have hS2 : St w0 w1 (bx pb (V.cells (some hb) (some sb)) 51 :: rn Try.prog 3 hb w.heap.size V.hn (vmap V.heard) (fun x => (vmap V.heard x).isSome) cn :: mp Try.prog 3 sb V.sn (nmap V.settled) :: l) := hS1
  have HS1 := Lib.hid hS2
  clear hS1 hS2 hrg hn hsn c11 hpb HMP HS hmd hsz
  generalize w.heap.size = r at HS1 ⊢
  go_loopw [2] (fun v wr => ∃ left c, v = .int .i64 (cnt (fun i => V.agrees i && !left i) n : Nat) ∧ St w0 wr (bx pb (V.cells (some hb) (some sb)) 51 :: rn Try.prog 3 hb r V.hn (vmap V.heard) left c :: mp Try.prog 3 sb V.sn (nmap V.settled) :: l)) (fun _ wr => wr.rangeLeft hb r)
  case atStart =>
    refine ⟨_, _, ?_, HS1.out⟩
    have e : cnt (fun i => V.agrees i && !(vmap V.heard i).isSome) n = 0 := cnt_none (fun y => by
      unfold Vr.agrees vmap
      cases hy : V.heard y with
      | none => simp
      | some x => simp)
    rw [e]; rfl
  case round =>
    clear HS1
    obtain ⟨left, c0, rfl, hS⟩ := hrel
    have HRG := Lib.hid (hS.rangeAt 1 rfl)
    have HS := Lib.hid hS
    have hshape : ∀ (x : Int) (v : Value), vmap V.heard x = some v → ∃ c : Vt, v = c.agg := fun x v hv => by
      unfold vmap at hv
      obtain ⟨c, _, rfl⟩ := Option.map_eq_some_iff.1 hv
      exact ⟨c, rfl⟩
    have HSH := Lib.hid hshape
    obtain ⟨t, ht⟩ : ∃ t, cnt (fun i => V.agrees i && !left i) n = t := ⟨_, rfl⟩
    have HT := Lib.hid ht
    rw [ht]
    clear hS hshape ht
    have htn : t ≤ 1000 := by
      have h1 := cnt_le (fun i => V.agrees i && !left i) n
      have h2 := HT.out
      have h3 := HSN.out
      omega
    go_wp2_with (at_next; refine wpList_next keyI Vt.agg hb r V.hn (vmap V.heard) left c0 HRG.out HSH.out rfl ?_ ?_)
    · intro hl0
      have hbx := HS.out.box 0 rfl
      have c1 : wr.cell? ⟨pb, 1, none⟩ = some (.int .i64 (n : Int)) := by rw [← HSN.out]; exact blk_cell hbx 1 (.int .i64 V.servers) rfl
      have c4 := blk_cell hbx 4 (.int .i64 V.wait) rfl
      have f4 := blk_free hbx 4
      have hpb := heap_lt hbx
      have HT2 : Hid (V.tally = t) := by
        show _ = _
        rw [← HT.out, Vr.tally, HN.out]
        exact cnt_same (fun y _ _ => by rw [hl0 y]; simp)
      clear hbx hl0
      have hn1000 : n ≤ 1000 := by have := HSN.out; omega
      by_cases hle : (t : Int) ≤ (n : Int) / 2
      · have g : decide ((t : Int) ≤ (n : Int) / 2) = true := by simpa using hle
        have HE : Hid (V.counted = { V with wait := 0 }) := by show _ = _; rw [Vr.counted, HT2.out, HSN.out, if_pos hle]
        clear hle
        go_wp2
        go_end0
        rw [HE.out]
        exact ⟨rfl, ((HS.out.set 0 rfl 4 (.int .i64 0)).ranged 1 rfl).revr (V := { V with wait := 0 })⟩
      · have g : decide ((t : Int) ≤ (n : Int) / 2) = false := by simpa using hle
        by_cases hwt : V.wait = 0
        · have g2 : (V.wait == 0) = true := by simpa using hwt
          have HE : Hid (V.counted = { V with wait := 2 }) := by show _ = _; rw [Vr.counted, HT2.out, HSN.out, if_neg hle, if_pos hwt]
          clear hle hwt
          go_wp2
          go_end0
          rw [HE.out]
          exact ⟨rfl, ((HS.out.set 0 rfl 4 (.int .i64 2)).ranged 1 rfl).revr (V := { V with wait := 2 })⟩
        · have g2 : (V.wait == 0) = false := by simpa using hwt
          have HE : Hid (V.counted = V) := by show _ = _; rw [Vr.counted, HT2.out, HSN.out, if_neg hle, if_neg hwt]
          clear hle hwt
          go_wp2
          go_end0
          rw [HE.out]
          exact ⟨rfl, (HS.out.ranged 1 rfl).revr (V := V)⟩
    · intro x c w2 cnt2 hfx hlx hrg2 hlt2 hm2 hsz2 hen
      have hS2 := HS.out.goOn 1 rfl hrg2 hm2
      have hS3 := hS2.box1 c.cells.toArray 45
      rw [hsz2] at hS3
      have hbx := hS3.box 1 rfl
      have c8 := blk_cell hbx 8 (.int .i64 V.vote.e) rfl
      have c9 := blk_cell hbx 9 (.int .i64 V.vote.z) rfl
      have c10 := blk_cell hbx 10 (.int .i64 V.vote.l) rfl
      have hpb := heap_lt hbx
      have HS3 := Lib.hid hS3
      have HFX := Lib.hid hfx
      have HLX := Lib.hid hlx
      have HLE := Lib.hid hrg2.left_eq
      clear hS2 hS3 hbx hfx hlx hrg2 hm2
      simp only [Vt.agg] at hen ⊢
      have HRANGE := Lib.hid (HS.out.rangeAt 1 rfl).left_eq
      have hin : 1 ≤ x ∧ x ≤ (n : Int) := by
        have h := HFX.out
        unfold vmap at h
        obtain ⟨c', hc', _⟩ := Option.map_eq_some_iff.1 h
        have := HD.out x c' hc'
        rw [← HSN.out]; exact this
      have hheard : V.heard x = some c := by
        have h := HFX.out
        unfold vmap at h
        obtain ⟨c', hc', he⟩ := Option.map_eq_some_iff.1 h
        have : c' = c := by cases c'; cases c; simp only [Vt.agg] at he; injection he with he; simp at he; simp [he]
        rw [hc', this]
      have HHE := Lib.hid hheard
      clear hheard
      go_wp2_with fail
      change Code.wp _ _ _ _ (w2.alloc (.cells c.cells.toArray 45))
      have a0 := blk_cell (HS3.out.box 0 rfl) 0 (.int .i64 c.e) rfl
      have a1 := blk_cell (HS3.out.box 0 rfl) 1 (.int .i64 c.z) rfl
      have a2 := blk_cell (HS3.out.box 0 rfl) 2 (.int .i64 c.l) rfl
      have htb := heap_lt (HS3.out.box 0 rfl)
      clear hen hsz2
      generalize w2.alloc (.cells c.cells.toArray 45) = W3 at HS3 a0 a1 a2 c8 c9 c10 hpb htb ⊢
      generalize wr.heap.size = vb at HS3 a0 a1 a2 htb ⊢
      have hrel2 : cnt (fun i => V.agrees i && !(left i && i != x)) n = t + (if c = V.vote then 1 else 0) := by
        rw [← HT.out]
        by_cases hcv : c = V.vote
        · rw [if_pos hcv]
          refine cnt_more (x := x) (fun y hy => ?_) ?_ ?_ hin.1 hin.2
          · have h9 : (y != x) = true := by simpa using hy
            show (V.agrees y && !left y) = (V.agrees y && !(left y && y != x))
            rw [h9, Bool.and_true]
          · rw [HLX.out]; simp
          · rw [Vr.agrees, HHE.out, hcv]; simp
        · rw [if_neg hcv, Nat.add_zero]
          refine cnt_same (fun y _ _ => ?_)
          by_cases hy : y = x
          · have h8 : V.agrees y = false := by rw [Vr.agrees, hy, HHE.out]; simp [hcv]
            show (V.agrees y && !(left y && y != x)) = (V.agrees y && !left y)
            rw [h8]; rfl
          · have h9 : (y != x) = true := by simpa using hy
            show (V.agrees y && !(left y && y != x)) = (V.agrees y && !left y)
            rw [h9, Bool.and_true]
      have HREL := Lib.hid hrel2
      clear hrel2 hin
      by_cases hcv : c = V.vote
      · have HCV := Lib.hid hcv
        have hwr : IntKind.i64.wrap ((t : Int) + 1) = (t : Int) + 1 := IntWalk.i64_in _ (by omega)
        rw [hcv] at a0 a1 a2
        clear hcv
        go_quiet (fail)
        go_wp2
        refine ⟨⟨_, cnt2, ?_, (HS3.out.drewN nq).tail⟩, ?_⟩
        · rw [HREL.out, if_pos HCV.out]; simp
        · rw [((HS3.out.drewN nq).rangeAt 2 rfl).left_eq, HRANGE.out]; exact hlt2
      by_cases h1 : c.e = V.vote.e
      · by_cases h2 : c.z = V.vote.z
        · have h3 : ¬ c.l = V.vote.l := fun h3 => hcv (by cases c; cases hv : V.vote; rw [hv] at h1 h2 h3; simp at h1 h2 h3; simp [h1, h2, h3])
          have g3 : (c.l == V.vote.l) = false := by simpa using h3
          rw [h1] at a0
          rw [h2] at a1
          clear h1 h2 h3
          have HCV : Hid (¬ c = V.vote) := Lib.hid hcv
          clear hcv
          go_quiet (fail)
          go_wp2
          refine ⟨⟨_, cnt2, ?_, (HS3.out.drewN nq).tail⟩, ?_⟩
          · rw [HREL.out, if_neg HCV.out]; simp
          · rw [((HS3.out.drewN nq).rangeAt 2 rfl).left_eq, HRANGE.out]; exact hlt2

        · have g3 : (c.z == V.vote.z) = false := by simpa using h2
          rw [h1] at a0
          clear h1 h2
          have HCV : Hid (¬ c = V.vote) := Lib.hid hcv
          clear hcv
          go_quiet (fail)
          go_wp2
          refine ⟨⟨_, cnt2, ?_, (HS3.out.drewN nq).tail⟩, ?_⟩
          · rw [HREL.out, if_neg HCV.out]; simp
          · rw [((HS3.out.drewN nq).rangeAt 2 rfl).left_eq, HRANGE.out]; exact hlt2

      · have g3 : (c.e == V.vote.e) = false := by simpa using h1
        clear h1
        have HCV : Hid (¬ c = V.vote) := Lib.hid hcv
        clear hcv
        go_quiet (fail)
        go_wp2
        refine ⟨⟨_, cnt2, ?_, (HS3.out.drewN nq).tail⟩, ?_⟩
        · rw [HREL.out, if_neg HCV.out]; simp
        · rw [((HS3.out.drewN nq).rangeAt 2 rfl).left_eq, HRANGE.out]; exact hlt2
end Go.Proofs.Ytmikenagaihoiaa
