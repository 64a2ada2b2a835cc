/-
  A voter: joins.
  Conditions: at most 1000 servers; what is settled is from servers that there are.
-/
import Derived.Test.YtmikenagaihoiaaVoteF
namespace Go.Proofs.Ytmikenagaihoiaa
open Go.RowKit
set_option linter.unusedSectionVars false
set_option linter.unusedSimpArgs false
set_option linter.unusedVariables false

def No.zero : No := ⟨0, 0, 0, 0, 0, 0⟩
def Vr.settle (V : Vr) (n : No) : Vr := { V with settled := put1 V.settled n.fr n, sn := V.sn + 1 }
def Vr.follows (V : Vr) (x i : Int) : Bool := match V.settled i with | some m => m.le == x | none => false
def Vr.says (V : Vr) (x : Int) : No := (V.settled x).getD No.zero
def Vr.crowd (V : Vr) (x : Int) : Nat := cnt (V.follows x) V.servers.toNat
def Vr.joined (V : Vr) (n : No) : Vr :=
  if V.servers / 2 < ((V.settle n).crowd n.le : Int) ∧ ((V.settle n).says n.le).le = n.le ∧ ((V.settle n).says n.le).st = 2
  then { V.settle n with round := ((V.settle n).says n.le).ro, vote := ((V.settle n).says n.le).of, does := 2 } else V.settle n

theorem settle_ok (V : Vr) (n : No) (hd : ∀ i x, V.settled i = some x → 1 ≤ i ∧ i ≤ V.servers) (hf1 : 1 ≤ n.fr ∧ n.fr ≤ V.servers) : ∀ i x, (V.settle n).settled i = some x → 1 ≤ i ∧ i ≤ V.servers := fun i x hx => by
  have hx' : put1 V.settled n.fr n i = some x := hx
  unfold put1 at hx'
  split at hx'
  · omega
  · exact hd i x hx'

/-- In joins: the note in its block, the voter taken apart. -/
def JnSt (w0 : World) (nb pb hb sb : Nat) (n : No) (V : Vr) (l : List Thing) (w : World) : Prop :=
  St w0 w (bx nb n.cells.toArray 23 :: bx pb (V.cells (some hb) (some sb)) 51 :: mp Try.prog 3 hb V.hn (vmap V.heard) :: mp Try.prog 3 sb V.sn (nmap V.settled) :: l)

theorem St.apartB {w0 w : World} {tb pb : Nat} {c d : Array Value} {T U : TypeId} {s : Thing} {l : List Thing} (h : St w0 w (bx tb c T :: s :: bx pb d U :: l)) : tb ≠ pb := by
  obtain ⟨h0, F, ⟨F1, F2, ⟨_, h1⟩, ⟨G1, G2, _, ⟨H1, H2, ⟨_, h3⟩, _, _, hF3⟩, _, hF2⟩, hd, hF⟩, hz⟩ := h
  intro he
  exact hd tb ((h1 tb).2 rfl) ((hF2 tb).2 (.inr ((hF3 tb).2 (.inl ((h3 tb).2 he)))))

set_option maxRecDepth 100000 in
set_option maxHeartbeats 4000000 in
theorem joins_st {w0 w : World} {pb : Nat} {V : Vr} {l : List Thing} (h : St w0 w (vr pb V :: l)) (n : No) (hs0 : 0 ≤ V.servers) (hs1 : V.servers ≤ 1000) (hfr : wf64 n.fr) (hle : wf64 n.le) (hn : V.sn + 2 < maxLen)
    (hd : ∀ i x, V.settled i = some x → 1 ≤ i ∧ i ≤ V.servers) (hf1 : 1 ≤ n.fr ∧ n.fr ≤ V.servers) :
    Calls Try.prog 23 #[.pointer (some ⟨pb, 0, none⟩), n.agg] w (StPost (.tuple #[]) w0 (vr pb (V.joined n) :: l)) := by
  obtain ⟨hb, sb, hS⟩ := h.unvr
  have hT := hS.box1 n.cells.toArray 23
  have HT := Lib.hid hT
  clear h hS hT
  simp only [No.agg]
  go_enter Try.func23, Try.ntmps23
  go_upto_region 1 with (fail)
  change Code.wp _ _ _ _ (w.alloc (.cells n.cells.toArray 23))
  generalize w.alloc (.cells n.cells.toArray 23) = W at HT ⊢
  generalize w.heap.size = nb at HT ⊢
  have hbx := HT.out.box 0 rfl
  have n0 := blk_cell hbx 0 (.int .i64 n.fr) rfl
  have n1 := blk_cell hbx 1 (.int .i64 n.st) rfl
  have n2 := blk_cell hbx 2 (.int .i64 n.ro) rfl
  have n3 := blk_cell hbx 3 (.int .i64 n.le) rfl
  have n4 := blk_cell hbx 4 (.int .i64 n.ep) rfl
  have n5 := blk_cell hbx 5 (.int .i64 n.zx) rfl
  have hnb := heap_lt hbx
  clear hbx
  have hbx := HT.out.box 1 rfl
  have c12 := blk_cell hbx 12 (.map (some sb)) rfl
  have hpb := heap_lt hbx
  clear hbx
  obtain ⟨U, hU⟩ : ∃ U, V.settle n = U := ⟨_, rfl⟩
  have hUs : U.servers = V.servers := by rw [← hU]; rfl
  have hUn : U.sn = V.sn + 1 := by rw [← hU]; rfl
  have hUd : ∀ i x, U.settled i = some x → 1 ≤ i ∧ i ≤ U.servers := by rw [hUs, ← hU]; exact settle_ok V n hd hf1
  have HU := Lib.hid hU
  have HUS := Lib.hid hUs
  have HD := Lib.hid hUd
  have HUN := Lib.hid hUn
  obtain ⟨w', hup, hmp, hmod⟩ := (HT.out.drew.mapAt 3 rfl).store keyI mapN (by omega) hfr.1 hfr.2 n.agg
  have hSd : JnSt w0 nb pb hb sb n U l w' := by
    have h := HT.out.drew.remap 3 rfl hmp hmod
    rw [show upd (nmap V.settled) n.fr (some n.agg) = nmap (put1 V.settled n.fr n) from nmap_put _ _ _] at h
    rw [← hU]
    exact h
  have HSD := Lib.hid hSd
  simp only [No.agg] at hup
  clear hmp hmod hSd hU hUs hUd hUn
  go_cut [] (fun wx => JnSt w0 nb pb hb sb n U l wx)
  case first =>
    go_region
    all_goals
      (try go_wp2_with fail)
      go_meet
      exact HSD.out
  case rest =>
    clear HT n0 n1 n2 n3 n4 n5 c12 hnb hpb HSD hup w' W
    have hbx := hcut.box 1 rfl
    have c12 := blk_cell hbx 12 (.map (some sb)) rfl
    have hpb := heap_lt hbx
    have HMP := Lib.hid (hcut.mapAt 3 rfl)
    have HS := Lib.hid hcut
    clear hbx hcut
    go_wp2_with (at_range; refine wpList_range keyI mapN sb U.sn (nmap U.settled) HMP.out rfl ?_; intro w1 cn hrg hmd hsz)
    go_frame
    have hS1 := HS.out.range 3 rfl hrg hmd
    obtain ⟨m, hm⟩ : ∃ m, V.servers.toNat = m := ⟨_, rfl⟩
    have hsn : V.servers = m := by omega
    have HSN := Lib.hid hsn
    have HN := Lib.hid hm
    have hS2 : St w0 w1 (bx nb n.cells.toArray 23 :: bx pb (U.cells (some hb) (some sb)) 51 :: mp Try.prog 3 hb U.hn (vmap U.heard) :: rn Try.prog 3 sb wc.heap.size U.sn (nmap U.settled) (fun x => (nmap U.settled x).isSome) cn :: l) := hS1
    have HS1 := Lib.hid hS2
    clear hS1 hS2 hrg hm hsn c12 hpb HMP HS hmd hsz
    generalize wc.heap.size = r at HS1 ⊢
    go_loopw [4] (fun v wr => ∃ left c, v = .int .i64 (cnt (fun i => U.follows n.le i && !left i) m : Nat) ∧ St w0 wr (bx nb n.cells.toArray 23 :: bx pb (U.cells (some hb) (some sb)) 51 :: mp Try.prog 3 hb U.hn (vmap U.heard) :: rn Try.prog 3 sb r U.sn (nmap U.settled) left c :: l)) (fun _ wr => wr.rangeLeft sb r)
    case atStart =>
      refine ⟨_, _, ?_, HS1.out⟩
      have e : cnt (fun i => U.follows n.le i && !(nmap U.settled i).isSome) m = 0 := cnt_none (fun y => by
        unfold Vr.follows nmap
        cases hy : U.settled y with
        | none => simp
        | some x => simp)
      rw [e]; rfl
    case round =>
      clear HS1
      obtain ⟨left, c0, rfl, hS⟩ := hrel
      have HRG := Lib.hid (hS.rangeAt 3 rfl)
      have HS := Lib.hid hS
      have hshape : ∀ (x : Int) (v : Value), nmap U.settled x = some v → ∃ c : No, v = c.agg := fun x v hv => by
        unfold nmap at hv
        obtain ⟨c, _, rfl⟩ := Option.map_eq_some_iff.1 hv
        exact ⟨c, rfl⟩
      have HSH := Lib.hid hshape
      obtain ⟨t, ht⟩ : ∃ t, cnt (fun i => U.follows n.le i && !left i) m = t := ⟨_, rfl⟩
      have HT := Lib.hid ht
      rw [ht]
      clear hS hshape ht
      have htn : t ≤ 1000 := by
        have h1 := cnt_le (fun i => U.follows n.le i && !left i) m
        have h2 := HT.out
        have h3 := HSN.out
        omega
      go_wp2_with (at_next; refine wpList_next keyI No.agg sb r U.sn (nmap U.settled) left c0 HRG.out HSH.out rfl ?_ ?_)
      · intro hl0
        have HT2 : Hid (U.crowd n.le = t) := by
          show _ = _
          rw [← HT.out, Vr.crowd, HUS.out, HN.out]
          exact cnt_same (fun y _ _ => by rw [hl0 y]; simp)
        have hS3 := HS.out.ranged 3 rfl
        have HS3 : Hid (JnSt w0 nb pb hb sb n U l wr) := Lib.hid hS3
        clear hl0 HT HRG HSH HS hS3
        generalize wr = W2 at HS3 ⊢
        obtain ⟨F, hF⟩ : ∃ F, U.says n.le = F := ⟨_, rfl⟩
        have HF := Lib.hid hF
        clear hF
        go_upto_region 8 with (fail)
        go_cut [7] (fun v wx => ∃ fb, v = .pointer (some ⟨fb, 0, none⟩) ∧ St w0 wx (bx fb F.cells.toArray 23 :: bx nb n.cells.toArray 23 :: bx pb (U.cells (some hb) (some sb)) 51 :: mp Try.prog 3 hb U.hn (vmap U.heard) :: mp Try.prog 3 sb U.sn (nmap U.settled) :: l))
        case first =>
          have n3 := blk_cell (HS3.out.box 0 rfl) 3 (.int .i64 n.le) rfl
          have c12 := blk_cell (HS3.out.box 1 rfl) 12 (.map (some sb)) rfl
          have hnb := heap_lt (HS3.out.box 0 rfl)
          have hpb := heap_lt (HS3.out.box 1 rfl)
          have look : ∀ wx : World, MapAt Try.prog 3 wx sb U.sn (nmap U.settled) → (Instr.lookup 49 (.map (some sb)) (.int .i64 n.le) false).run Try.prog wx = .ok (.agg #[.int .i64 F.fr, .int .i64 F.st, .int .i64 F.ro, .int .i64 F.le, .int .i64 F.ep, .int .i64 F.zx]) wx := fun wx hmp => by
            have h := hmp.look keyI mapN false (zeroN _) hle.1 hle.2
            rw [h]
            have hF := HF.out
            unfold Vr.says at hF
            unfold nmap
            cases hk : U.settled n.le with
            | none => rw [hk] at hF; rw [← hF]; rfl
            | some y => rw [hk] at hF; rw [← hF]; rfl
          have hS : St w0 W2 _ := HS3.out
          have l0 := look _ (hS.mapAt 3 rfl)
          have l1 := look _ (hS.drew.mapAt 3 rfl)
          have hA := hS.box1 #[.int .i64 0, .int .i64 0, .int .i64 0, .int .i64 0, .int .i64 0, .int .i64 0] 23
          have l2 := look _ (hA.mapAt 4 rfl)
          have l3 := look _ (hA.drew.mapAt 4 rfl)
          clear look hA hS
          go_region
          all_goals
            (try go_wp2_with fail)
            go_meet
            exact ⟨W2.heap.size, rfl, (HS3.out.box1 F.cells.toArray 23).drew⟩
        case rest =>
          clear HS3
          obtain ⟨fb, rfl, hS⟩ := hcut
          have hbx := hS.box 0 rfl
          have n0 := blk_cell hbx 0 (.int .i64 F.fr) rfl
          have n1 := blk_cell hbx 1 (.int .i64 F.st) rfl
          have n2 := blk_cell hbx 2 (.int .i64 F.ro) rfl
          have n3 := blk_cell hbx 3 (.int .i64 F.le) rfl
          have n4 := blk_cell hbx 4 (.int .i64 F.ep) rfl
          have n5 := blk_cell hbx 5 (.int .i64 F.zx) rfl
          have hfb := heap_lt hbx
          have hbx := hS.box 1 rfl
          have m3 := blk_cell hbx 3 (.int .i64 n.le) rfl
          have hnb := heap_lt hbx
          have hbx := hS.box 2 rfl
          have c1 : wc.cell? ⟨pb, 1, none⟩ = some (.int .i64 (m : Int)) := by rw [← HSN.out, ← HUS.out]; exact blk_cell hbx 1 (.int .i64 U.servers) rfl
          have hpb := heap_lt hbx
          have HS := Lib.hid hS
          have hm1000 : m ≤ 1000 := by have := HSN.out; omega
          clear hbx hS
          have key : ∀ R : Vr, V.joined n = R → (if (m : Int) / 2 < (t : Int) ∧ F.le = n.le ∧ F.st = 2 then { U with round := F.ro, vote := F.of, does := 2 } else U) = R := fun R hR => by
            rw [← hR, Vr.joined, HU.out, HT2.out, HF.out, HSN.out]
          have HK := Lib.hid (key _ rfl)
          clear key
          by_cases h1 : (m : Int) / 2 < (t : Int)
          · have g1 : decide ((m : Int) / 2 < (t : Int)) = true := by simpa using h1
            by_cases h2 : F.le = n.le
            · have g2 : (F.le == n.le) = true := by simpa using h2
              by_cases h3 : F.st = 2
              · have g3 : (F.st == 2) = true := by simpa using h3
                have HJ : Hid (V.joined n = { U with round := F.ro, vote := F.of, does := 2 }) := Lib.hid (by rw [← HK.out, if_pos ⟨h1, h2, h3⟩])
                clear h1 h2 h3 HK
                have hne : ¬ fb = pb := HS.out.apartB
                have hne' : ¬ pb = fb := fun e => hne e.symm
                go_upto_region 10 with (fail)
                go_region_held3 (fun w' => w'.cell? ⟨fb, 0, none⟩ = some (.int .i64 F.fr) ∧ w'.cell? ⟨fb, 1, none⟩ = some (.int .i64 F.st) ∧ w'.cell? ⟨fb, 2, none⟩ = some (.int .i64 F.ro) ∧ w'.cell? ⟨fb, 3, none⟩ = some (.int .i64 F.le) ∧ w'.cell? ⟨fb, 4, none⟩ = some (.int .i64 F.ep) ∧ w'.cell? ⟨fb, 5, none⟩ = some (.int .i64 F.zx))
                  (first | with_reducible exact ⟨n0, n1, n2, n3, n4, n5⟩ | with_reducible exact ⟨r0, r1, r2, r3, r4, r5⟩ | with_reducible exact ⟨x0, x1, x2, x3, x4, x5⟩ | with_reducible exact ⟨y0, y1, y2, y3, y4, y5⟩ | with_reducible exact ⟨z0, z1, z2, z3, z4, z5⟩ | go_keep)
                  ((first
                    | (go_at_call 15; refine (of_any F _).mono ?_; rintro e w2 ⟨rfl, hm2⟩; have r0 := hm2.cell n0 id; have r1 := hm2.cell n1 id; have r2 := hm2.cell n2 id; have r3 := hm2.cell n3 id; have r4 := hm2.cell n4 id; have r5 := hm2.cell n5 id; have hS2 := Lib.hid (HS.out.drew.mod hm2); have hbz := hS2.out.box 2 rfl; have f2 := blk_free hbz 2; have f3 := blk_free hbz 3; have f8 := blk_free hbz 8; have f9 := blk_free hbz 9; have f10 := blk_free hbz 10; have hpz := heap_lt hbz; have k2 := blk_cell hbz 2 (.int .i64 U.does) rfl; have k3 := blk_cell hbz 3 (.int .i64 U.round) rfl; have k8 := blk_cell hbz 8 (.int .i64 U.vote.e) rfl; have k9 := blk_cell hbz 9 (.int .i64 U.vote.z) rfl; have k10 := blk_cell hbz 10 (.int .i64 U.vote.l) rfl; clear hbz; have hA1 := Lib.hid (hS2.out.set 2 rfl 3 (.int .i64 F.ro)); have x0 := blk_cell (hA1.out.box 0 rfl) 0 (.int .i64 F.fr) rfl; have x1 := blk_cell (hA1.out.box 0 rfl) 1 (.int .i64 F.st) rfl; have x2 := blk_cell (hA1.out.box 0 rfl) 2 (.int .i64 F.ro) rfl; have x3 := blk_cell (hA1.out.box 0 rfl) 3 (.int .i64 F.le) rfl; have x4 := blk_cell (hA1.out.box 0 rfl) 4 (.int .i64 F.ep) rfl; have x5 := blk_cell (hA1.out.box 0 rfl) 5 (.int .i64 F.zx) rfl; have hA2 := Lib.hid (((hA1.out.set 2 rfl 8 (.int .i64 F.of.e)).set 2 rfl 9 (.int .i64 F.of.z)).set 2 rfl 10 (.int .i64 F.of.l)); have y0 := blk_cell (hA2.out.box 0 rfl) 0 (.int .i64 F.fr) rfl; have y1 := blk_cell (hA2.out.box 0 rfl) 1 (.int .i64 F.st) rfl; have y2 := blk_cell (hA2.out.box 0 rfl) 2 (.int .i64 F.ro) rfl; have y3 := blk_cell (hA2.out.box 0 rfl) 3 (.int .i64 F.le) rfl; have y4 := blk_cell (hA2.out.box 0 rfl) 4 (.int .i64 F.ep) rfl; have y5 := blk_cell (hA2.out.box 0 rfl) 5 (.int .i64 F.zx) rfl; have hA3 := Lib.hid (hA2.out.set 2 rfl 2 (.int .i64 2)); have z0 := blk_cell (hA3.out.box 0 rfl) 0 (.int .i64 F.fr) rfl; have z1 := blk_cell (hA3.out.box 0 rfl) 1 (.int .i64 F.st) rfl; have z2 := blk_cell (hA3.out.box 0 rfl) 2 (.int .i64 F.ro) rfl; have z3 := blk_cell (hA3.out.box 0 rfl) 3 (.int .i64 F.le) rfl; have z4 := blk_cell (hA3.out.box 0 rfl) 4 (.int .i64 F.ep) rfl; have z5 := blk_cell (hA3.out.box 0 rfl) 5 (.int .i64 F.zx) rfl)))
                all_goals
                  (try go_wp2)
                  go_end0
                  rw [HJ.out]
                  exact ⟨rfl, hA3.out.tail.tail.revr (V := { U with round := F.ro, vote := F.of, does := 2 })⟩
              · have g3 : (F.st == 2) = false := by simpa using h3
                have HJ : Hid (V.joined n = U) := Lib.hid (by rw [← HK.out, if_neg (fun h => h3 h.2.2)])
                clear h1 h2 h3 HK
                go_wp2
                go_end0
                rw [HJ.out]
                exact ⟨rfl, HS.out.tail.tail.revr (V := U)⟩
            · have g2 : (F.le == n.le) = false := by simpa using h2
              have HJ : Hid (V.joined n = U) := Lib.hid (by rw [← HK.out, if_neg (fun h => h2 h.2.1)])
              clear h1 h2 HK
              go_wp2
              go_end0
              rw [HJ.out]
              exact ⟨rfl, HS.out.tail.tail.revr (V := U)⟩
          · have g1 : decide ((m : Int) / 2 < (t : Int)) = false := by simpa using h1
            have HJ : Hid (V.joined n = U) := Lib.hid (by rw [← HK.out, if_neg (fun h => h1 h.1)])
            clear h1 HK
            go_wp2
            go_end0
            rw [HJ.out]
            exact ⟨rfl, HS.out.tail.tail.revr (V := U)⟩
      · intro x c w2 cnt2 hfx hlx hrg2 hlt2 hm2 hsz2 hen
        have hS2 := HS.out.goOn 3 rfl hrg2 hm2
        have hS3 := hS2.box1 c.cells.toArray 23
        rw [hsz2] at hS3
        have n3 := blk_cell (hS3.box 1 rfl) 3 (.int .i64 n.le) rfl
        have hnb := heap_lt (hS3.box 1 rfl)
        have HS3 := Lib.hid hS3
        have HFX := Lib.hid hfx
        have HLX := Lib.hid hlx
        clear hS2 hS3 hfx hlx hrg2 hm2
        simp only [No.agg] at hen ⊢
        have HRANGE := Lib.hid (HS.out.rangeAt 3 rfl).left_eq
        have hset : U.settled x = some c := by
          have h := HFX.out
          unfold nmap at h
          obtain ⟨c', hc', he⟩ := Option.map_eq_some_iff.1 h
          have : c' = c := by cases c'; cases c; simp only [No.agg] at he; injection he with he; simp at he; simp [he]
          rw [hc', this]
        have hin : 1 ≤ x ∧ x ≤ (m : Int) := by
          have := HD.out x c hset
          rw [← HSN.out, ← HUS.out]; exact this
        have HHE := Lib.hid hset
        clear hset
        go_upto_region 6 with (fail)
        change Code.wp _ _ _ _ (w2.alloc (.cells c.cells.toArray 23))
        have a3 := blk_cell (HS3.out.box 0 rfl) 3 (.int .i64 c.le) rfl
        have htb := heap_lt (HS3.out.box 0 rfl)
        clear hen hsz2
        generalize w2.alloc (.cells c.cells.toArray 23) = W3 at HS3 a3 n3 hnb htb ⊢
        generalize wr.heap.size = vb at HS3 a3 htb ⊢
        have hrel2 : cnt (fun i => U.follows n.le i && !(left i && i != x)) m = t + (if c.le = n.le then 1 else 0) := by
          rw [← HT.out]
          by_cases hcv : c.le = n.le
          · rw [if_pos hcv]
            refine cnt_more (x := x) (fun y hy => ?_) ?_ ?_ hin.1 hin.2
            · have h9 : (y != x) = true := by simpa using hy
              show (U.follows n.le y && !left y) = (U.follows n.le y && !(left y && y != x))
              rw [h9, Bool.and_true]
            · rw [HLX.out]; simp
            · rw [Vr.follows, HHE.out]; simp [hcv]
          · rw [if_neg hcv, Nat.add_zero]
            refine cnt_same (fun y _ _ => ?_)
            by_cases hy : y = x
            · have h8 : U.follows n.le y = false := by rw [Vr.follows, hy, HHE.out]; simp [hcv]
              show (U.follows n.le y && !(left y && y != x)) = (U.follows n.le y && !left y)
              rw [h8]; rfl
            · have h9 : (y != x) = true := by simpa using hy
              show (U.follows n.le y && !(left y && y != x)) = (U.follows n.le y && !left y)
              rw [h9, Bool.and_true]
        have HREL := Lib.hid hrel2
        clear hrel2 hin
        by_cases hcv : c.le = n.le
        · have HCV := Lib.hid hcv
          have hwr : IntKind.i64.wrap ((t : Int) + 1) = (t : Int) + 1 := IntWalk.i64_in _ (by omega)
          rw [hcv] at a3
          clear hcv
          go_wp2
          refine ⟨⟨_, cnt2, ?_, HS3.out.tail⟩, ?_⟩
          · rw [HREL.out, if_pos HCV.out]; simp
          · rw [(HS3.out.rangeAt 4 rfl).left_eq, HRANGE.out]; exact hlt2
        · have g3 : (c.le == n.le) = false := by simpa using hcv
          have HCV : Hid (¬ c.le = n.le) := Lib.hid hcv
          clear hcv
          go_wp2
          refine ⟨⟨_, cnt2, ?_, HS3.out.tail⟩, ?_⟩
          · rw [HREL.out, if_neg HCV.out]; simp
          · rw [(HS3.out.rangeAt 4 rfl).left_eq, HRANGE.out]; exact hlt2
end Go.Proofs.Ytmikenagaihoiaa
