/-
  A voter: New, note, casts, takes.
  Conditions: at most 1000 servers.
-/
import Derived.Test.YtmikenagaihoiaaVoteA
import Derived.Deep.CutBlock
namespace Go.Proofs.Ytmikenagaihoiaa
open Go.RowKit
set_option linter.unusedSectionVars false
set_option linter.unusedSimpArgs false
set_option linter.unusedVariables false

theorem keyI : Try.prog.underlying 3 = some (.int .i64) := by kernel_rfl
theorem mapV : Try.prog.underlying 48 = some (.map 3 45) := by kernel_rfl
theorem mapN : Try.prog.underlying 49 = some (.map 3 23) := by kernel_rfl
theorem zeroV (w : World) : (zeroValue 45).run Try.prog w = .ok (.agg #[.int .i64 0, .int .i64 0, .int .i64 0]) w := by kernel_rfl
theorem zeroN (w : World) : (zeroValue 23).run Try.prog w = .ok (.agg #[.int .i64 0, .int .i64 0, .int .i64 0, .int .i64 0, .int .i64 0, .int .i64 0]) w := by kernel_rfl
theorem infoC : (Try.prog.info? 41).map (fun i => (i.zero, i.size, i.bytes)) = some (some (.agg #[.int .i64 0, .int .i64 0, .int .i64 0, .int .i64 0, .int .i64 0, .int .i64 0, .int .i64 0]), 7, 56) := by kernel_rfl

structure Vr where
  me : Int
  servers : Int
  does : Int
  round : Int
  wait : Int
  own : Vt
  vote : Vt
  heard : Int → Option Vt
  settled : Int → Option No
  hn : Nat
  sn : Nat

def vmap (f : Int → Option Vt) : Int → Option Value := fun x => (f x).map Vt.agg
def nmap (f : Int → Option No) : Int → Option Value := fun x => (f x).map No.agg
def put1 {α : Type} (f : Int → Option α) (x : Int) (v : α) : Int → Option α := fun y => if y = x then some v else f y
theorem vmap_put (f : Int → Option Vt) (x : Int) (v : Vt) : upd (vmap f) x (some v.agg) = vmap (put1 f x v) := by funext y; unfold upd vmap put1; split <;> rfl
theorem nmap_put (f : Int → Option No) (x : Int) (v : No) : upd (nmap f) x (some v.agg) = nmap (put1 f x v) := by funext y; unfold upd nmap put1; split <;> rfl

def Vr.cells (V : Vr) (hb sb : Option Nat) : Array Value :=
  #[.int .i64 V.me, .int .i64 V.servers, .int .i64 V.does, .int .i64 V.round, .int .i64 V.wait, .int .i64 V.own.e, .int .i64 V.own.z, .int .i64 V.own.l, .int .i64 V.vote.e, .int .i64 V.vote.z, .int .i64 V.vote.l, .map hb, .map sb]
def Vr.new (me servers : Int) : Vr := ⟨me, servers, 0, 0, 0, ⟨0, 0, 0⟩, ⟨0, 0, 0⟩, fun _ => none, fun _ => none, 0, 0⟩
def Vr.state (V : Vr) : Int := if V.does = 1 then 0 else if V.vote.l = V.me then 2 else 1
def Vr.note (V : Vr) : No := ⟨V.me, V.state, V.round, V.vote.l, V.vote.e, V.vote.z⟩

/-- A voter that has looked, taken apart. -/
def vrParts (pb : Nat) (V : Vr) (x : Nat × Nat) : List Thing := [bx pb (V.cells (some x.1) (some x.2)) 51, mp Try.prog 3 x.1 V.hn (vmap V.heard), mp Try.prog 3 x.2 V.sn (nmap V.settled)]
def vr (pb : Nat) (V : Vr) : Thing := some1 fun x => grp (vrParts pb V x)
theorem St.unvr {w0 w : World} {pb : Nat} {V : Vr} {l : List Thing} (h : St w0 w (vr pb V :: l)) : ∃ hb sb, St w0 w (bx pb (V.cells (some hb) (some sb)) 51 :: mp Try.prog 3 hb V.hn (vmap V.heard) :: mp Try.prog 3 sb V.sn (nmap V.settled) :: l) := by
  obtain ⟨⟨hb, sb⟩, h⟩ := h.tell
  exact ⟨hb, sb, h.ungrp⟩
theorem St.revr {w0 w : World} {pb : Nat} (V : Vr) {l : List Thing} {hb sb : Nat} (h : St w0 w (bx pb (V.cells (some hb) (some sb)) 51 :: mp Try.prog 3 hb V.hn (vmap V.heard) :: mp Try.prog 3 sb V.sn (nmap V.settled) :: l)) : St w0 w (vr pb V :: l) :=
  St.untell (hb, sb) (St.regrp (vrParts pb V (hb, sb)) h)

def StMade (w0 : World) (t : Nat → Thing) (l : List Thing) (e : Ending) (w' : World) : Prop := ∃ pb, e = .returned (.pointer (some ⟨pb, 0, none⟩)) ∧ St w0 w' (t pb :: l)
theorem vnew_st {w0 w : World} {l : List Thing} (h : St w0 w l) (me servers : Int) :
    Calls Try.prog 9 #[.int .i64 me, .int .i64 servers] w (StMade w0 (fun pb => bx pb ((Vr.new me servers).cells none none) 51) l) := by
  go_enter Try.func9, Try.ntmps9
  go_wp2
  go_ret
  exact ⟨_, rfl, h.box1 _ _⟩

theorem note_bx {w0 w : World} {pb : Nat} {V : Vr} {l : List Thing} (h : St w0 w l) (i : Nat) {hb sb : Option Nat} (hi : l[i]? = some (bx pb (V.cells hb sb) 51)) :
    Calls Try.prog 21 #[.pointer (some ⟨pb, 0, none⟩)] w (StPost V.note.agg w0 l) := by
  have hT := h.box1 #[.int .i64 0, .int .i64 0, .int .i64 0, .int .i64 0, .int .i64 0, .int .i64 0] 23
  have hpb0 := heap_lt (h.box i hi)
  clear h
  go_enter Try.func21, Try.ntmps21
  go_upto_block 0 with (fail)
  change Code.wp _ _ _ _ (w.alloc (.cells #[.int .i64 0, .int .i64 0, .int .i64 0, .int .i64 0, .int .i64 0, .int .i64 0] 23))
  generalize w.alloc (.cells #[.int .i64 0, .int .i64 0, .int .i64 0, .int .i64 0, .int .i64 0, .int .i64 0] 23) = W at hT ⊢
  generalize w.heap.size = tb at hT hpb0 ⊢
  have HT := Lib.hid hT
  have hi' : (bx tb #[.int .i64 0, .int .i64 0, .int .i64 0, .int .i64 0, .int .i64 0, .int .i64 0] 23 :: l)[i + 1]? = some (bx pb (V.cells hb sb) 51) := by simpa using hi
  have HII := Lib.hid hi'
  clear hT hi hi'
  go_cut [3] (fun v wx => v = .int .i64 V.state ∧ St w0 wx (bx tb #[.int .i64 0, .int .i64 0, .int .i64 0, .int .i64 0, .int .i64 0, .int .i64 0] 23 :: l))
  case first =>
    have hb' := HT.out.box (i + 1) HII.out
    have c0 := blk_cell hb' 0 (.int .i64 V.me) rfl
    have c2 := blk_cell hb' 2 (.int .i64 V.does) rfl
    have c10 := blk_cell hb' 10 (.int .i64 V.vote.l) rfl
    have hpb := heap_lt hb'
    clear hb'
    by_cases h1 : V.does = 1
    · have g1 : (V.does == 1) = true := by simpa using h1
      have HE : Hid (V.state = 0) := by show _ = _; rw [Vr.state, if_pos h1]
      clear h1
      go_wp2_with fail
      go_meet
      exact ⟨by rw [HE.out], HT.out⟩
    · have g1 : (V.does == 1) = false := by simpa using h1
      by_cases h2 : V.vote.l = V.me
      · have g2 : (V.vote.l == V.me) = true := by simpa using h2
        have HE : Hid (V.state = 2) := by show _ = _; rw [Vr.state, if_neg h1, if_pos h2]
        clear h1 h2
        go_wp2_with fail
        go_quiet (fail)
        go_wp2_with fail
        go_meet
        exact ⟨by rw [HE.out], HT.out.drewN _⟩
      · have g2 : (V.vote.l == V.me) = false := by simpa using h2
        have HE : Hid (V.state = 1) := by show _ = _; rw [Vr.state, if_neg h1, if_neg h2]
        clear h1 h2
        go_wp2_with fail
        go_quiet (fail)
        go_wp2_with fail
        go_meet
        exact ⟨by rw [HE.out], HT.out.drewN _⟩
  case rest =>
    clear HT
    obtain ⟨rfl, hS⟩ := hcut
    have hb' := hS.box (i + 1) HII.out
    have c0 := blk_cell hb' 0 (.int .i64 V.me) rfl
    have c3 := blk_cell hb' 3 (.int .i64 V.round) rfl
    have c8 := blk_cell hb' 8 (.int .i64 V.vote.e) rfl
    have c9 := blk_cell hb' 9 (.int .i64 V.vote.z) rfl
    have c10 := blk_cell hb' 10 (.int .i64 V.vote.l) rfl
    have hpb := heap_lt hb'
    have HS := Lib.hid hS
    clear hb' hS
    go_upto_region 6 with (fail)
    go_still_tail 25, (by kernel_rfl)
    change wpList _ _ _ _ _ wc.drew
    refine wpList_store_whole 6 sizeN tb rfl _ _ (HS.out.drew.box 0 rfl) rfl V.note.cells rfl rfl (by kernel_rfl) ?_
    intro w5 hg5 hM5 hz5
    go_wp2
    refine bodyPost_ret (results_cell rfl _ w5 tb _ _ _ _ rfl hg5 Try.underlying23 rfl sizeN) rfl ?_
    exact ⟨rfl, (HS.out.drew.rebox 0 rfl hg5 hM5).tail⟩

/-! ### casts -/

structure Cs where
  tox : Int
  n : No
deriving DecidableEq
def Cs.cells (c : Cs) : List Value := .int .i64 c.tox :: c.n.cells
theorem cslen (c : Cs) : c.cells.length = 7 := rfl
theorem cs_one (l : List Cs) : ∀ u ∈ l.flatMap Cs.cells, u.oneCell' = true := by
  intro u hu
  obtain ⟨x, _, hx⟩ := List.mem_flatMap.1 hu
  simp only [Cs.cells, No.cells, List.mem_cons, List.not_mem_nil, or_false] at hx
  rcases hx with rfl | rfl | rfl | rfl | rfl | rfl | rfl <;> rfl

def Vr.upto (V : Vr) : Nat → List Cs
  | 0 => []
  | k + 1 => V.upto k ++ (if ((k : Int) + 1) = V.me then [] else [⟨(k : Int) + 1, V.note⟩])
def Vr.casts (V : Vr) : List Cs := V.upto V.servers.toNat
theorem upto_len (V : Vr) : ∀ k, (V.upto k).length ≤ k
  | 0 => Nat.le_refl _
  | k + 1 => by
    rw [Vr.upto, List.length_append]
    have := upto_len V k
    split
    · simp; omega
    · simp; omega

def StCs (w0 : World) (xs : List Cs) (l : List Thing) (e : Ending) (w' : World) : Prop := ∃ a cap, e = .returned (.slice a xs.length cap) ∧ St w0 w' (sl 41 7 a xs.length cap (xs.flatMap Cs.cells) :: l)

set_option maxHeartbeats 1000000 in
theorem casts_bx {w0 w : World} {pb : Nat} {V : Vr} {l : List Thing} (h : St w0 w l) (i : Nat) {hb sb : Option Nat} (hi : l[i]? = some (bx pb (V.cells hb sb) 51)) (hs0 : 0 ≤ V.servers) (hs1 : V.servers ≤ 1000) :
    Calls Try.prog 18 #[.pointer (some ⟨pb, 0, none⟩)] w (StCs w0 V.casts l) := by
  obtain ⟨n, hn⟩ : ∃ n, V.servers.toNat = n := ⟨_, rfl⟩
  have hsn : V.servers = n := by omega
  have HSN := Lib.hid hsn
  have HN := Lib.hid hn
  have hn1 : n ≤ 1000 := by omega
  have HS := Lib.hid h
  have HI0 := Lib.hid hi
  obtain ⟨ip, hip1, hip2, hip3⟩ := info_parts infoC
  have HI := Lib.hid (And.intro hip1 (And.intro hip2 hip3))
  clear hip1 hip2 hip3 h hi hn hsn hs0 hs1
  go_enter Try.func18, Try.ntmps18
  go_wp2
  go_loopg [3, 4] n (fun g v y wr => ∃ (k : Nat) (a3 : Option Addr) (m cap3 : Nat), k + g = n ∧ y = .int .i64 ((k : Int) + 1) ∧ v = .slice a3 m cap3 ∧ (V.upto k).length = m ∧ St w0 wr (sl 41 7 a3 m cap3 ((V.upto k).flatMap Cs.cells) :: l))
  case atStart => exact ⟨0, none, 0, 0, by omega, rfl, rfl, rfl, HS.out.nilSlice _ _⟩
  case round =>
    clear HS
    obtain ⟨k, a3, m, cap3, hkg, rfl, rfl, hm, hS⟩ := hrel
    have hml : m ≤ k := by rw [← hm]; exact upto_len V k
    have hb' := hS.box (i + 1) (by simpa using HI0.out)
    have c0 := blk_cell hb' 0 (.int .i64 V.me) rfl
    have c1 : wr.cell? ⟨pb, 1, none⟩ = some (.int .i64 (n : Int)) := by rw [← HSN.out]; exact blk_cell hb' 1 (.int .i64 V.servers) rfl
    have hpb := heap_lt hb'
    have HM := Lib.hid hm
    have HS := Lib.hid hS
    clear hb' hS hm
    by_cases hlt : k < n
    · have g0 : decide ((k : Int) + 1 ≤ (n : Int)) = true := by simp; omega
      have hwr : IntKind.i64.wrap ((k : Int) + 1 + 1) = (k : Int) + 1 + 1 := IntWalk.i64_in _ (by omega)
      by_cases hme : (k : Int) + 1 = V.me
      · have g1 : ((k : Int) + 1 != V.me) = false := by simpa using hme
        have HU : Hid (V.upto (k + 1) = V.upto k) := by show _ = _; rw [Vr.upto, if_pos hme, List.append_nil]
        clear hme
        go_wp2
        go_roundg (gk - 1)
        case measure => omega
        case rel => exact ⟨k + 1, a3, m, cap3, by omega, by simp, rfl, by rw [HU.out]; exact HM.out, by rw [HU.out]; exact HS.out⟩
      · have g1 : ((k : Int) + 1 != V.me) = true := by simpa using hme
        have HU : Hid (V.upto (k + 1) = V.upto k ++ [⟨(k : Int) + 1, V.note⟩]) := by show _ = _; rw [Vr.upto, if_neg hme]
        clear hme
        go_wp2_with fail
        refine (note_bx HS.out (i + 1) (by simpa using HI0.out)).mono ?_
        rintro e w2 ⟨rfl, hS2⟩
        have hS3 := hS2.box1 (Cs.cells ⟨(k : Int) + 1, V.note⟩).toArray 41
        have HSL := Lib.hid (hS3.slice 1 rfl)
        have HSR := Lib.hid (Sl.new (E := 41) (k := 7) (n := 1) (c := (Cs.cells ⟨(k : Int) + 1, V.note⟩).toArray) (hS3.box 0 rfl) rfl (by unfold maxLen; omega)).rd
        have HS3 := Lib.hid hS3
        clear hS2 hS3
        go_wp2_with (at_builtin; refine wpList_append 41 ip _ 7 56 (by kernel_rfl) HI.out.1 HI.out.2.1 HI.out.2.2.1 HI.out.2.2.2 rfl a3 m cap3 _ rfl HSL.out (some ⟨w2.heap.size, 0, none⟩) 1 1 (Cs.cells ⟨(k : Int) + 1, V.note⟩).toArray.toList rfl HSR.out (fun u hu => cs_one [⟨(k : Int) + 1, V.note⟩] u (by simpa using hu)) (by unfold maxLen; omega) (by omega) ?_; intro a6 cap6 w6 hS6 hM6 hF6 hN6 hR6; clear hN6 hR6)
        go_roundg (gk - 1)
        case measure => omega
        case rel =>
          refine ⟨k + 1, a6, m + 1, cap6, by omega, by simp, rfl, by rw [HU.out, List.length_append, HM.out]; rfl, ?_⟩
          rw [HU.out, List.flatMap_append]
          have h7 := (HS3.out.regrow 1 rfl hS6 hM6 hF6).tail
          simpa using h7
    · have g0 : decide ((k : Int) + 1 ≤ (n : Int)) = false := by simp; omega
      have hkn : k = n := by omega
      go_wp2
      go_ret
      have hc : V.casts = V.upto k := by rw [Vr.casts, HN.out, hkn]
      rw [hc]
      refine ⟨a3, cap3, by rw [HM.out]; rfl, ?_⟩
      rw [HM.out]
      exact HS.out
end Go.Proofs.Ytmikenagaihoiaa
