/-
  The document's link: what it holds, and New, Queue, Send, packet.
  Conditions: the queue has at most 64 texts; their numbers are no more than what an int holds.
-/
import Derived.Test.YtoeokdachojhjaaLinkOpen
namespace Go.Proofs.Ytoeokdachojhjaa
open Go.RowKit
set_option linter.unusedSectionVars false
set_option linter.unusedSimpArgs false
set_option linter.unusedVariables false

theorem infoX : (Try.prog.info? 80).map (fun i => (i.zero, i.size, i.bytes)) = some (some (.agg #[.int .i64 0, .string .empty]), 2, 24) := by kernel_rfl
theorem cellsX : Try.prog.cellsOf 80 = 2 := by kernel_rfl
theorem isX : (Try.prog.info? 80).isSome = true := by kernel_rfl
theorem sizeX : (Try.prog.info? 80).map (·.size) = some 2 := by kernel_rfl

def Lk.rcells (L : Lk) (a : Option Addr) (n cap : Nat) (b : Option Addr) (m cab : Nat) : Array Value :=
  #[.int .i64 L.me, .int .i64 L.peer, .int .i64 L.life, .int .i64 L.far, .slice a n cap, .int .i64 L.last, .int .i64 L.sent, .int .i64 L.got, .slice b m cab, .bool L.owes, .bool L.over]

/-- A link of the document's, taken apart (what is kept: a list). -/
def rkParts (pb : Nat) (L : Lk) (K : List Tx) (x : (Option Addr × Nat) × (Option Addr × Nat)) : List Thing :=
  [bx pb (L.rcells x.1.1 L.queue.length x.1.2 x.2.1 K.length x.2.2) 74, sl 80 2 x.1.1 L.queue.length x.1.2 (ftx L.queue), sl 80 2 x.2.1 K.length x.2.2 (ftx K)]
def rk (pb : Nat) (L : Lk) (K : List Tx) : Thing := some1 fun x => grp (rkParts pb L K x)

theorem St.unrk {w0 w : World} {pb : Nat} {L : Lk} {K : List Tx} {l : List Thing} (h : St w0 w (rk pb L K :: l)) : ∃ a cap b cab, St w0 w (bx pb (L.rcells a L.queue.length cap b K.length cab) 74 :: sl 80 2 a L.queue.length cap (ftx L.queue) :: sl 80 2 b K.length cab (ftx K) :: l) := by
  obtain ⟨⟨⟨a, cap⟩, ⟨b, cab⟩⟩, h⟩ := h.tell
  exact ⟨a, cap, b, cab, h.ungrp⟩
theorem St.rerk {w0 w : World} {pb : Nat} (L : Lk) (K : List Tx) {l : List Thing} {a b : Option Addr} {cap cab : Nat} (h : St w0 w (bx pb (L.rcells a L.queue.length cap b K.length cab) 74 :: sl 80 2 a L.queue.length cap (ftx L.queue) :: sl 80 2 b K.length cab (ftx K) :: l)) : St w0 w (rk pb L K :: l) :=
  St.untell ((a, cap), (b, cab)) (St.regrp (rkParts pb L K ((a, cap), (b, cab))) h)

theorem rnew_st {w0 w : World} {l : List Thing} (h : St w0 w l) (me peer life : Int) :
    Calls Try.prog 20 #[.int .i64 me, .int .i64 peer, .int .i64 life] w (StMade w0 (fun pb => rk pb (Lk.new me peer life) []) l) := by
  go_enter Try.func20, Try.ntmps20
  go_wp2
  go_ret
  exact ⟨w.heap.size, rfl, St.rerk (Lk.new me peer life) [] (a := none) (cap := 0) (b := none) (cab := 0) (((h.nilSlice 80 2).nilSlice 80 2).box1 ((Lk.new me peer life).rcells none 0 0 none 0 0) 74)⟩

theorem rQueue_st {w0 w : World} {pb : Nat} {L : Lk} {K : List Tx} {l : List Thing} (h : St w0 w (rk pb L K :: l)) :
    Calls Try.prog 22 #[.pointer (some ⟨pb, 0, none⟩)] w (StPost (.int .i64 L.queue.length) w0 (rk pb L K :: l)) := by
  obtain ⟨a, cap, b, cab, hS⟩ := h.unrk
  have c4 := blk_cell (hS.box 0 rfl) 4 (.slice a L.queue.length cap) rfl
  have HS := Lib.hid h
  clear hS h
  go_enter Try.func22, Try.ntmps22
  go_wp2
  go_ret
  exact ⟨rfl, HS.out⟩

theorem rpacket_bx {w0 w : World} {pb : Nat} {L : Lk} {l : List Thing} (h : St w0 w l) (i : Nat) {a b : Option Addr} {n cap m cab : Nat} (hi : l[i]? = some (bx pb (L.rcells a n cap b m cab) 74)) (t : Tx) :
    Calls Try.prog 36 #[.pointer (some ⟨pb, 0, none⟩), .int .i64 t.n, .string t.s] w (StPost (L.pkt t).agg w0 l) := by
  have hT := h.box1 Pk.zero.cells.toArray 41
  have hpb0 := heap_lt (h.box i hi)
  clear h
  go_enter Try.func36, Try.ntmps36
  go_wp2_with fail
  change Code.wp _ _ _ _ (w.alloc (.cells Pk.zero.cells.toArray 41))
  generalize w.alloc (.cells Pk.zero.cells.toArray 41) = W at hT ⊢
  generalize w.heap.size = tb at hT hpb0 ⊢
  have hb := hT.box (i + 1) (by simpa using hi)
  have c0 := blk_cell hb 0 (.int .i64 L.me) rfl
  have c1 := blk_cell hb 1 (.int .i64 L.peer) rfl
  have c2 := blk_cell hb 2 (.int .i64 L.life) rfl
  have c3 := blk_cell hb 3 (.int .i64 L.far) rfl
  have c7 := blk_cell hb 7 (.int .i64 L.got) rfl
  have HT := Lib.hid hT
  clear hT hb hi
  go_wp2
  go_still_tail 23, (by kernel_rfl)
  change wpList _ _ _ _ _ W.drew
  refine wpList_store_whole 8 sizeP tb rfl _ _ (HT.out.drew.box 0 rfl) rfl (L.pkt t).cells rfl rfl (by kernel_rfl) ?_
  intro w5 hg5 hM5 hz5
  go_wp2
  refine bodyPost_ret (results_cell rfl _ w5 tb _ _ _ _ rfl hg5 Try.underlying41 rfl sizeP) rfl ?_
  exact ⟨rfl, (HT.out.drew.rebox 0 rfl hg5 hM5).tail⟩

set_option maxHeartbeats 1000000 in
theorem rSend_st {w0 w : World} {pb : Nat} {L : Lk} {K : List Tx} {l : List Thing} (h : St w0 w (rk pb L K :: l)) (s : ByteArray) (hq : L.queue.length ≤ 64) (h0 : 0 ≤ L.last) (h1 : L.last < 9223372036854775807) :
    Calls Try.prog 26 #[.pointer (some ⟨pb, 0, none⟩), .string s] w (StPost (.int .i64 L.sendErr) w0 (rk pb (L.send s) K :: l)) := by
  obtain ⟨a, cap, b, cab, hS⟩ := h.unrk
  have hb := hS.box 0 rfl
  have c5 := blk_cell hb 5 (.int .i64 L.last) rfl
  have c4 := blk_cell hb 4 (.slice a L.queue.length cap) rfl
  have c10 := blk_cell hb 10 (.bool L.over) rfl
  have hpb := heap_lt hb
  have f5 := blk_free hb 5
  by_cases hov : L.over = true
  · have HE : Hid (L.full = true) := by show _ = true; simp [Lk.full, hov]
    rw [hov] at c10
    have HS := Lib.hid h
    clear hS h hb hov
    go_enter Try.func26, Try.ntmps26
    go_wp2
    go_ret
    have he := HE.out
    unfold Lk.send Lk.sendErr
    rw [if_pos he, if_pos he]
    exact ⟨rfl, HS.out⟩
  have hov : L.over = false := by simpa using hov
  rw [hov] at c10
  obtain ⟨q, hql⟩ : ∃ q, L.queue.length = q := ⟨_, rfl⟩
  rw [hql] at c4
  by_cases hfu : q = 64
  · have HE : Hid (L.full = true) := by show _ = true; simp [Lk.full, hql, hfu]
    have HS := Lib.hid h
    have hg : decide (64 ≤ q) = true := by simp [hfu]
    clear hS h hb hov hql hq
    go_enter Try.func26, Try.ntmps26
    go_wp2
    go_ret
    have he := HE.out
    unfold Lk.send Lk.sendErr
    rw [if_pos he, if_pos he]
    exact ⟨rfl, HS.out⟩
  have hfu : q < 64 := by omega
  have HE : Hid (L.full = false) := by show _ = false; simp [Lk.full, hql, hov]; omega
  have hg : decide (64 ≤ q) = false := by simp; omega
  have hS1 := hS.set 0 rfl 5 (.int .i64 (L.last + 1))
  rw [hql] at hS1
  have hwr : IntKind.i64.wrap (L.last + 1) = L.last + 1 := by rw [IntWalk.i64_left, IntWalk.wrap64_in _ (by omega)]
  have HQ := Lib.hid hql
  clear hS h hb hov hql hq
  obtain ⟨ip, hip1, hip2, hip3⟩ := info_parts infoX
  have HI := Lib.hid (And.intro hip1 (And.intro hip2 hip3))
  clear hip1 hip2 hip3
  go_enter Try.func26, Try.ntmps26
  go_upto_region 4 with (fail)
  generalize w.setCell ⟨pb, 5, none⟩ (.int .i64 (L.last + 1)) = W at hS1 ⊢
  have bW := hS1.box 0 rfl
  have c5 := blk_cell bW 5 (.int .i64 (L.last + 1)) rfl
  have c4 := blk_cell bW 4 (.slice a q cap) rfl
  have hpb := heap_lt bW
  have HS := Lib.hid hS1
  have HB := Lib.hid bW
  clear hS1 bW hwr hg
  go_cut [] (fun wx => ∃ a2 cap2, St w0 wx (bx pb ((L.rcells a q cap b K.length cab).setIfInBounds 5 (.int .i64 (L.last + 1)) |>.setIfInBounds 4 (.slice a2 (q + 1) cap2)) 74 :: sl 80 2 a2 (q + 1) cap2 (ftx (L.queue ++ [⟨L.last + 1, s⟩])) :: sl 80 2 b K.length cab (ftx K) :: l))
  case first =>
    go_region_law ((refine step_append rfl rfl 80 ip _ 2 24 (by kernel_rfl) HI.out.1 HI.out.2.1 HI.out.2.2.1 HI.out.2.2.2 rfl a q cap (ftx L.queue) (by rfl) ?hv (some ⟨W.heap.size, 0, none⟩) 1 1 (ftx [⟨L.last + 1, s⟩]) (by rfl) ?hs ?h1 ?h63 ?hb ?_
                    case hv => exact (HS.out.slice 1 rfl).mod (S := fun _ => False) (by first | exact ((Mod.refl _ _).alloc _).drew | exact ((Mod.refl _ _).drew).alloc _) (fun _ _ => id)
                    case hs => exact (Sl.new (c := (ftx [⟨L.last + 1, s⟩]).toArray) (by first | exact heap_alloc_new W _ | exact heap_alloc_new W.drew _) rfl (by unfold maxLen; omega)).rd
                    case h1 => exact ftx_one _
                    case h63 => unfold maxLen; omega
                    case hb => omega
                    intro a2 cap2 w2 hS2 hM2 hF2 hN2 hR2
                    have hSA := HS.out.mod (by first | exact ((Mod.refl _ _).alloc (.cells (ftx [⟨L.last + 1, s⟩]).toArray 80)).drew | exact ((Mod.refl _ _).drew).alloc (.cells (ftx [⟨L.last + 1, s⟩]).toArray 80))
                    have hSB := hSA.regrow 1 rfl hS2 hM2 hF2
                    have hb2 := hSB.box 0 rfl
                    have hc2 := blk_cell hb2 4 (.slice a q cap) rfl
                    have hf2 := blk_free hb2 4
                    have hpb2 := heap_lt hb2
                    have HSB := Lib.hid hSB
                    clear hN2 hR2 hb2 hSA hSB hS2))
    all_goals
      (try go_wp2_with fail)
      go_meet
      refine ⟨a2, cap2, ?_⟩
      rw [ftx_append]
      exact HSB.out.set 0 rfl 4 (.slice a2 (q + 1) cap2)
  case rest =>
    obtain ⟨a2, cap2, hC⟩ := hcut
    go_wp2
    go_ret
    have he := HE.out
    unfold Lk.send Lk.sendErr
    rw [if_neg (by rw [he]; simp), if_neg (by rw [he]; simp)]
    refine ⟨rfl, St.rerk (L.put s) K (a := a2) (cap := cap2) (b := b) (cab := cab) ?_⟩
    have hl : (L.put s).queue.length = q + 1 := by simp [Lk.put, HQ.out]
    rw [hl]
    exact hC
end Go.Proofs.Ytoeokdachojhjaa
