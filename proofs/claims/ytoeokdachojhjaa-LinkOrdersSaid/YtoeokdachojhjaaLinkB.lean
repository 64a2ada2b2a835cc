/-
  The program's link: New, Life, Queue, Send, packet.
  Conditions: the queue has at most 64 texts; their numbers are no more than what an int holds.
-/
import Derived.Test.YtoeokdachojhjaaLinkA
namespace Go.Proofs.Ytoeokdachojhjaa
open Go.RowKit
set_option linter.unusedSectionVars false
set_option linter.unusedSimpArgs false
set_option linter.unusedVariables false

/-- A call that makes a thing behind a pointer. -/
def StMade (w0 : World) (t : Nat → Thing) (l : List Thing) (e : Ending) (w' : World) : Prop := ∃ pb, e = .returned (.pointer (some ⟨pb, 0, none⟩)) ∧ St w0 w' (t pb :: l)

theorem lnew_st {w0 w : World} {l : List Thing} (h : St w0 w l) (me peer life : Int) :
    Calls Try.prog 15 #[.int .i64 me, .int .i64 peer, .int .i64 life] w (StMade w0 (fun pb => lk pb (Lk.new me peer life)) l) := by
  have hmm := @run_makeMap Try.prog
  go_enter Try.func15, Try.ntmps15
  go_wp2
  go_ret
  refine ⟨w.heap.size + 1, rfl, St.relk (Lk.new me peer life) (a := none) (cap := 0) (mb := w.heap.size) ?_⟩
  have hb := ((h.map1 Try.prog 3).nilSlice 68 2).box1 ((Lk.new me peer life).cells none 0 0 w.heap.size) 66
  rw [World.size_alloc] at hb
  exact hb

theorem lLife_st {w0 w : World} {pb : Nat} {L : Lk} {l : List Thing} (h : St w0 w (lk pb L :: l)) :
    Calls Try.prog 19 #[.pointer (some ⟨pb, 0, none⟩)] w (StPost (.int .i64 L.life) w0 (lk pb L :: l)) := by
  obtain ⟨a, cap, mb, hS⟩ := h.unlk
  have c5 := blk_cell (hS.box 0 rfl) 5 (.int .i64 L.life) rfl
  have HS := Lib.hid h
  clear hS h
  go_enter Try.func19, Try.ntmps19
  go_wp2
  go_ret
  exact ⟨rfl, HS.out⟩

theorem lQueue_st {w0 w : World} {pb : Nat} {L : Lk} {l : List Thing} (h : St w0 w (lk pb L :: l)) :
    Calls Try.prog 14 #[.pointer (some ⟨pb, 0, none⟩)] w (StPost (.int .i64 L.queue.length) w0 (lk pb L :: l)) := by
  obtain ⟨a, cap, mb, hS⟩ := h.unlk
  have c7 := blk_cell (hS.box 0 rfl) 7 (.slice a L.queue.length cap) rfl
  have HS := Lib.hid h
  clear hS h
  go_enter Try.func14, Try.ntmps14
  go_wp2
  go_ret
  exact ⟨rfl, HS.out⟩

theorem results_cell {P : Program} {fn : Func} {p : Tmp} {ty : TypeId} (h : fn.results = #[.cell p ty]) (tmps : Array Value) (w : World) (g : Nat) (T : TypeId) (cs : Array Value) (fr : Nat × Nat) (d : TypeDesc)
    (hp : tmps.getD p undef = .pointer (some ⟨g, 0, none⟩)) (hg : w.heap[g]? = some (.cells cs T fr))
    (hu : P.underlying ty = some d) (hd : (match d with | .struct _ | .array _ _ => true | _ => false) = true) (hi : (P.info? ty).map (·.size) = some cs.size) :
    (results fn tmps).run P w = .ok (.agg cs) w := by
  have hp' : tmps[p]?.getD undef = .pointer (some ⟨g, 0, none⟩) := by simpa using hp
  simp [results, h, hp', asAddr, run_loadVar_row w g T ty cs fr d hg hu hd hi]

theorem lpacket_bx {w0 w : World} {pb : Nat} {L : Lk} {l : List Thing} (h : St w0 w l) (i : Nat) {a : Option Addr} {n cap mb : Nat} (hi : l[i]? = some (bx pb (L.cells a n cap mb) 66)) (t : Tx) :
    Calls Try.prog 31 #[.pointer (some ⟨pb, 0, none⟩), .agg #[.int .i64 t.n, .string t.s]] w (StPost (L.pkt t).agg w0 l) := by
  have hT := (h.box1 t.cells.toArray 68).box1 Pk.zero.cells.toArray 41
  have hpb0 := heap_lt (h.box i hi)
  rw [World.size_alloc] at hT
  clear h
  go_enter Try.func31, Try.ntmps31
  go_wp2_with fail
  change Code.wp _ _ _ _ ((w.alloc (.cells t.cells.toArray 68)).alloc (.cells Pk.zero.cells.toArray 41))
  generalize (w.alloc (.cells t.cells.toArray 68)).alloc (.cells Pk.zero.cells.toArray 41) = W at hT ⊢
  generalize w.heap.size = tb at hT hpb0 ⊢
  have hb := hT.box (i + 2) (by simpa using hi)
  have c2 := blk_cell hb 2 (.int .i64 L.got) rfl
  have c3 := blk_cell hb 3 (.int .i64 L.me) rfl
  have c4 := blk_cell hb 4 (.int .i64 L.peer) rfl
  have c5 := blk_cell hb 5 (.int .i64 L.life) rfl
  have c6 := blk_cell hb 6 (.int .i64 L.far) rfl
  have t0 := blk_cell (hT.box 1 rfl) 0 (.int .i64 t.n) rfl
  have t1 := blk_cell (hT.box 1 rfl) 1 (.string t.s) rfl
  have HT := Lib.hid hT
  clear hT hb hi
  go_wp2
  go_still_tail 26, (by kernel_rfl)
  change wpList _ _ _ _ _ W.drew
  refine wpList_store_whole 8 sizeP (tb + 1) rfl _ _ (HT.out.drew.box 0 rfl) rfl (L.pkt t).cells rfl rfl (by kernel_rfl) ?_
  intro w5 hg5 hM5 hz5
  go_wp2
  refine bodyPost_ret (results_cell rfl _ w5 (tb + 1) _ _ _ _ rfl hg5 Try.underlying41 rfl sizeP) rfl ?_
  exact ⟨rfl, (HT.out.drew.rebox 0 rfl hg5 hM5).tail.tail⟩

set_option maxHeartbeats 1000000 in
theorem lSend_st {w0 w : World} {pb : Nat} {L : Lk} {l : List Thing} (h : St w0 w (lk pb L :: l)) (s : ByteArray) (hq : L.queue.length ≤ 64) (h0 : 0 ≤ L.last) (h1 : L.last < 9223372036854775807) :
    Calls Try.prog 16 #[.pointer (some ⟨pb, 0, none⟩), .string s] w (StPost (.int .i64 L.sendErr) w0 (lk pb (L.send s) :: l)) := by
  obtain ⟨a, cap, mb, hS⟩ := h.unlk
  have hb := hS.box 0 rfl
  have c0 := blk_cell hb 0 (.int .i64 L.last) rfl
  have c7 := blk_cell hb 7 (.slice a L.queue.length cap) rfl
  have c10 := blk_cell hb 10 (.bool L.over) rfl
  have hpb := heap_lt hb
  have f0 := blk_free hb 0
  by_cases hov : L.over = true
  · have HE : Hid (L.full = true) := by show _ = true; simp [Lk.full, hov]
    rw [hov] at c10
    have HS := Lib.hid h
    clear hS h hb hov
    go_enter Try.func16, Try.ntmps16
    go_wp2
    go_ret
    have he := HE.out
    unfold Lk.send Lk.sendErr
    rw [if_pos he, if_pos he]
    exact ⟨rfl, HS.out⟩
  have hov : L.over = false := by simpa using hov
  rw [hov] at c10
  obtain ⟨q, hql⟩ : ∃ q, L.queue.length = q := ⟨_, rfl⟩
  rw [hql] at c7
  by_cases hfu : q = 64
  · have HE : Hid (L.full = true) := by show _ = true; simp [Lk.full, hql, hfu]
    have HS := Lib.hid h
    have hg : decide (64 ≤ q) = true := by simp [hfu]
    clear hS h hb hov hql hq
    go_enter Try.func16, Try.ntmps16
    go_wp2
    go_ret
    have he := HE.out
    unfold Lk.send Lk.sendErr
    rw [if_pos he, if_pos he]
    exact ⟨rfl, HS.out⟩
  have hfu : q < 64 := by omega
  have HE : Hid (L.full = false) := by show _ = false; simp [Lk.full, hql, hov]; omega
  have hg : decide (64 ≤ q) = false := by simp; omega
  have hS1 := hS.set 0 rfl 0 (.int .i64 (L.last + 1))
  rw [hql] at hS1
  have hwr : IntKind.i64.wrap (L.last + 1) = L.last + 1 := by rw [IntWalk.i64_left, IntWalk.wrap64_in _ (by omega)]
  have HQ := Lib.hid hql
  clear hS h hb hov hql hq
  obtain ⟨ip, hip1, hip2, hip3⟩ := info_parts infoT
  have HI := Lib.hid (And.intro hip1 (And.intro hip2 hip3))
  clear hip1 hip2 hip3
  go_enter Try.func16, Try.ntmps16
  go_upto_region 4 with (fail)
  generalize w.setCell ⟨pb, 0, none⟩ (.int .i64 (L.last + 1)) = W at hS1 ⊢
  have bW := hS1.box 0 rfl
  have c0 := blk_cell bW 0 (.int .i64 (L.last + 1)) rfl
  have c7 := blk_cell bW 7 (.slice a q cap) rfl
  have hpb := heap_lt bW
  have HS := Lib.hid hS1
  have HB := Lib.hid bW
  clear hS1 bW hwr hg
  go_cut [] (fun wx => ∃ a2 cap2, St w0 wx (bx pb ((L.cells a q cap mb).setIfInBounds 0 (.int .i64 (L.last + 1)) |>.setIfInBounds 7 (.slice a2 (q + 1) cap2)) 66 :: sl 68 2 a2 (q + 1) cap2 (ftx (L.queue ++ [⟨L.last + 1, s⟩])) :: mp Try.prog 3 mb L.cnt (fmap L.kept) :: l))
  case first =>
    go_region_law ((refine step_append rfl rfl 68 ip _ 2 24 (by kernel_rfl) HI.out.1 HI.out.2.1 HI.out.2.2.1 HI.out.2.2.2 rfl a q cap (ftx L.queue) (by rfl) ?hv (some ⟨W.heap.size, 0, none⟩) 1 1 (ftx [⟨L.last + 1, s⟩]) (by rfl) ?hs ?h1 ?h63 ?hb ?_
                    case hv => exact (HS.out.slice 1 rfl).mod (S := fun _ => False) (by first | exact ((Mod.refl _ _).alloc _).drew | exact ((Mod.refl _ _).drew).alloc _) (fun _ _ => id)
                    case hs => exact (Sl.new (c := (ftx [⟨L.last + 1, s⟩]).toArray) (by first | exact heap_alloc_new W _ | exact heap_alloc_new W.drew _) rfl (by unfold maxLen; omega)).rd
                    case h1 => exact ftx_one _
                    case h63 => unfold maxLen; omega
                    case hb => omega
                    intro a2 cap2 w2 hS2 hM2 hF2 hN2 hR2
                    have hSA := HS.out.mod (by first | exact ((Mod.refl _ _).alloc (.cells (ftx [⟨L.last + 1, s⟩]).toArray 68)).drew | exact ((Mod.refl _ _).drew).alloc (.cells (ftx [⟨L.last + 1, s⟩]).toArray 68))
                    have hSB := hSA.regrow 1 rfl hS2 hM2 hF2
                    have hb2 := hSB.box 0 rfl
                    have hc2 := blk_cell hb2 7 (.slice a q cap) rfl
                    have hf2 := blk_free hb2 7
                    have hpb2 := heap_lt hb2
                    have HSB := Lib.hid hSB
                    clear hN2 hR2 hb2 hSA hSB hS2))
    all_goals
      (try go_wp2_with fail)
      go_meet
      refine ⟨a2, cap2, ?_⟩
      rw [ftx_append]
      exact HSB.out.set 0 rfl 7 (.slice a2 (q + 1) cap2)
  case rest =>
    obtain ⟨a2, cap2, hC⟩ := hcut
    go_wp2
    go_ret
    have he := HE.out
    unfold Lk.send Lk.sendErr
    rw [if_neg (by rw [he]; simp), if_neg (by rw [he]; simp)]
    refine ⟨rfl, St.relk (L.put s) (a := a2) (cap := cap2) (mb := mb) ?_⟩
    have hl : (L.put s).queue.length = q + 1 := by simp [Lk.put, HQ.out]
    rw [hl]
    exact hC
end Go.Proofs.Ytoeokdachojhjaa
