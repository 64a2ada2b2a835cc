/-
  WireThrough, walked: an entry, and a message that bears it, through bytes and back; cut off, or with more, refused.
  Conditions: both are laid as at most 20000000 bytes.
-/
import Derived.Test.YtmbkbkfcbloafabWireUD
import Derived.Test.YtmbkbkfcbloafabWireLG
import Derived.Deep.Cut
import Derived.Deep.CutBlock
import Derived.Deep.DeepCutAuto
namespace Go.Proofs.Ytmbkbkfcbloafab
open Go.RowKit
set_option linter.unusedSectionVars false
set_option linter.unusedSimpArgs false
set_option linter.unusedVariables false
set_option maxRecDepth 100000

/-- A message that bears one entry. -/
def Msg.bears (m : Msg) (e : Ent) (sb : Nat) : Msg := { m with ents := [e], entsA := some ⟨sb, 0, none⟩, entsC := 1 }
theorem Msg.bears_len (m : Msg) (e : Ent) (sb : Nat) : (m.bears e sb).bytes.length ≤ m.bytes.length + e.bytes.length + 1 := by
  show (numsB [m.kind, m.epoch, m.zxid, m.number, m.session] ++ listB numB m.marks ++ txtB m.data ++ listB Ent.bytes [e] ++ m.q.bytes ++ listB txtB m.ids).length ≤ _
  have h1 : (listB Ent.bytes [e]).length = e.bytes.length + 1 := by
    unfold listB
    rw [show [e].length = 1 from rfl, sevens_small (by omega)]
    simp
  unfold Msg.bytes
  simp only [List.length_append, h1]
  omega
theorem Msg.bears_ok {w w' : World} {m : Msg} {e : Ent} {sb : Nat} (hm : m.ok w) (he : e.ok w) (h : Mod (fun _ => False) w w') (hr : Rd w' 11 (some ⟨sb, 0, none⟩) 1 1 e.cells) : (m.bears e sb).ok w' := by
  have h1 := Msg.okmod hm h
  exact ⟨h1.kind, h1.epoch, h1.zxid, h1.number, h1.session, h1.mrd, h1.mall, by
    show Rd w' 11 (some ⟨sb, 0, none⟩) 1 1 ([e].flatMap Ent.cells)
    rw [List.flatMap_cons, List.flatMap_nil, List.append_nil]; exact hr, fun a ha => by
    have : a ∈ [e] := ha
    rw [List.mem_singleton] at this
    rw [this]; exact Ent.okmod he h, h1.q, h1.ird⟩
theorem mk_data (xs : List UInt8) : (ByteArray.mk xs.toArray).data.toList = xs := by simp
theorem tmod_nat {k n : Nat} : (k : Int).tmod (n : Int) = ((k % n : Nat) : Int) := by
  rw [Int.tmod_eq_emod_of_nonneg (by omega), Int.natCast_emod]

theorem ent_build (e : Ent) : List.foldl (fun (cs : Array Value) (x : Value × Nat) => cs.setIfInBounds x.snd x.fst) #[Value.int IntKind.i64 0, Value.int IntKind.i64 0, Value.int IntKind.i64 0, Value.int IntKind.i64 0, Value.string { data := #[] }, Value.string { data := #[] }, Value.slice none 0 0, Value.int IntKind.i64 0, Value.int IntKind.i64 0, Value.int IntKind.i64 0, Value.slice none 0 0] e.cells.zipIdx = e.cells.toArray := by kernel_rfl

theorem not_empty {S : ByteArray} (h : 0 < S.size) : S.toList.isEmpty = false := by
  rw [ByteArray.toList_eq]
  have : 0 < S.data.toList.length := by rw [toList_size]; exact h
  cases hd : S.data.toList with
  | nil => rw [hd] at this; simp at this
  | cons a l => rfl

/-- What is no such thing is refused. -/
theorem GetG.none {α : Type} {cells : α → List Value} {fine : α → Prop} {things : α → List Thing} {q : RS → RS} {bytes : α → List UInt8} {z : α} {S : ByteArray} {w0 : World} {l : List Thing} {e : Ending} {w' : World}
    (h : GetG cells fine things q bytes z S w0 l e w') (hn : ∀ v, bytes v ≠ S.data.toList) : ∃ cs : List Value, e = .returned (.tuple #[.agg cs.toArray, .int .i64 120]) ∧ cs = cells z ∧ St w0 w' l := by
  obtain ⟨v, E, rfl, H, hS⟩ := h
  rcases H.out.2 with ⟨_, _, h3⟩ | ⟨rfl, _, rfl⟩
  · exact absurd h3 (hn v)
  · exact ⟨_, rfl, rfl, hS.tail⟩

set_option maxHeartbeats 16000000 in
theorem wireThrough_walk (e : Ent) (m : Msg) (cut : Int) (w : World) (he : e.ok w) (hm : m.ok w) (hcut : i64 cut) (hbe : e.bytes.length ≤ 20000000) (hbm : m.bytes.length ≤ 20000000) :
    Calls Try.prog 4 #[.agg e.cells.toArray, .agg m.cells.toArray, .int .i64 cut] w (ValPost (.bool true) w) := by
  have HE := Lib.hid he
  have HM := Lib.hid hm
  have HC := Lib.hid hcut
  have HBE := Lib.hid hbe
  have HBM := Lib.hid hbm
  have hS := ((St.start w).box1 e.cells.toArray 28).box1 m.cells.toArray 37
  rw [World.size_alloc] at hS
  obtain ⟨EC, hEC⟩ : ∃ c, e.cells = c := ⟨_, rfl⟩
  obtain ⟨MC, hMC⟩ : ∃ c, m.cells = c := ⟨_, rfl⟩
  have hEL : EC.length = 11 := by rw [← hEC]; rfl
  have hML : MC.length = 19 := by rw [← hMC]; rfl
  have hE1 : EC.all (·.oneCell') = true := by rw [← hEC]; rfl
  rw [hEC, hMC] at hS ⊢
  have HEC := Lib.hid hEC
  have HMC := Lib.hid hMC
  have HEL := Lib.hid hEL
  have HML := Lib.hid hML
  have HE1 := Lib.hid hE1
  clear he hm hcut hbe hbm hEC hMC hEL hML hE1
  go_enter Try.func4, Try.ntmps4
  go_wp2_with fail
  refine (awake_any _).mono ?_
  rintro x w1 ⟨rfl, hM⟩
  have hS := hS.mod hM
  generalize w.heap.size = eb at *
  obtain ⟨mb, hmb⟩ : ∃ b, eb + 1 = b := ⟨_, rfl⟩
  rw [hmb] at hS ⊢
  clear hM hmb
  have HS := Lib.hid hS
  have c7 : w1.cell? ⟨mb, 7, none⟩ = some (.slice m.entsA m.ents.length m.entsC) := blk_cell (hS.box 0 rfl) 7 _ (by rw [← HMC.out]; rfl)
  have f7 := blk_free (hS.box 0 rfl) 7
  have z7 := heap_lt (hS.box 0 rfl)
  have hSB := (hS.set 0 rfl 7 (.slice (some ⟨w1.heap.size, 0, none⟩) 1 1)).slice1 EC.toArray 28 11 1 (by simp [HEL.out]) (by unfold maxLen; omega)
  rw [World.size_setCell] at hSB
  have HSB := Lib.hid hSB
  clear hS hSB
  have hEL := HEL.out
  go_upto_region 3 with ((with_reducible refine at_list ?_); refine wpList_load_chunk 11 _ Try.underlying28 rfl sizeEnt ⟨eb, 0, none⟩ rfl EC HEL.out (box_chunk (HS.out.box 1 rfl)) ?_)
  clear hEL HS c7 f7 z7
  have hf := ent_build e
  rw [HEC.out] at hf
  rw [hf]
  clear hf
  have hS := HSB.out
  clear HSB
  generalize (w1.setCell ⟨mb, 7, none⟩ (.slice (some ⟨w1.heap.size, 0, none⟩) 1 1)).alloc (.cells EC.toArray 28) = w2 at *
  generalize w1.heap.size = sb at *
  obtain ⟨MB, hMB⟩ : ∃ c, (m.bears e sb).cells = c := ⟨_, rfl⟩
  have hset : MC.toArray.setIfInBounds 7 (.slice (some ⟨sb, 0, none⟩) 1 1) = MB.toArray := by rw [← HMC.out, ← hMB]; rfl
  simp only [List.set_cons_zero, hset] at hS
  have hML2 : MB.length = 19 := by rw [← hMB]; rfl
  have HMB := Lib.hid hMB
  have HML2 := Lib.hid hML2
  have hok2 : (m.bears e sb).ok w2 := Msg.bears_ok HM.out HE.out hS.1 (by have := (hS.slice 0 rfl).rd; rw [HEC.out]; exact this)
  obtain ⟨Bs, hBs⟩ : ∃ B, ByteArray.mk e.bytes.toArray = B := ⟨_, rfl⟩
  obtain ⟨Bt, hBt⟩ : ∃ B, ByteArray.mk (m.bears e sb).bytes.toArray = B := ⟨_, rfl⟩
  have hzs : Bs.data.toList = e.bytes := by rw [← hBs]
  have hzt : Bt.data.toList = (m.bears e sb).bytes := by rw [← hBt]
  have hls : Bs.size = e.bytes.length := by rw [← hzs, toList_size]
  have hlt : Bt.size = (m.bears e sb).bytes.length := by rw [← hzt, toList_size]
  have hns := ent_pos' e
  have hnt : 1 ≤ (m.bears e sb).bytes.length := by
    have := numB_pos' (m.bears e sb).kind
    unfold Msg.bytes
    rw [numsB_cons]
    simp only [List.length_append]
    omega
  have hnb := Msg.bears_len m e sb
  have hes := HBE.out
  have hem := HBM.out
  have CE : Hid (∀ w', Mod (fun _ => False) w2 w' → Calls Try.prog 7 #[.agg EC.toArray] w' (fun x w'' => x = .returned (.string Bs) ∧ Mod (fun _ => False) w' w'')) := Lib.hid fun w' h => by
    have := PutEntry_any e w' (Ent.okmod HE.out (hS.1.then h (fun _ _ h => h))) (by unfold bfits; omega)
    unfold TextPost at this
    rw [hBs, HEC.out] at this; exact this
  have CM : Hid (∀ w', Mod (fun _ => False) w2 w' → Calls Try.prog 8 #[.agg MB.toArray] w' (fun x w'' => x = .returned (.string Bt) ∧ Mod (fun _ => False) w' w'')) := Lib.hid fun w' h => by
    have := PutMessage_any (m.bears e sb) w' (Msg.okmod hok2 h) (by unfold bfits; omega)
    unfold TextPost at this
    rw [hBt, hMB] at this; exact this
  have HSZ : Hid (Bs.data.toList = e.bytes ∧ Bt.data.toList = (m.bears e sb).bytes ∧ 0 < Bs.size ∧ 0 < Bt.size ∧ Bs.size ≤ 20000000 ∧ Bt.size ≤ 40000001) := Lib.hid ⟨hzs, hzt, by omega, by omega, by omega, by omega⟩
  have HOK2 := Lib.hid hok2
  have HS := Lib.hid hS
  have HMM := Lib.hid (Mod.refl (fun _ => False) w2)
  clear hset hMB hML2 hok2 hBs hBt hzs hzt hls hlt hns hnt hnb hes hem hS
  go_upto_region 5 with (first
    | ((with_reducible refine at_list ?_); refine wpList_load_chunk 11 _ Try.underlying28 rfl sizeEnt ⟨eb, 0, none⟩ rfl EC HEL.out (box_chunk (HS.out.box 2 rfl)) ?_)
    | ((with_reducible refine at_list ?_); refine wpList_load_chunk 19 _ Try.underlying37 rfl sizeMsg ⟨mb, 0, none⟩ rfl MB HML2.out (box_chunk (HS.out.box 1 rfl)) ?_)
    | (go_at_call 7; refine (CE.out _ HMM.out).mono ?_; rintro x wz ⟨rfl, hM⟩; have hSn := HS.out.mod hM; have hMn := HMM.out.then hM (fun _ _ h => h); clear HS HMM hM; have HS := Lib.hid hSn; have HMM := Lib.hid hMn; clear hSn hMn)
    | (go_at_call 8; refine (CM.out _ HMM.out).mono ?_; rintro x wz ⟨rfl, hM⟩; have hSn := HS.out.mod hM; have hMn := HMM.out.then hM (fun _ _ h => h); clear HS HMM hM; have HS := Lib.hid hSn; have HMM := Lib.hid hMn; clear hSn hMn))
  have hfs : bfits Bs.size := by have := HSZ.out.2.2.2.2.1; unfold bfits; omega
  have hft : bfits Bt.size := by have := HSZ.out.2.2.2.2.2; unfold bfits; omega
  go_wp2_with fail
  refine (GetEntry_st Bs hfs HS.out).mono ?_
  clear HS HMM
  rintro x w3 ⟨X, f, rfl, HX, hS⟩
  have HS := Lib.hid (hS.box1 #[.int .i64 0, .int .i64 0, .int .i64 0, .int .i64 0, .string ⟨#[]⟩, .string ⟨#[]⟩, .slice none 0 0, .int .i64 0, .int .i64 0, .int .i64 0, .slice none 0 0] 28)
  clear hS
  go_wp2_with ((with_reducible refine at_list ?_); refine wpList_store_whole 11 sizeEnt w3.heap.size rfl _ _ (HS.out.box 0 rfl) rfl X.cells rfl rfl (by kernel_rfl) ?_; intro w4 hg2 hM2 hz2; have hS := HS.out.rebox 0 rfl hg2 hM2; simp only [List.set_cons_zero] at hS; clear HS hg2 hM2 hz2; generalize w3.heap.size = xb at *)
  refine (GetMessage_st Bt hft hS).mono ?_
  clear hS
  rintro x w5 ⟨Y, g, rfl, HY, hS⟩
  have HS := Lib.hid (hS.box1 #[.int .i64 0, .int .i64 0, .int .i64 0, .int .i64 0, .int .i64 0, .slice none 0 0, .string ⟨#[]⟩, .slice none 0 0, .int .i64 0, .int .i64 0, .string ⟨#[]⟩, .string ⟨#[]⟩, .slice none 0 0, .int .i64 0, .int .i64 0, .bool false, .slice none 0 0, .slice none 0 0, .slice none 0 0] 37)
  clear hS hfs hft
  go_upto_region 7 with ((with_reducible refine at_list ?_); refine wpList_store_whole 19 sizeMsg w5.heap.size rfl _ _ (HS.out.box 0 rfl) rfl Y.cells rfl rfl (by kernel_rfl) ?_; intro w6 hg2 hM2 hz2; have hS := HS.out.rebox 0 rfl hg2 hM2; simp only [List.set_cons_zero] at hS; clear HS hg2 hM2 hz2; generalize w5.heap.size = yb at *)
  -- what both are
  have hX : f = 0 ∧ X.bytes = e.bytes ∨ f = 120 := by
    rcases HX.out.2 with ⟨h1, h2, h3⟩ | ⟨h1, _⟩
    · exact .inl ⟨h1, h3.trans HSZ.out.1⟩
    · exact .inr h1
  have hY : (g = 0 ∧ f = 0 ∧ Y.bytes = (m.bears e sb).bytes ∧ ∃ y, Y.ents = [y] ∧ y.bytes = e.bytes) ∨ g = 120 := by
    rcases HY.out.2 with ⟨h1, h2, h3⟩ | ⟨h1, _⟩
    · have h4 : Y.bytes = (m.bears e sb).bytes := h3.trans HSZ.out.2.1
      refine .inl ⟨h1, ?_, h4, ?_⟩
      · have h5 : (m.bears e sb).bytes.length < 18446744073709551616 := by
          rw [← HSZ.out.2.1, toList_size]; have := HSZ.out.2.2.2.2.2; omega
        have h6 := ent_of_msg' HSZ.out.2.1 HOK2.out h5 h2 e (List.mem_singleton.2 rfl)
        rcases HX.out.2 with ⟨h7, _⟩ | ⟨_, h8, _⟩
        · exact h7
        · rw [HSZ.out.1] at h8
          exact absurd h6 h8
      · have h5 : Y.ents.map Ent.bytes = [e.bytes] := msg_ents h4
        obtain ⟨y, hy, hyb⟩ : ∃ y, Y.ents = [y] ∧ y.bytes = e.bytes := by
          cases hE : Y.ents with
          | nil => rw [hE] at h5; simp at h5
          | cons y l =>
            rw [hE] at h5
            simp only [List.map_cons, List.cons.injEq] at h5
            have : l = [] := by have := h5.2; simpa using this
            subst this
            exact ⟨y, rfl, h5.1⟩
        exact ⟨y, hy, hyb⟩
    · exact .inr h1
  have HFG := Lib.hid (And.intro hX hY)
  have HFX := Lib.hid HX.out.1
  have HFY := Lib.hid HY.out.1
  have hse : Bs.toList.isEmpty = false := not_empty HSZ.out.2.2.1
  have hte : Bt.toList.isEmpty = false := not_empty HSZ.out.2.2.2.1
  have HS := Lib.hid hS
  clear hX hY HX HY hS
  go_cut [57] (fun c wx => c = .bool false ∧ wx = w6)
  case first =>
    rcases HFG.out.1 with ⟨rfl, -⟩ | rfl <;> rcases HFG.out.2 with ⟨rfl, h2, -⟩ | rfl
    · go_wp2
      go_meet
      exact ⟨rfl, rfl⟩
    · go_wp2
      go_meet
      exact ⟨rfl, rfl⟩
    · exact absurd h2 (by omega)
    · go_wp2
      go_meet
      exact ⟨rfl, rfl⟩
  case rest =>
    obtain ⟨rfl, rfl⟩ := hcut
    clear hse hte
    go_upto_region 9 with fail
    have hSS : (Bs.toList == Bs.toList) = true := by simp
    have hTT : (Bt.toList == Bt.toList) = true := by simp
    obtain ⟨XC, hXC⟩ : ∃ c, X.cells = c := ⟨_, rfl⟩
    obtain ⟨YC, hYC⟩ : ∃ c, Y.cells = c := ⟨_, rfl⟩
    have HXC := Lib.hid hXC
    have HYC := Lib.hid hYC
    have HXL : Hid (XC.length = 11) := Lib.hid (by rw [← hXC]; rfl)
    have HYL : Hid (YC.length = 19) := Lib.hid (by rw [← hYC]; rfl)
    have hS := HS.out
    rw [hXC, hYC] at hS
    clear HS hXC hYC
    have HS := Lib.hid hS
    clear hS
    go_cut [90] (fun c wx => c = .bool false ∧ Mod (fun _ => False) w wx)
    case first =>
      have HMM := Lib.hid (Mod.refl (fun _ => False) wc)
      have CX : Hid (f = 0 → ∀ w', Mod (fun _ => False) wc w' → Calls Try.prog 7 #[.agg XC.toArray] w' (fun x w'' => x = .returned (.string Bs) ∧ Mod (fun _ => False) w' w'')) := Lib.hid fun h0 w' h => by
        have hb : X.bytes = Bs.data.toList := by
          rcases HFG.out.1 with ⟨_, h⟩ | h
          · rw [h]; exact HSZ.out.1.symm
          · omega
        have := PutEntry_any X w' (Ent.okmod (Ent.okL HFX.out (HS.out.lies (by simp))) h) (by rw [hb, toList_size]; have := HSZ.out.2.2.2.2.1; unfold bfits; omega)
        unfold TextPost at this
        rw [hb, mk_toList, HXC.out] at this
        exact this
      rcases HFG.out.1 with ⟨rfl, -⟩ | rfl <;> rcases HFG.out.2 with ⟨rfl, h2, hyb, y, hye, hyy⟩ | rfl
      · clear h2
        have TX := Lib.hid trivial
        have TY := Lib.hid trivial
        have Ty := Lib.hid trivial
        have hyok : Y.ok wc := Msg.okL HFY.out (HS.out.lies (by simp))
        have CY : Hid (∀ w', Mod (fun _ => False) wc w' → Calls Try.prog 8 #[.agg YC.toArray] w' (fun x w'' => x = .returned (.string Bt) ∧ Mod (fun _ => False) w' w'')) := Lib.hid fun w' h => by
          have hb : Y.bytes = Bt.data.toList := hyb.trans HSZ.out.2.1.symm
          have := PutMessage_any Y w' (Msg.okmod hyok h) (by rw [hb, toList_size]; have := HSZ.out.2.2.2.2.2; unfold bfits; omega)
          unfold TextPost at this
          rw [hb, mk_toList, HYC.out] at this
          exact this
        have Cy : Hid (∀ w', Mod (fun _ => False) wc w' → Calls Try.prog 7 #[.agg y.cells.toArray] w' (fun x w'' => x = .returned (.string Bs) ∧ Mod (fun _ => False) w' w'')) := Lib.hid fun w' h => by
          have hb : y.bytes = Bs.data.toList := hyy.trans HSZ.out.1.symm
          have := PutEntry_any y w' (Ent.okmod (hyok.eall y (by rw [hye]; simp)) h) (by rw [hb, toList_size]; have := HSZ.out.2.2.2.2.1; unfold bfits; omega)
          unfold TextPost at this
          rw [hb, mk_toList] at this
          exact this
        have hrd := hyok.erd
        have hrd2 : Rd wc 11 Y.entsA Y.ents.length Y.entsC ([y].flatMap Ent.cells) := by rw [← hye]; exact hrd
        have hl1 : Y.ents.length = 1 := by rw [hye]; rfl
        rw [hl1] at hrd2
        obtain ⟨b, o, hae, hbl, hc⟩ := hrd2.elem (k := 11) Ent.cells (fun _ => rfl) (by omega) (i := 0) (x := y) rfl
        have H7 : Hid (YC.toArray[7]? = some (.slice (some ⟨b, o, none⟩) 1 Y.entsC)) := Lib.hid (by
          rw [← HYC.out, ← hl1, ← hae]; rfl)
        have HCy : Hid (∀ j u, (y.cells[j]? = some u) → wc.cell? ((⟨b, o, none⟩ : Addr).add j) = some u) := Lib.hid (fun j u hj => by
          rw [add_none]; have := hc j u hj; simpa using this)
        clear hyok hyb hye hyy hrd hrd2 hl1 hae hc
        go_wp2_with (first
          | ((with_reducible refine at_list ?_); clear TX; refine wpList_load_chunkG 11 _ Try.underlying28 rfl sizeEnt ⟨xb, 0, none⟩ rfl XC HXL.out (box_chunk (HS.out.box 2 rfl)) (by rfl) ?_)
          | ((with_reducible refine at_list ?_); clear TY; refine wpList_load_chunkG 19 _ Try.underlying37 rfl sizeMsg ⟨yb, 0, none⟩ rfl YC HYL.out (box_chunk (HS.out.box 0 rfl)) (by rfl) ?_)
          | ((with_reducible refine at_list ?_); clear Ty; refine wpList_load_chunkG 11 _ Try.underlying28 rfl sizeEnt ⟨b, o, none⟩ rfl y.cells rfl (fun j u hj => HMM.out.cell (HCy.out j u hj) id) (by rfl) ?_)
          | (go_at_call 7; refine (CX.out (by trivial) _ HMM.out).mono ?_; rintro x wz ⟨rfl, hM⟩; have hSn := HS.out.mod hM; have hMn := HMM.out.then hM (fun _ _ h => h); clear HS HMM hM CX; have HS := Lib.hid hSn; have HMM := Lib.hid hMn; clear hSn hMn)
          | (go_at_call 7; refine (Cy.out _ HMM.out).mono ?_; rintro x wz ⟨rfl, hM⟩; have hSn := HS.out.mod hM; have hMn := HMM.out.then hM (fun _ _ h => h); clear HS HMM hM Cy; have HS := Lib.hid hSn; have HMM := Lib.hid hMn; clear hSn hMn)
          | (go_at_call 8; refine (CY.out _ HMM.out).mono ?_; rintro x wz ⟨rfl, hM⟩; have hSn := HS.out.mod hM; have hMn := HMM.out.then hM (fun _ _ h => h); clear HS HMM hM CY; have HS := Lib.hid hSn; have HMM := Lib.hid hMn; clear hSn hMn; have c7 := blk_cell (HS.out.box 0 rfl) 7 _ H7.out; have z7 := heap_lt (HS.out.box 0 rfl); have zb := Nat.lt_of_lt_of_le hbl HMM.out.size))
        go_meet
        exact ⟨rfl, HS.out.1⟩
      · have TX := Lib.hid trivial
        go_wp2_with (first
          | ((with_reducible refine at_list ?_); clear TX; refine wpList_load_chunkG 11 _ Try.underlying28 rfl sizeEnt ⟨xb, 0, none⟩ rfl XC HXL.out (box_chunk (HS.out.box 2 rfl)) (by rfl) ?_)
          | (go_at_call 7; refine (CX.out (by trivial) _ HMM.out).mono ?_; rintro x wz ⟨rfl, hM⟩; have hSn := HS.out.mod hM; have hMn := HMM.out.then hM (fun _ _ h => h); clear HS HMM hM; have HS := Lib.hid hSn; have HMM := Lib.hid hMn; clear hSn hMn))
        go_meet
        exact ⟨rfl, HS.out.1⟩
      · exact absurd h2 (by omega)
      · go_wp2
        go_meet
        exact ⟨rfl, HS.out.1⟩
    case rest =>
      obtain ⟨rfl, hM⟩ := hcut
      clear HS HXC HYC HXL HYL hSS hTT
      go_upto_region 11 with fail
      have h0 := HC.out.1
      have h1 := HC.out.2
      have hS := St.begin hM
      have hNS : ∀ k, k < Bs.size → ∀ v : Ent, v.bytes ≠ (Bs.extract 0 k).data.toList := fun k hk v hv => by
        refine cut_off ud_ent (x := e) (v := v) (k := k) (by have h2 := congrArg List.length HSZ.out.1; rw [toList_size] at h2; omega) ?_
        rw [hv, ← HSZ.out.1]
        simp
      have hNT : ∀ k, k < Bt.size → ∀ v : Msg, v.bytes ≠ (Bt.extract 0 k).data.toList := fun k hk v hv => by
        refine cut_off ud_msg (x := m.bears e sb) (v := v) (k := k) (by have h2 := congrArg List.length HSZ.out.2.1; rw [toList_size] at h2; omega) ?_
        rw [hv, ← HSZ.out.2.1]
        simp
      have HNS := Lib.hid hNS
      have HNT := Lib.hid hNT
      have HS := Lib.hid hS
      clear hM hS hNS hNT
      go_upto_if 92 with fail
      go_cut [2] (fun c wx => ∃ k : Nat, c = .int .i64 k ∧ k ≤ 9223372036854775807 ∧ wx = wc)
      case first =>
        by_cases hc : cut < 0
        · go_wp2
          go_meet
          exact ⟨(-(cut + 1)).toNat, by rw [Int.toNat_of_nonneg (by omega)], by omega, rfl⟩
        · go_wp2
          go_meet
          exact ⟨cut.toNat, by rw [Int.toNat_of_nonneg (by omega)], by omega, rfl⟩
      case rest =>
        obtain ⟨k, rfl, hk, rfl⟩ := hcut
        clear h0 h1
        apply_assumption
        have hzs := HSZ.out.2.2.1
        have hzt := HSZ.out.2.2.2.1
        have hms := HSZ.out.2.2.2.2.1
        have hmt := HSZ.out.2.2.2.2.2
        obtain ⟨zs, hs⟩ : ∃ z, Bs.size = z := ⟨_, rfl⟩
        obtain ⟨zt, ht⟩ : ∃ z, Bt.size = z := ⟨_, rfl⟩
        rw [hs] at hzs hms
        rw [ht] at hzt hmt
        have HZS := Lib.hid hs
        have HZT := Lib.hid ht
        obtain ⟨r, hr⟩ : ∃ r, k % zs = r := ⟨_, rfl⟩
        have hrz : r < zs := by rw [← hr]; exact Nat.mod_lt _ hzs
        have hrem : (k : Int) % (zs : Int) = (r : Int) := by rw [← hr, Int.natCast_emod]
        obtain ⟨q, hq⟩ : ∃ q, k % zt = q := ⟨_, rfl⟩
        have hqz : q < zt := by rw [← hq]; exact Nat.mod_lt _ hzt
        have hqem : (k : Int) % (zt : Int) = (q : Int) := by rw [← hq, Int.natCast_emod]
        clear hr hq
        go_wp2_with fail
        refine (GetEntry_st (Bs.extract 0 r) (by unfold bfits; rw [ByteArray.size_extract]; omega) HS.out).mono ?_
        rintro x v1 hG
        obtain ⟨cs, rfl, hcs, hS⟩ := hG.none (HNS.out r (by omega))
        clear HS hG
        have HS := Lib.hid (hS.box1 #[.int .i64 0, .int .i64 0, .int .i64 0, .int .i64 0, .string ⟨#[]⟩, .string ⟨#[]⟩, .slice none 0 0, .int .i64 0, .int .i64 0, .int .i64 0, .slice none 0 0] 28)
        have hcl : cs.length = 11 := by rw [hcs]; rfl
        have hc1 : cs.all (·.oneCell') = true := by rw [hcs]; rfl
        have HCL := Lib.hid (And.intro hcl hc1)
        clear hS hcs hcl hc1
        go_wp2_with ((with_reducible refine at_list ?_); refine wpList_store_whole 11 sizeEnt v1.heap.size rfl _ _ (HS.out.box 0 rfl) rfl cs rfl HCL.out.1 HCL.out.2 ?_; intro v2 hg2 hM2 hz2; have hS := (HS.out.rebox 0 rfl hg2 hM2).tail; have HSn := Lib.hid hS; clear hg2 hM2 hz2 HS HCL hS; have HS := HSn; clear HSn)
        generalize hS2 : Bs ++ _ = S2
        have hd2 : S2.data.toList = e.bytes ++ [0] := by rw [← hS2, ← HSZ.out.1]; simp
        have hz2 : bfits S2.size := by rw [← toList_size, hd2, ← HSZ.out.1, List.length_append, toList_size]; unfold bfits; simp; omega
        have hn2 : ∀ v : Ent, v.bytes ≠ S2.data.toList := fun v hv => more_on ud_ent (x := e) (v := v) (b := 0) (hv.trans hd2)
        clear hS2 hd2
        refine (GetEntry_st S2 hz2 HS.out).mono ?_
        rintro x v1 hG
        obtain ⟨cs, rfl, hcs, hS⟩ := hG.none hn2
        clear hz2 hn2
        clear HS hG
        have HS := Lib.hid (hS.box1 #[.int .i64 0, .int .i64 0, .int .i64 0, .int .i64 0, .string ⟨#[]⟩, .string ⟨#[]⟩, .slice none 0 0, .int .i64 0, .int .i64 0, .int .i64 0, .slice none 0 0] 28)
        have hcl : cs.length = 11 := by rw [hcs]; rfl
        have hc1 : cs.all (·.oneCell') = true := by rw [hcs]; rfl
        have HCL := Lib.hid (And.intro hcl hc1)
        clear hS hcs hcl hc1
        go_wp2_with ((with_reducible refine at_list ?_); refine wpList_store_whole 11 sizeEnt v1.heap.size rfl _ _ (HS.out.box 0 rfl) rfl cs rfl HCL.out.1 HCL.out.2 ?_; intro v2 hg2 hM2 hz2; have hS := (HS.out.rebox 0 rfl hg2 hM2).tail; have HSn := Lib.hid hS; clear hg2 hM2 hz2 HS HCL hS; have HS := HSn; clear HSn)
        refine (GetMessage_st (Bt.extract 0 q) (by unfold bfits; rw [ByteArray.size_extract]; omega) HS.out).mono ?_
        rintro x v1 hG
        obtain ⟨cs, rfl, hcs, hS⟩ := hG.none (HNT.out q (by omega))
        clear HS hG
        have HS := Lib.hid (hS.box1 #[.int .i64 0, .int .i64 0, .int .i64 0, .int .i64 0, .int .i64 0, .slice none 0 0, .string ⟨#[]⟩, .slice none 0 0, .int .i64 0, .int .i64 0, .string ⟨#[]⟩, .string ⟨#[]⟩, .slice none 0 0, .int .i64 0, .int .i64 0, .bool false, .slice none 0 0, .slice none 0 0, .slice none 0 0] 37)
        have hcl : cs.length = 19 := by rw [hcs]; rfl
        have hc1 : cs.all (·.oneCell') = true := by rw [hcs]; rfl
        have HCL := Lib.hid (And.intro hcl hc1)
        clear hS hcs hcl hc1
        go_wp2_with ((with_reducible refine at_list ?_); refine wpList_store_whole 19 sizeMsg v1.heap.size rfl _ _ (HS.out.box 0 rfl) rfl cs rfl HCL.out.1 HCL.out.2 ?_; intro v2 hg2 hM2 hz2; have hS := (HS.out.rebox 0 rfl hg2 hM2).tail; have HSn := Lib.hid hS; clear hg2 hM2 hz2 HS HCL hS; have HS := HSn; clear HSn)
        generalize hS2 : Bt ++ _ = S3
        have hd2 : S3.data.toList = (m.bears e sb).bytes ++ [1] := by rw [← hS2, ← HSZ.out.2.1]; simp
        have hz2 : bfits S3.size := by rw [← toList_size, hd2, ← HSZ.out.2.1, List.length_append, toList_size]; unfold bfits; simp; omega
        have hn2 : ∀ v : Msg, v.bytes ≠ S3.data.toList := fun v hv => more_on ud_msg (x := m.bears e sb) (v := v) (b := 1) (hv.trans hd2)
        clear hS2 hd2
        refine (GetMessage_st S3 hz2 HS.out).mono ?_
        rintro x v1 hG
        obtain ⟨cs, rfl, hcs, hS⟩ := hG.none hn2
        clear hz2 hn2
        clear HS hG
        have HS := Lib.hid (hS.box1 #[.int .i64 0, .int .i64 0, .int .i64 0, .int .i64 0, .int .i64 0, .slice none 0 0, .string ⟨#[]⟩, .slice none 0 0, .int .i64 0, .int .i64 0, .string ⟨#[]⟩, .string ⟨#[]⟩, .slice none 0 0, .int .i64 0, .int .i64 0, .bool false, .slice none 0 0, .slice none 0 0, .slice none 0 0] 37)
        have hcl : cs.length = 19 := by rw [hcs]; rfl
        have hc1 : cs.all (·.oneCell') = true := by rw [hcs]; rfl
        have HCL := Lib.hid (And.intro hcl hc1)
        clear hS hcs hcl hc1
        go_wp2_with ((with_reducible refine at_list ?_); refine wpList_store_whole 19 sizeMsg v1.heap.size rfl _ _ (HS.out.box 0 rfl) rfl cs rfl HCL.out.1 HCL.out.2 ?_; intro v2 hg2 hM2 hz2; have hS := (HS.out.rebox 0 rfl hg2 hM2).tail; have HSn := Lib.hid hS; clear hg2 hM2 hz2 HS HCL hS; have HS := HSn; clear HSn)
        go_ret
        exact ⟨rfl, HS.out.1⟩
end Go.Proofs.Ytmbkbkfcbloafab
