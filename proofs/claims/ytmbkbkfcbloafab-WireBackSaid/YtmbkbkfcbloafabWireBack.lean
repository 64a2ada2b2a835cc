/-
  WireBack, walked: what any bytes are read as is laid as these bytes.
  Conditions: the text's size, as it comes in.
-/
import Derived.Test.YtmbkbkfcbloafabWireLG
import Derived.Test.YtmbkbkfcbloafabWireRp
import Derived.Test.YtmbkbkfcbloafabWireS3
import Derived.Test.YtmbkbkfcbloafabJbase
import Derived.Deep.Cut
import Derived.Deep.CutBlock
import Derived.Deep.DeepCutAuto
namespace Go.Proofs.Ytmbkbkfcbloafab
open Go.ChangeShapes Go.WideShapes Go.ChangeAt Go.RowKit Go.Deep
set_option linter.unusedSectionVars false
set_option linter.unusedSimpArgs false
set_option linter.unusedVariables false
set_option maxRecDepth 100000

theorem Ans.okL {w0 w : World} {x : Ans} (hx : x.fine) (hl : ∀ t ∈ Ans.things x, Lies w0 w t) : x.ok w :=
  ⟨hx.1, hx.2.1, hx.2.2.1, hx.2.2.2.1, hx.2.2.2.2.1, hx.2.2.2.2.2.1, hx.2.2.2.2.2.2.1, hx.2.2.2.2.2.2.2.1, hx.2.2.2.2.2.2.2.2.1, hx.2.2.2.2.2.2.2.2.2.1, hx.2.2.2.2.2.2.2.2.2.2.1, hx.2.2.2.2.2.2.2.2.2.2.2.1, (hl (sl 146 2 x.aclA x.acl.length x.aclC (x.acl.flatMap Acl.cells)) (by simp [Ans.things])).rd, (fun a ha => hx.2.2.2.2.2.2.2.2.2.2.2.2.1.1 a ha), (hl (sl 9 1 x.kidsA x.kids.length x.kidsC (x.kids.flatMap strC)) (by simp [Ans.things])).rd⟩
theorem Rep.okL {w0 w : World} {x : Rep} (hx : x.fine) (hl : Lies w0 w (grp (Rep.things x))) : x.ok w where
  p := Ans.okL hx.1 fun t ht => hl.grp (List.mem_append_left _ ht)
  n := hx.2.1
  rd := by
    have := (hl.grp (t := sl 53 17 x.p.subsA x.p.subsN x.p.subsC (x.subs.flatMap Ans.cells)) (by simp [Rep.things])).rd
    rw [hx.2.1] at this; exact this
  all := fun a ha => Ans.okL (hx.2.2.1 a ha) fun t ht => by
    have h1 := hl.grp (t := grp (x.subs.map fun x => grp (Ans.things x))) (by simp [Rep.things])
    exact (h1.grp (List.mem_map.2 ⟨a, ha, rfl⟩)).grp ht

set_option maxHeartbeats 16000000 in
theorem wireBack_walk (S : ByteArray) (hf : bfits (S.size + 1000)) (w : World) : Calls Try.prog 5 #[.string S] w (ValPost (.bool true) w) := by
  have HF := Lib.hid hf
  have HFS := Lib.hid (hf.mono (show S.size ≤ S.size + 1000 by omega))
  clear hf
  go_enter Try.func5, Try.ntmps5
  go_wp2_with fail
  refine (awake_any _).mono ?_
  rintro e w0 ⟨rfl, hM⟩
  have hS := St.begin hM
  clear hM
  go_wp2_with fail
  refine (GetEntry_st S HFS.out hS).mono ?_
  clear hS
  rintro e w1 ⟨av, aE, rfl, aH, hS⟩
  have HS := Lib.hid (hS.box1 #[.int .i64 0, .int .i64 0, .int .i64 0, .int .i64 0, .string ⟨#[]⟩, .string ⟨#[]⟩, .slice none 0 0, .int .i64 0, .int .i64 0, .int .i64 0, .slice none 0 0] 28)
  clear hS
  go_wp2_with ((with_reducible refine at_list ?_); refine wpList_store_whole 11 sizeEnt w1.heap.size rfl _ _ (HS.out.box 0 rfl) rfl av.cells rfl rfl (by kernel_rfl) ?_; intro w2 hg2 hM2 hz2; have hS := HS.out.rebox 0 rfl hg2 hM2; simp only [List.set_cons_zero] at hS; clear HS hg2 hM2 hz2; generalize w1.heap.size = ab at *)
  go_wp2_with fail
  refine (GetRequest_st S HFS.out hS).mono ?_
  clear hS
  rintro e w1 ⟨bv, bE, rfl, bH, hS⟩
  have HS := Lib.hid (hS.box1 #[.int .i64 0, .int .i64 0, .string ⟨#[]⟩, .string ⟨#[]⟩, .slice none 0 0, .int .i64 0, .int .i64 0, .bool false, .slice none 0 0, .slice none 0 0] 34)
  clear hS
  go_wp2_with ((with_reducible refine at_list ?_); refine wpList_store_whole 10 sizeOp w1.heap.size rfl _ _ (HS.out.box 0 rfl) rfl bv.cells rfl rfl (by kernel_rfl) ?_; intro w2 hg2 hM2 hz2; have hS := HS.out.rebox 0 rfl hg2 hM2; simp only [List.set_cons_zero] at hS; clear HS hg2 hM2 hz2; generalize w1.heap.size = bb at *)
  go_wp2_with fail
  refine (GetReply_st S HFS.out hS).mono ?_
  clear hS
  rintro e w1 ⟨cv, cE, rfl, cH, hS⟩
  have HS := Lib.hid (hS.box1 #[.int .i64 0, .int .i64 0, .int .i64 0, .string ⟨#[]⟩, .string ⟨#[]⟩, .int .i64 0, .int .i64 0, .int .i64 0, .int .i64 0, .int .i64 0, .int .i64 0, .int .i64 0, .int .i64 0, .int .i64 0, .slice none 0 0, .slice none 0 0, .slice none 0 0] 53)
  clear hS
  go_wp2_with ((with_reducible refine at_list ?_); refine wpList_store_whole 17 sizeAns w1.heap.size rfl _ _ (HS.out.box 0 rfl) rfl cv.cells rfl rfl (by kernel_rfl) ?_; intro w2 hg2 hM2 hz2; have hS := HS.out.rebox 0 rfl hg2 hM2; simp only [List.set_cons_zero] at hS; clear HS hg2 hM2 hz2; generalize w1.heap.size = cb at *)
  go_wp2_with fail
  refine (GetMessage_st S HFS.out hS).mono ?_
  clear hS
  rintro e w1 ⟨dv, dE, rfl, dH, hS⟩
  have HS := Lib.hid (hS.box1 #[.int .i64 0, .int .i64 0, .int .i64 0, .int .i64 0, .int .i64 0, .slice none 0 0, .string ⟨#[]⟩, .slice none 0 0, .int .i64 0, .int .i64 0, .string ⟨#[]⟩, .string ⟨#[]⟩, .slice none 0 0, .int .i64 0, .int .i64 0, .bool false, .slice none 0 0, .slice none 0 0, .slice none 0 0] 37)
  clear hS
  go_wp2_with ((with_reducible refine at_list ?_); refine wpList_store_whole 19 sizeMsg w1.heap.size rfl _ _ (HS.out.box 0 rfl) rfl dv.cells rfl rfl (by kernel_rfl) ?_; intro w2 hg2 hM2 hz2; have hS := HS.out.rebox 0 rfl hg2 hM2; simp only [List.set_cons_zero] at hS; clear HS hg2 hM2 hz2; generalize w1.heap.size = db at *)
  refine (GetEvent_any S HFS.out _).mono ?_
  rintro e w1 ⟨rfl, hM⟩
  have HS := Lib.hid ((hS.mod hM).box1 #[.int .i64 0, .string ⟨#[]⟩, .int .i64 0] 57)
  clear hS hM
  have iH := Lib.hid (gEv_back S)
  generalize gEv S = ir at *
  obtain ⟨iv, iE⟩ := ir
  go_wp2_with ((with_reducible refine at_list ?_); refine wpList_store_whole 3 sizeEv w1.heap.size rfl _ _ (HS.out.box 0 rfl) rfl iv.cells rfl rfl (by kernel_rfl) ?_; intro w2 hg2 hM2 hz2; have hS := HS.out.rebox 0 rfl hg2 hM2; simp only [List.set_cons_zero] at hS; clear HS hg2 hM2 hz2; generalize w1.heap.size = ib at *)
  refine (GetHello_any S HFS.out _).mono ?_
  rintro e w1 ⟨rfl, hM⟩
  have HS := Lib.hid ((hS.mod hM).box1 #[.int .i64 0, .int .i64 0, .int .i64 0, .string ⟨#[]⟩] 61)
  clear hS hM
  have kH := Lib.hid (gHe_back S)
  generalize gHe S = kr at *
  obtain ⟨kv, kE⟩ := kr
  go_wp2_with ((with_reducible refine at_list ?_); refine wpList_store_whole 4 sizeHe w1.heap.size rfl _ _ (HS.out.box 0 rfl) rfl kv.cells rfl rfl (by kernel_rfl) ?_; intro w2 hg2 hM2 hz2; have hS := HS.out.rebox 0 rfl hg2 hM2; simp only [List.set_cons_zero] at hS; clear HS hg2 hM2 hz2; generalize w1.heap.size = kb at *)
  refine (GetNote_any S HFS.out _).mono ?_
  rintro e w1 ⟨rfl, hM⟩
  have HS := Lib.hid ((hS.mod hM).box1 #[.int .i64 0, .int .i64 0, .int .i64 0, .int .i64 0, .int .i64 0, .int .i64 0] 65)
  clear hS hM
  have mH := Lib.hid (gNo_back S)
  generalize gNo S = mr at *
  obtain ⟨mv, mE⟩ := mr
  go_upto_region 9 with ((with_reducible refine at_list ?_); refine wpList_store_whole 6 sizeNo w1.heap.size rfl _ _ (HS.out.box 0 rfl) rfl mv.cells rfl rfl (by kernel_rfl) ?_; intro w2 hg2 hM2 hz2; have hS := HS.out.rebox 0 rfl hg2 hM2; simp only [List.set_cons_zero] at hS; clear HS hg2 hM2 hz2; generalize w1.heap.size = mb at *)
  have aB : aE = 0 → av.bytes = S.data.toList := fun h0 => by
    rcases aH.out.2 with h | h
    · exact h.2.2
    · have := h.1; (try simp only at this); omega
  have aZ : Hid ((aE = 0 ∧ Hid True) ∨ aE = 120) := by
    rcases aH.out.2 with h | h
    · exact .inl ⟨h.1, Lib.hid trivial⟩
    · exact .inr h.1
  have aP : Hid (aE = 0 → ∀ w', Mod (fun _ => False) w2 w' → Calls Try.prog 7 #[.agg av.cells.toArray] w' (fun e w'' => e = .returned (.string S) ∧ Mod (fun _ => False) w' w'')) := Lib.hid fun h0 w' hM => by
    have h := PutEntry_any av w' (Ent.okmod (Ent.okL aH.out.1 (hS.lies (by simp))) hM) (by rw [aB h0, toList_size]; exact HF.out.mono (by omega))
    rw [aB h0] at h
    unfold TextPost at h
    rw [mk_toList] at h
    exact h
  have aL : Hid (av.cells.length = 11) := Lib.hid rfl
  clear aB
  have bB : bE = 0 → bv.bytes = S.data.toList := fun h0 => by
    rcases bH.out.2 with h | h
    · exact h.2.2
    · have := h.1; (try simp only at this); omega
  have bZ : Hid ((bE = 0 ∧ Hid True) ∨ bE = 120) := by
    rcases bH.out.2 with h | h
    · exact .inl ⟨h.1, Lib.hid trivial⟩
    · exact .inr h.1
  have bP : Hid (bE = 0 → ∀ w', Mod (fun _ => False) w2 w' → Calls Try.prog 16 #[.agg bv.cells.toArray] w' (fun e w'' => e = .returned (.string S) ∧ Mod (fun _ => False) w' w'')) := Lib.hid fun h0 w' hM => by
    have h := PutRequest_any bv w' (Req.okmod (Req.okL bH.out.1 (hS.lies (by simp))) hM) (by rw [bB h0, toList_size]; exact HF.out.mono (by omega))
    rw [bB h0] at h
    unfold TextPost at h
    rw [mk_toList] at h
    exact h
  have bL : Hid (bv.cells.length = 10) := Lib.hid rfl
  clear bB
  have cB : cE = 0 → cv.bytes = S.data.toList := fun h0 => by
    rcases cH.out.2 with h | h
    · exact h.2.2
    · have := h.1; (try simp only at this); omega
  have cZ : Hid ((cE = 0 ∧ Hid True) ∨ cE = 120) := by
    rcases cH.out.2 with h | h
    · exact .inl ⟨h.1, Lib.hid trivial⟩
    · exact .inr h.1
  have cP : Hid (cE = 0 → ∀ w', Mod (fun _ => False) w2 w' → Calls Try.prog 17 #[.agg cv.cells.toArray] w' (fun e w'' => e = .returned (.string S) ∧ Mod (fun _ => False) w' w'')) := Lib.hid fun h0 w' hM => by
    have h := PutReply_any cv w' (Rep.okmod (Rep.okL cH.out.1 (hS.lies (by simp))) hM) (by rw [cB h0, toList_size]; exact HF.out.mono (by omega))
    rw [cB h0] at h
    unfold TextPost at h
    rw [mk_toList] at h
    exact h
  have cL : Hid (cv.cells.length = 17) := Lib.hid rfl
  clear cB
  have dB : dE = 0 → dv.bytes = S.data.toList := fun h0 => by
    rcases dH.out.2 with h | h
    · exact h.2.2
    · have := h.1; (try simp only at this); omega
  have dZ : Hid ((dE = 0 ∧ Hid True) ∨ dE = 120) := by
    rcases dH.out.2 with h | h
    · exact .inl ⟨h.1, Lib.hid trivial⟩
    · exact .inr h.1
  have dP : Hid (dE = 0 → ∀ w', Mod (fun _ => False) w2 w' → Calls Try.prog 8 #[.agg dv.cells.toArray] w' (fun e w'' => e = .returned (.string S) ∧ Mod (fun _ => False) w' w'')) := Lib.hid fun h0 w' hM => by
    have h := PutMessage_any dv w' (Msg.okmod (Msg.okL dH.out.1 (hS.lies (by simp))) hM) (by rw [dB h0, toList_size]; exact HF.out.mono (by omega))
    rw [dB h0] at h
    unfold TextPost at h
    rw [mk_toList] at h
    exact h
  have dL : Hid (dv.cells.length = 19) := Lib.hid rfl
  clear dB
  have iB : iE = 0 → iv.bytes = S.data.toList := fun h0 => by
    rcases iH.out with h | h
    · exact h.2.1
    · have := h; (try simp only at this); omega
  have iZ : Hid ((iE = 0 ∧ Hid True) ∨ iE = 120) := by
    rcases iH.out with h | h
    · exact .inl ⟨h.1, Lib.hid trivial⟩
    · exact .inr h
  have iP : Hid (iE = 0 → ∀ w', Mod (fun _ => False) w2 w' → Calls Try.prog 18 #[.agg iv.cells.toArray] w' (fun e w'' => e = .returned (.string S) ∧ Mod (fun _ => False) w' w'')) := Lib.hid fun h0 w' hM => by
    have h := PutEvent_any iv (by exact ((iH.out).resolve_right (by (try simp only); omega)).2.2) w'
    rw [iB h0] at h
    unfold TextPost at h
    rw [mk_toList] at h
    exact h
  have iL : Hid (iv.cells.length = 3) := Lib.hid rfl
  clear iB
  have kB : kE = 0 → kv.bytes = S.data.toList := fun h0 => by
    rcases kH.out with h | h
    · exact h.2.1
    · have := h; (try simp only at this); omega
  have kZ : Hid ((kE = 0 ∧ Hid True) ∨ kE = 120) := by
    rcases kH.out with h | h
    · exact .inl ⟨h.1, Lib.hid trivial⟩
    · exact .inr h
  have kP : Hid (kE = 0 → ∀ w', Mod (fun _ => False) w2 w' → Calls Try.prog 19 #[.agg kv.cells.toArray] w' (fun e w'' => e = .returned (.string S) ∧ Mod (fun _ => False) w' w'')) := Lib.hid fun h0 w' hM => by
    have h := PutHello_any kv (by exact ((kH.out).resolve_right (by (try simp only); omega)).2.2) w'
    rw [kB h0] at h
    unfold TextPost at h
    rw [mk_toList] at h
    exact h
  have kL : Hid (kv.cells.length = 4) := Lib.hid rfl
  clear kB
  have mB : mE = 0 → mv.bytes = S.data.toList := fun h0 => by
    rcases mH.out with h | h
    · exact h.2.1
    · have := h; (try simp only at this); omega
  have mZ : Hid ((mE = 0 ∧ Hid True) ∨ mE = 120) := by
    rcases mH.out with h | h
    · exact .inl ⟨h.1, Lib.hid trivial⟩
    · exact .inr h
  have mP : Hid (mE = 0 → ∀ w', Mod (fun _ => False) w2 w' → Calls Try.prog 20 #[.agg mv.cells.toArray] w' (fun e w'' => e = .returned (.string S) ∧ Mod (fun _ => False) w' w'')) := Lib.hid fun h0 w' hM => by
    have h := PutNote_any mv (by exact ((mH.out).resolve_right (by (try simp only); omega)).2.2) w'
    rw [mB h0] at h
    unfold TextPost at h
    rw [mk_toList] at h
    exact h
  have mL : Hid (mv.cells.length = 6) := Lib.hid rfl
  clear mB
  clear aH bH cH dH iH kH mH
  generalize av.cells = aC at hS aP aL
  generalize bv.cells = bC at hS bP bL
  generalize cv.cells = cC at hS cP cL
  generalize dv.cells = dC at hS dP dL
  generalize iv.cells = iC at hS iP iL
  generalize kv.cells = kC at hS kP kL
  generalize mv.cells = mC at hS mP mL
  have HS := Lib.hid hS
  have hSS : (S.toList == S.toList) = true := by simp
  clear hS
  
  go_cut [18] (fun c wx => c = .bool true ∧ St w wx [bx mb mC.toArray 65, bx kb kC.toArray 61, bx ib iC.toArray 57, bx db dC.toArray 37, grp (Msg.things dv), bx cb cC.toArray 53, grp (Rep.things cv), bx bb bC.toArray 34, grp (Req.things bv), bx ab aC.toArray 28, grp (Ent.things av)] ∧ Mod (fun _ => False) w2 wx)
  case first =>
    have HM := Lib.hid (Mod.refl (fun _ => False) w2)
    (rcases aZ.out with ⟨rfl, aT⟩ | rfl) <;> (rcases bZ.out with ⟨rfl, bT⟩ | rfl) <;> (rcases cZ.out with ⟨rfl, cT⟩ | rfl)
    all_goals
      go_wp2_with (first
        | ((with_reducible refine at_list ?_); clear aT; refine wpList_load_chunkG 11 _ Try.underlying28 rfl sizeEnt ⟨ab, 0, none⟩ rfl aC aL.out (box_chunk (HS.out.box 9 rfl)) (by rfl) ?_)
        | (go_at_call 7; refine (aP.out (by trivial) _ HM.out).mono ?_; rintro e wz ⟨rfl, hM⟩; have hSn := HS.out.mod hM; have hMn := HM.out.then hM (fun _ _ h => h); clear HS HM hM; have HS := Lib.hid hSn; have HM := Lib.hid hMn; clear hSn hMn)
        | ((with_reducible refine at_list ?_); clear bT; refine wpList_load_chunkG 10 _ Try.underlying34 rfl sizeOp ⟨bb, 0, none⟩ rfl bC bL.out (box_chunk (HS.out.box 7 rfl)) (by rfl) ?_)
        | (go_at_call 16; refine (bP.out (by trivial) _ HM.out).mono ?_; rintro e wz ⟨rfl, hM⟩; have hSn := HS.out.mod hM; have hMn := HM.out.then hM (fun _ _ h => h); clear HS HM hM; have HS := Lib.hid hSn; have HM := Lib.hid hMn; clear hSn hMn)
        | ((with_reducible refine at_list ?_); clear cT; refine wpList_load_chunkG 17 _ Try.underlying53 rfl sizeAns ⟨cb, 0, none⟩ rfl cC cL.out (box_chunk (HS.out.box 5 rfl)) (by rfl) ?_)
        | (go_at_call 17; refine (cP.out (by trivial) _ HM.out).mono ?_; rintro e wz ⟨rfl, hM⟩; have hSn := HS.out.mod hM; have hMn := HM.out.then hM (fun _ _ h => h); clear HS HM hM; have HS := Lib.hid hSn; have HM := Lib.hid hMn; clear hSn hMn))
      go_meet
      exact ⟨rfl, HS.out, HM.out⟩
  case rest =>
    obtain ⟨rfl, hS, hM⟩ := hcut
    clear HS 
    have HS := Lib.hid hS
    have HM := Lib.hid hM
    clear hS hM
    go_upto_region 10 with fail
    go_cut [19] (fun c wx => c = .bool true ∧ St w wx [bx mb mC.toArray 65, bx kb kC.toArray 61, bx ib iC.toArray 57, bx db dC.toArray 37, grp (Msg.things dv), bx cb cC.toArray 53, grp (Rep.things cv), bx bb bC.toArray 34, grp (Req.things bv), bx ab aC.toArray 28, grp (Ent.things av)] ∧ Mod (fun _ => False) w2 wx)
    case first =>
      (rcases dZ.out with ⟨rfl, dT⟩ | rfl) <;> (rcases iZ.out with ⟨rfl, iT⟩ | rfl) <;> (rcases kZ.out with ⟨rfl, kT⟩ | rfl) <;> (rcases mZ.out with ⟨rfl, mT⟩ | rfl)
      all_goals
        go_wp2_with (first
          | ((with_reducible refine at_list ?_); clear dT; refine wpList_load_chunkG 19 _ Try.underlying37 rfl sizeMsg ⟨db, 0, none⟩ rfl dC dL.out (box_chunk (HS.out.box 3 rfl)) (by rfl) ?_)
          | (go_at_call 8; refine (dP.out (by trivial) _ HM.out).mono ?_; rintro e wz ⟨rfl, hM⟩; have hSn := HS.out.mod hM; have hMn := HM.out.then hM (fun _ _ h => h); clear HS HM hM; have HS := Lib.hid hSn; have HM := Lib.hid hMn; clear hSn hMn)
          | ((with_reducible refine at_list ?_); clear iT; refine wpList_load_chunkG 3 _ Try.underlying57 rfl sizeEv ⟨ib, 0, none⟩ rfl iC iL.out (box_chunk (HS.out.box 2 rfl)) (by rfl) ?_)
          | (go_at_call 18; refine (iP.out (by trivial) _ HM.out).mono ?_; rintro e wz ⟨rfl, hM⟩; have hSn := HS.out.mod hM; have hMn := HM.out.then hM (fun _ _ h => h); clear HS HM hM; have HS := Lib.hid hSn; have HM := Lib.hid hMn; clear hSn hMn)
          | ((with_reducible refine at_list ?_); clear kT; refine wpList_load_chunkG 4 _ Try.underlying61 rfl sizeHe ⟨kb, 0, none⟩ rfl kC kL.out (box_chunk (HS.out.box 1 rfl)) (by rfl) ?_)
          | (go_at_call 19; refine (kP.out (by trivial) _ HM.out).mono ?_; rintro e wz ⟨rfl, hM⟩; have hSn := HS.out.mod hM; have hMn := HM.out.then hM (fun _ _ h => h); clear HS HM hM; have HS := Lib.hid hSn; have HM := Lib.hid hMn; clear hSn hMn)
          | ((with_reducible refine at_list ?_); clear mT; refine wpList_load_chunkG 6 _ Try.underlying65 rfl sizeNo ⟨mb, 0, none⟩ rfl mC mL.out (box_chunk (HS.out.box 0 rfl)) (by rfl) ?_)
          | (go_at_call 20; refine (mP.out (by trivial) _ HM.out).mono ?_; rintro e wz ⟨rfl, hM⟩; have hSn := HS.out.mod hM; have hMn := HM.out.then hM (fun _ _ h => h); clear HS HM hM; have HS := Lib.hid hSn; have HM := Lib.hid hMn; clear hSn hMn))
        go_meet
        exact ⟨rfl, HS.out, HM.out⟩
    case rest =>
      obtain ⟨rfl, hS, hM⟩ := hcut
      clear HS HM
      have HS := Lib.hid hS
      have HM := Lib.hid hM
      clear hS hM
      go_wp2_with fail
      go_ret
      exact ⟨rfl, HS.out.1⟩

section
variable {H : Type} {enc : TypeId × Value → H} {w : World} {base base' : Nat} {spare : Nat → Bool} {held : Bool}
theorem open_str {v : Value} {d : DataW H} {p : List MemPlace} (k : DataW.Trod enc Try.prog w base spare held 9 v d p) (o : Value.okWide Try.prog w .any base' 9 v)
    (hw : ∀ x ∈ d.weights Try.prog 9, x ≤ reachBytes) : ∃ s : ByteArray, v = .string s ∧ bfits s.size ∧ s.size ≤ 140737488351232 := by
  obtain ⟨f, k⟩ := k
  obtain ⟨s, rfl⟩ := okWide_string Try.underlying9 o
  obtain ⟨x, h1, h3, h2⟩ := DataW.trod_string Try.underlying9 k
  simp only [Value.cells, List.cons.injEq, Value.string.injEq, and_true] at h1
  subst h1
  refine ⟨s, rfl, ?_⟩
  obtain ⟨rfl, -⟩ := Prod.mk.inj h3
  have := hw s.data.toList.length (by simp [DataW.weights])
  rw [Array.length_toList] at this
  unfold reachBytes at this
  unfold bfits
  show s.data.size ≤ _ ∧ s.data.size ≤ _
  omega
end
theorem laidOut : laidOutB Try.prog = true := by kernel_rfl
theorem ownsNone : ownKnob Try.prog.godebug = none := by kernel_rfl
theorem back_contract {H : Type} {enc : TypeId × Value → H} (W : World) (base : Nat) (v0 : Value) (d0 : DataW H) (p0 : List MemPlace)
    (k0 : DataW.Trod enc Try.prog W 0 (fun _ => true) true 9 v0 d0 p0) (o0 : Value.okWide Try.prog W .any base 9 v0)
    (hsz : (DataW.weightsEach Try.prog [9] [d0]).all (· ≤ reachBytes) = true) :
    Calls Try.prog 5 #[v0] W (ValPost (.bool true) W) := by
  have hw : ∀ x ∈ d0.weights Try.prog 9, x ≤ reachBytes := fun x hx => by
    have := List.all_eq_true.1 hsz x (by simp [DataW.weightsEach, hx])
    simpa using this
  obtain ⟨s, rfl, _, h2⟩ := open_str k0 o0 hw
  exact wireBack_walk s (by unfold bfits; omega) W
end Go.Proofs.Ytmbkbkfcbloafab
