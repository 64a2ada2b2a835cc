/-
  The law's KeptEntry: an entry that was lent is as it was; its owner writes its lists over.
  Conditions: its lists are not long; the entry fits.
-/
import Derived.Test.YtmbkbkfcbloafaaGreatWireLent
import Derived.Test.YtmbkbkfcbloafaaGreatWireS
import Derived.Test.YtmbkbkfcbloafaaGreatJbase
import Derived.Deep.Cut
namespace Go.Proofs.YtmbkbkfcbloafaaGreat
open Go.RowKit
set_option linter.unusedSectionVars false
set_option linter.unusedSimpArgs false
set_option linter.unusedVariables false
set_option maxRecDepth 100000

theorem Sl.short {w : World} {E k : Nat} {a : Option Addr} {n cap : Nat} {cs ds : List Value} (h : Sl w E k a (n + 1) cap (cs ++ ds)) (hl : cs.length = n * k) : Sl w E k a n cap cs := by
  obtain ⟨h1, h2, h3, h4⟩ := h
  refine ⟨hl, by omega, h3, ?_⟩
  rcases h4 with ⟨h4, h5⟩ | ⟨b, off, c, rfl, h5, h6, h7⟩
  · omega
  · refine .inr ⟨b, off, c, rfl, h5, h6, ?_⟩
    have e1 : (cs ++ ds).take (n * k) = cs := by rw [← hl]; exact List.take_left
    rw [← e1, ← h7, List.take_take, Nat.min_eq_left (Nat.mul_le_mul_right _ (by omega))]
theorem Sl.cellAt {w : World} {E k : Nat} {b off n cap : Nat} {cs : List Value} (h : Sl w E k (some ⟨b, off, none⟩) n cap cs) {j : Nat} {u : Value} (hu : cs[j]? = some u) : w.cell? ⟨b, off + j, none⟩ = some u := by
  obtain ⟨_, _, _, ⟨h0, _⟩ | ⟨y, hy, hcc⟩⟩ := h.rd
  · cases h0
  · cases hy
    have := hcc _ _ hu
    rw [add_none] at this
    exact this
theorem Acl.cells_len {L : List Acl} : (L.flatMap Acl.cells).length = L.length * 2 := by
  induction L with
  | nil => rfl
  | cons a l ih => rw [List.flatMap_cons, List.length_append, ih, List.length_cons, Nat.add_mul]; show 2 + _ = _; omega
theorem Txn.cells_len {L : List Txn} : (L.flatMap Txn.cells).length = L.length * 8 := by
  induction L with
  | nil => rfl
  | cons a l ih => rw [List.flatMap_cons, List.length_append, ih, List.length_cons, Nat.add_mul]; show 8 + _ = _; omega
theorem Ent.lent_bytes (x : Ent) (a : Option Addr) (c : Nat) (b : Option Addr) (d : Nat) : (x.lent a c b d).bytes = x.bytes := rfl
theorem Ent.lent_ok {w w' : World} {x : Ent} (hx : x.ok w) (hm : Mod (fun _ => False) w w') {a : Option Addr} {c : Nat} {b : Option Addr} {d : Nat} (ha : Rd w' 2 a x.t.acl.length c (x.t.acl.flatMap Acl.cells)) (hb : Rd w' 8 b x.subs.length d (x.subs.flatMap Txn.cells)) : (x.lent a c b d).ok w' where
  zxid := hx.zxid
  session := hx.session
  xid := hx.xid
  t := ⟨hx.t.1, hx.t.2.1, hx.t.2.2.1, hx.t.2.2.2.1, ha, fun y hy => hx.t.2.2.2.2.2 y hy⟩
  n := hx.n
  rd := hb
  all := fun y hy => Txn.okmod (hx.all y hy) hm

set_option maxHeartbeats 8000000 in
theorem keptEntry_st {w0 w : World} {l : List Thing} (x : Ent) (hx : x.ok w0) (h1 : x.t.acl.length ≤ 20000000) (h2 : x.subs.length ≤ 20000000) (hf : bfits (x.bytes.length + 100)) (a : Option Addr) (c : Nat) (b : Option Addr) (d : Nat)
    (h : St w0 w (sl 37 8 b (x.subs.length + 1) d (x.subs.flatMap Txn.cells ++ [.int .i64 77, .string ⟨#[]⟩, .string ⟨#[]⟩, .slice none 0 0, .int .i64 0, .int .i64 0, .int .i64 0, .slice none 0 0]) :: sl 65 2 a (x.t.acl.length + 1) c (x.t.acl.flatMap Acl.cells ++ [.int .i64 77, .string ⟨#[]⟩]) :: l)) :
    Calls Tryz.prog 13 #[.agg (x.lent a c b d).cells.toArray, .agg x.cells.toArray] w (fun e w' => e = .returned (.bool true) ∧ St w0 w' l) := by
  have hown : (x.lent a c b d).ok w := Ent.lent_ok hx h.1 ((h.slice 1 rfl).short Acl.cells_len).rd ((h.slice 0 rfl).short Txn.cells_len).rd
  have hxw : x.ok w := Ent.okmod hx h.1
  obtain ⟨Bt, hBt⟩ : ∃ Bt, ByteArray.mk x.bytes.toArray = Bt := ⟨_, rfl⟩
  have CA : Hid (∀ w', Mod (fun _ => False) w w' → Calls Tryz.prog 21 #[.agg (x.lent a c b d).cells.toArray] w' (fun e w'' => e = .returned (.string Bt) ∧ Mod (fun _ => False) w' w'')) := Lib.hid fun w' h => by
    rw [← hBt]; exact rPutEntry_any _ w' (Ent.okmod hown h) hf
  have CX : Hid (∀ w', Mod (fun _ => False) w w' → Calls Tryz.prog 21 #[.agg x.cells.toArray] w' (fun e w'' => e = .returned (.string Bt) ∧ Mod (fun _ => False) w' w'')) := Lib.hid fun w' h => by
    rw [← hBt]; exact rPutEntry_any _ w' (Ent.okmod hxw h) hf
  have hBB : (Bt.toList == Bt.toList) = true := by simp
  clear hBt hown hxw
  obtain ⟨zx, se, xi, ⟨kind, path, data, acl, aclA, aclC, owner, number, err, subsA, subsN, subsC⟩, L⟩ := x
  have hn0 := hx.n
  clear hx hf
  simp only at hn0 h1 h2 h
  subst hn0
  simp only [Ent.lent, Ent.cells] at CA CX ⊢
  have ha77 : (acl.flatMap Acl.cells ++ [.int .i64 77, .string ⟨#[]⟩])[acl.length * 2]? = some (.int .i64 77) := by rw [← Acl.cells_len, List.getElem?_append_right (Nat.le_refl _), Nat.sub_self]; rfl
  have hb77 : (L.flatMap Txn.cells ++ [.int .i64 77, .string ⟨#[]⟩, .string ⟨#[]⟩, .slice none 0 0, .int .i64 0, .int .i64 0, .int .i64 0, .slice none 0 0])[L.length * 8]? = some (.int .i64 77) := by rw [← Txn.cells_len, List.getElem?_append_right (Nat.le_refl _), Nat.sub_self]; rfl
  obtain ⟨n, hn⟩ : ∃ n, acl.length = n := ⟨_, rfl⟩
  obtain ⟨m, hm⟩ : ∃ m, L.length = m := ⟨_, rfl⟩
  obtain ⟨cA, hcA⟩ : ∃ c, acl.flatMap Acl.cells ++ [.int .i64 77, .string ⟨#[]⟩] = c := ⟨_, rfl⟩
  obtain ⟨cS, hcS⟩ : ∃ c, L.flatMap Txn.cells ++ [.int .i64 77, .string ⟨#[]⟩, .string ⟨#[]⟩, .slice none 0 0, .int .i64 0, .int .i64 0, .int .i64 0, .slice none 0 0] = c := ⟨_, rfl⟩
  rw [hcA, hn] at ha77
  rw [hcS, hm] at hb77
  rw [hn] at h1
  rw [hm] at h2
  rw [hn, hm, hcA, hcS] at h
  simp only [hn, hm] at CA CX ⊢
  clear hn hm hcA hcS
  obtain ⟨ab, ao, ac, rfl, hag, hafit⟩ := (h.slice 1 rfl).block (by omega)
  obtain ⟨bb, bo, bc, rfl, hbg, hbfit⟩ := (h.slice 0 rfl).block (by omega)
  have hac := (h.slice 1 rfl).2.1
  have hbc := (h.slice 0 rfl).2.1
  have ham := (h.slice 1 rfl).2.2.1
  have hbm := (h.slice 0 rfl).2.2.1
  have HAl : Hid (Mod (fun _ => False) w ((w.alloc (.cells #[.int .i64 zx, .int .i64 se, .int .i64 xi, .int .i64 kind, .string path, .string data, .slice (some ⟨ab, ao, none⟩) n c, .int .i64 owner, .int .i64 number, .int .i64 err, .slice (some ⟨bb, bo, none⟩) m d] 39)).alloc (.cells #[.int .i64 zx, .int .i64 se, .int .i64 xi, .int .i64 kind, .string path, .string data, .slice aclA n aclC, .int .i64 owner, .int .i64 number, .int .i64 err, .slice subsA m subsC] 39))) := Lib.hid (((Mod.refl _ w).alloc _).alloc _)
  have hS : St w0 ((w.alloc (.cells #[.int .i64 zx, .int .i64 se, .int .i64 xi, .int .i64 kind, .string path, .string data, .slice (some ⟨ab, ao, none⟩) n c, .int .i64 owner, .int .i64 number, .int .i64 err, .slice (some ⟨bb, bo, none⟩) m d] 39)).alloc (.cells #[.int .i64 zx, .int .i64 se, .int .i64 xi, .int .i64 kind, .string path, .string data, .slice aclA n aclC, .int .i64 owner, .int .i64 number, .int .i64 err, .slice subsA m subsC] 39)) (bx (w.alloc (.cells #[.int .i64 zx, .int .i64 se, .int .i64 xi, .int .i64 kind, .string path, .string data, .slice (some ⟨ab, ao, none⟩) n c, .int .i64 owner, .int .i64 number, .int .i64 err, .slice (some ⟨bb, bo, none⟩) m d] 39)).heap.size #[.int .i64 zx, .int .i64 se, .int .i64 xi, .int .i64 kind, .string path, .string data, .slice aclA n aclC, .int .i64 owner, .int .i64 number, .int .i64 err, .slice subsA m subsC] 39 :: bx w.heap.size #[.int .i64 zx, .int .i64 se, .int .i64 xi, .int .i64 kind, .string path, .string data, .slice (some ⟨ab, ao, none⟩) n c, .int .i64 owner, .int .i64 number, .int .i64 err, .slice (some ⟨bb, bo, none⟩) m d] 39 :: sl 37 8 (some ⟨bb, bo, none⟩) (m + 1) d cS :: sl 65 2 (some ⟨ab, ao, none⟩) (n + 1) c cA :: l) := (h.box1 #[.int .i64 zx, .int .i64 se, .int .i64 xi, .int .i64 kind, .string path, .string data, .slice (some ⟨ab, ao, none⟩) n c, .int .i64 owner, .int .i64 number, .int .i64 err, .slice (some ⟨bb, bo, none⟩) m d] 39).box1 #[.int .i64 zx, .int .i64 se, .int .i64 xi, .int .i64 kind, .string path, .string data, .slice aclA n aclC, .int .i64 owner, .int .i64 number, .int .i64 err, .slice subsA m subsC] 39
  have HS := Lib.hid hS
  have HA7 := Lib.hid ((hS.slice 3 rfl).cellAt ha77)
  have HB7 := Lib.hid ((hS.slice 2 rfl).cellAt hb77)
  clear h hS ha77 hb77 hag hafit hbg hbfit
  go_enter Tryz.func13, Tryz.ntmps13
  go_upto_region 1 with fail
  generalize (w.alloc (.cells #[.int .i64 zx, .int .i64 se, .int .i64 xi, .int .i64 kind, .string path, .string data, .slice (some ⟨ab, ao, none⟩) n c, .int .i64 owner, .int .i64 number, .int .i64 err, .slice (some ⟨bb, bo, none⟩) m d] 39)).alloc (.cells #[.int .i64 zx, .int .i64 se, .int .i64 xi, .int .i64 kind, .string path, .string data, .slice aclA n aclC, .int .i64 owner, .int .i64 number, .int .i64 err, .slice subsA m subsC] 39) = W at *
  (try rw [World.size_alloc] at *)
  generalize w.heap.size = ob at *
  obtain ⟨eb, heb⟩ : ∃ eb, ob + 1 = eb := ⟨_, rfl⟩
  rw [heb] at HS
  simp only [heb]
  clear heb
  have KP : Hid (∀ w', Mod (fun _ => False) W w' → w'.cell? ⟨ob, 0, none⟩ = some (.int .i64 zx) ∧ w'.cell? ⟨ob, 1, none⟩ = some (.int .i64 se) ∧ w'.cell? ⟨ob, 2, none⟩ = some (.int .i64 xi) ∧ w'.cell? ⟨ob, 3, none⟩ = some (.int .i64 kind) ∧ w'.cell? ⟨ob, 4, none⟩ = some (.string path) ∧ w'.cell? ⟨ob, 5, none⟩ = some (.string data) ∧ w'.cell? ⟨ob, 6, none⟩ = some (.slice (some ⟨ab, ao, none⟩) n c) ∧ w'.cell? ⟨ob, 7, none⟩ = some (.int .i64 owner) ∧ w'.cell? ⟨ob, 8, none⟩ = some (.int .i64 number) ∧ w'.cell? ⟨ob, 9, none⟩ = some (.int .i64 err) ∧ w'.cell? ⟨ob, 10, none⟩ = some (.slice (some ⟨bb, bo, none⟩) m d) ∧ w'.cell? ⟨eb, 0, none⟩ = some (.int .i64 zx) ∧ w'.cell? ⟨eb, 1, none⟩ = some (.int .i64 se) ∧ w'.cell? ⟨eb, 2, none⟩ = some (.int .i64 xi) ∧ w'.cell? ⟨eb, 3, none⟩ = some (.int .i64 kind) ∧ w'.cell? ⟨eb, 4, none⟩ = some (.string path) ∧ w'.cell? ⟨eb, 5, none⟩ = some (.string data) ∧ w'.cell? ⟨eb, 6, none⟩ = some (.slice aclA n aclC) ∧ w'.cell? ⟨eb, 7, none⟩ = some (.int .i64 owner) ∧ w'.cell? ⟨eb, 8, none⟩ = some (.int .i64 number) ∧ w'.cell? ⟨eb, 9, none⟩ = some (.int .i64 err) ∧ w'.cell? ⟨eb, 10, none⟩ = some (.slice subsA m subsC) ∧ w'.cell? ⟨ab, ao + n * 2, none⟩ = some (.int .i64 77) ∧ w'.cell? ⟨bb, bo + m * 8, none⟩ = some (.int .i64 77)) := Lib.hid fun w' h => ⟨h.cell (blk_cell (HS.out.box 1 rfl) 0 _ rfl) id, h.cell (blk_cell (HS.out.box 1 rfl) 1 _ rfl) id, h.cell (blk_cell (HS.out.box 1 rfl) 2 _ rfl) id, h.cell (blk_cell (HS.out.box 1 rfl) 3 _ rfl) id, h.cell (blk_cell (HS.out.box 1 rfl) 4 _ rfl) id, h.cell (blk_cell (HS.out.box 1 rfl) 5 _ rfl) id, h.cell (blk_cell (HS.out.box 1 rfl) 6 _ rfl) id, h.cell (blk_cell (HS.out.box 1 rfl) 7 _ rfl) id, h.cell (blk_cell (HS.out.box 1 rfl) 8 _ rfl) id, h.cell (blk_cell (HS.out.box 1 rfl) 9 _ rfl) id, h.cell (blk_cell (HS.out.box 1 rfl) 10 _ rfl) id, h.cell (blk_cell (HS.out.box 0 rfl) 0 _ rfl) id, h.cell (blk_cell (HS.out.box 0 rfl) 1 _ rfl) id, h.cell (blk_cell (HS.out.box 0 rfl) 2 _ rfl) id, h.cell (blk_cell (HS.out.box 0 rfl) 3 _ rfl) id, h.cell (blk_cell (HS.out.box 0 rfl) 4 _ rfl) id, h.cell (blk_cell (HS.out.box 0 rfl) 5 _ rfl) id, h.cell (blk_cell (HS.out.box 0 rfl) 6 _ rfl) id, h.cell (blk_cell (HS.out.box 0 rfl) 7 _ rfl) id, h.cell (blk_cell (HS.out.box 0 rfl) 8 _ rfl) id, h.cell (blk_cell (HS.out.box 0 rfl) 9 _ rfl) id, h.cell (blk_cell (HS.out.box 0 rfl) 10 _ rfl) id, h.cell HA7.out id, h.cell HB7.out id⟩
  obtain ⟨o0, o1, o2, o3, o4, o5, o6, o7, o8, o9, o10, e0, e1, e2, e3, e4, e5, e6, e7, e8, e9, e10, a7, b7⟩ := KP.out W (Mod.refl _ W)
  have zob := heap_lt (HS.out.box 1 rfl)
  have zeb := heap_lt (HS.out.box 0 rfl)
  have zab := World.block_lt_of_cell? W _ HA7.out
  have zbb := World.block_lt_of_cell? W _ HB7.out
  go_upto_region 3 with fail
  have y1 : IntKind.i64.wrap ((n : Int) + 1) = (n : Int) + 1 := IntWalk.i64_in _ (by omega)
  have y2 : IntKind.i64.wrap ((m : Int) + 1) = (m : Int) + 1 := IntWalk.i64_in _ (by omega)
  have y3 : (0 : Int) ≤ (n : Int) + 1 := by omega
  have y4 : (0 : Int) ≤ (m : Int) + 1 := by omega
  have y5 : (n : Int) + 1 ≤ (c : Int) := by omega
  have y6 : (m : Int) + 1 ≤ (d : Int) := by omega
  have y7 : ((n : Int) + 1).toNat = n + 1 := by omega
  have y8 : ((m : Int) + 1).toNat = m + 1 := by omega
  have y9 : (n : Int) < (n : Int) + 1 := by omega
  have y10 : (m : Int) < (m : Int) + 1 := by omega
  go_region_held3 (fun w' => w'.cell? ⟨ob, 0, none⟩ = some (.int .i64 zx) ∧ w'.cell? ⟨ob, 1, none⟩ = some (.int .i64 se) ∧ w'.cell? ⟨ob, 2, none⟩ = some (.int .i64 xi) ∧ w'.cell? ⟨ob, 3, none⟩ = some (.int .i64 kind) ∧ w'.cell? ⟨ob, 4, none⟩ = some (.string path) ∧ w'.cell? ⟨ob, 5, none⟩ = some (.string data) ∧ w'.cell? ⟨ob, 6, none⟩ = some (.slice (some ⟨ab, ao, none⟩) n c) ∧ w'.cell? ⟨ob, 7, none⟩ = some (.int .i64 owner) ∧ w'.cell? ⟨ob, 8, none⟩ = some (.int .i64 number) ∧ w'.cell? ⟨ob, 9, none⟩ = some (.int .i64 err) ∧ w'.cell? ⟨ob, 10, none⟩ = some (.slice (some ⟨bb, bo, none⟩) m d) ∧ w'.cell? ⟨eb, 0, none⟩ = some (.int .i64 zx) ∧ w'.cell? ⟨eb, 1, none⟩ = some (.int .i64 se) ∧ w'.cell? ⟨eb, 2, none⟩ = some (.int .i64 xi) ∧ w'.cell? ⟨eb, 3, none⟩ = some (.int .i64 kind) ∧ w'.cell? ⟨eb, 4, none⟩ = some (.string path) ∧ w'.cell? ⟨eb, 5, none⟩ = some (.string data) ∧ w'.cell? ⟨eb, 6, none⟩ = some (.slice aclA n aclC) ∧ w'.cell? ⟨eb, 7, none⟩ = some (.int .i64 owner) ∧ w'.cell? ⟨eb, 8, none⟩ = some (.int .i64 number) ∧ w'.cell? ⟨eb, 9, none⟩ = some (.int .i64 err) ∧ w'.cell? ⟨eb, 10, none⟩ = some (.slice subsA m subsC) ∧ w'.cell? ⟨ab, ao + n * 2, none⟩ = some (.int .i64 77) ∧ w'.cell? ⟨bb, bo + m * 8, none⟩ = some (.int .i64 77))
    (first | (refine KP.out _ ?_; with_reducible with_reducible (repeat (first | exact Mod.refl _ _ | refine Mod.drew ?_ | refine Mod.drewN ?_ _ | refine Mod.alloc ?_ _ | refine Mod.back (by assumption) ?_))))
    ((first
      | (go_at_call 21; refine (CA.out _ (HAl.out.then (by with_reducible with_reducible (repeat (first | exact Mod.refl _ _ | refine Mod.drew ?_ | refine Mod.drewN ?_ _ | refine Mod.alloc ?_ _ | refine Mod.back (by assumption) ?_))) (fun _ _ h => h))).mono ?_; rintro e v0 ⟨rfl, hM0⟩; clear CA)
      | (go_at_call 21; refine (CX.out _ (HAl.out.then (by with_reducible with_reducible (repeat (first | exact Mod.refl _ _ | refine Mod.drew ?_ | refine Mod.drewN ?_ _ | refine Mod.alloc ?_ _ | refine Mod.back (by assumption) ?_))) (fun _ _ h => h))).mono ?_; rintro e v1 ⟨rfl, hM1⟩; clear CX)))
  have HM : Hid (Mod (fun _ => False) W v1) := Lib.hid (by with_reducible with_reducible (repeat (first | exact Mod.refl _ _ | refine Mod.drew ?_ | refine Mod.drewN ?_ _ | refine Mod.alloc ?_ _ | refine Mod.back (by assumption) ?_)))
  have hS := HS.out.mod HM.out
  have o6 := blk_cell (hS.box 1 rfl) 6 _ rfl
  have zob := heap_lt (hS.box 1 rfl)
  have HS1 := Lib.hid hS
  clear HS hS HM KP hM0 hM1 HAl HA7 HB7 o0 o1 o2 o3 o4 o5 o6 o7 o8 o9 o10 e0 e1 e2 e3 e4 e5 e6 e7 e8 e9 e10 a7 b7
  go_wp2_with fail
  go_loopg [8] (n + 1) (fun g y wr => ∃ (k : Nat) (cq : List Value), k + g = n + 1 ∧ y = .int .i64 k ∧ St w0 wr (bx eb #[.int .i64 zx, .int .i64 se, .int .i64 xi, .int .i64 kind, .string path, .string data, .slice aclA n aclC, .int .i64 owner, .int .i64 number, .int .i64 err, .slice subsA m subsC] 39 :: bx ob #[.int .i64 zx, .int .i64 se, .int .i64 xi, .int .i64 kind, .string path, .string data, .slice (some ⟨ab, ao, none⟩) n c, .int .i64 owner, .int .i64 number, .int .i64 err, .slice (some ⟨bb, bo, none⟩) m d] 39 :: sl 37 8 (some ⟨bb, bo, none⟩) (m + 1) d cS :: sl 65 2 (some ⟨ab, ao, none⟩) (n + 1) c cq :: l))
  case atStart => exact ⟨0, _, by omega, rfl, HS1.out⟩
  case round =>
    obtain ⟨k, cq, hkg, rfl, hS⟩ := hrel
    clear HS1 o6 zob
    have o6 := blk_cell (hS.box 1 rfl) 6 _ rfl
    have zob := heap_lt (hS.box 1 rfl)
    by_cases hlt : k < n + 1
    · have hltI : (k : Int) < (n : Int) + 1 := by omega
      have hltJ : k ≤ n := by omega
      obtain ⟨b2, off2, c2, he, hg2, hfit2⟩ := (hS.slice 3 rfl).block (by omega)
      simp only [Option.some.injEq, Addr.mk.injEq, and_true] at he
      obtain ⟨rfl, rfl⟩ := he
      have hmc := (hS.slice 3 rfl).2.1
      have hz2 := heap_lt hg2
      have HS := Lib.hid hS
      have HG2 := Lib.hid hg2
      have HFT := Lib.hid (show ao + k * 2 + 2 ≤ c2.size by omega)
      have HPT := Lib.hid (show k * 2 + 2 ≤ (n + 1) * 2 by omega)
      have HUP := Lib.hid (And.intro (hS.slice 3 rfl).plain (And.intro hmc (hS.slice 3 rfl).2.2.1))
      clear hS hg2 hfit2 hmc
      go_wp2_with (first
        | ((with_reducible refine at_list ?_); refine wpList_upto 65 2 (by kernel_rfl) (by kernel_rfl) (by kernel_rfl) (some ⟨ab, ao, none⟩) n c (n + 1) (by rfl) (by rfl) HUP.out.1 HUP.out.2.1 HUP.out.2.2 ?_)
        | ((with_reducible refine at_list ?_); refine wpList_store_chunk 2 sizeAcl ab (ao + k * 2) rfl _ _ HG2.out _ rfl [.int .i64 (-1), .string ⟨#[111, 118, 101, 114]⟩] rfl rfl HFT.out (by intro u hu; simp only [List.mem_cons, List.not_mem_nil, or_false] at hu; rcases hu with rfl | rfl <;> rfl) ?_; intro w5 hg5 hM5 hz5))
      have HS5 := Lib.hid (HS.out.reslice 3 rfl (Sl.put (HS.out.slice 3 rfl) HG2.out (k * 2) [.int .i64 (-1), .string ⟨#[111, 118, 101, 114]⟩] HPT.out hg5) hM5)
      clear HS HG2 hg5 hM5 hz5
      go_roundg (n + 1 - (k + 1))
      case measure => omega
      case rel => exact ⟨k + 1, _, by omega, by simp, HS5.out⟩
    · have hltI : ¬ (k : Int) < (n : Int) + 1 := by omega
      have hltJ : ¬ k ≤ n := by omega
      clear hkg o6
      have HS := Lib.hid hS
      have o10 := blk_cell (hS.box 1 rfl) 10 _ rfl
      clear hS
      go_wp2_with fail
      go_loopg [9] (m + 1) (fun g y wr => ∃ (j : Nat) (cr : List Value), j + g = m + 1 ∧ y = .int .i64 j ∧ St w0 wr (bx eb #[.int .i64 zx, .int .i64 se, .int .i64 xi, .int .i64 kind, .string path, .string data, .slice aclA n aclC, .int .i64 owner, .int .i64 number, .int .i64 err, .slice subsA m subsC] 39 :: bx ob #[.int .i64 zx, .int .i64 se, .int .i64 xi, .int .i64 kind, .string path, .string data, .slice (some ⟨ab, ao, none⟩) n c, .int .i64 owner, .int .i64 number, .int .i64 err, .slice (some ⟨bb, bo, none⟩) m d] 39 :: sl 37 8 (some ⟨bb, bo, none⟩) (m + 1) d cr :: sl 65 2 (some ⟨ab, ao, none⟩) (n + 1) c cq :: l))
      case atStart => exact ⟨0, _, by omega, rfl, HS.out⟩
      case round =>
        obtain ⟨j, cr, hjg, rfl, hS⟩ := hrel
        clear HS o10 zob
        have o10 := blk_cell (hS.box 1 rfl) 10 _ rfl
        have zob := heap_lt (hS.box 1 rfl)
        by_cases hlj : j < m + 1
        · have hljI : (j : Int) < (m : Int) + 1 := by omega
          have hljJ : j ≤ m := by omega
          obtain ⟨b2, off2, c2, he, hg2, hfit2⟩ := (hS.slice 2 rfl).block (by omega)
          simp only [Option.some.injEq, Addr.mk.injEq, and_true] at he
          obtain ⟨rfl, rfl⟩ := he
          have hmc := (hS.slice 2 rfl).2.1
          have hz2 := heap_lt hg2
          have HS := Lib.hid hS
          have HG2 := Lib.hid hg2
          have HFT := Lib.hid (show bo + j * 8 + 8 ≤ c2.size by omega)
          have HPT := Lib.hid (show j * 8 + 8 ≤ (m + 1) * 8 by omega)
          have HUP := Lib.hid (And.intro (hS.slice 2 rfl).plain (And.intro hmc (hS.slice 2 rfl).2.2.1))
          clear hS hg2 hfit2 hmc
          go_wp2_with (first
            | ((with_reducible refine at_list ?_); refine wpList_upto 37 8 (by kernel_rfl) (by kernel_rfl) (by kernel_rfl) (some ⟨bb, bo, none⟩) m d (m + 1) (by rfl) (by rfl) HUP.out.1 HUP.out.2.1 HUP.out.2.2 ?_)
            | ((with_reducible refine at_list ?_); refine wpList_store_chunk 8 sizeTxn bb (bo + j * 8) rfl _ _ HG2.out _ rfl [.int .i64 (-1), .string ⟨#[]⟩, .string ⟨#[]⟩, .slice none 0 0, .int .i64 0, .int .i64 0, .int .i64 0, .slice none 0 0] rfl rfl HFT.out (by intro u hu; simp only [List.mem_cons, List.not_mem_nil, or_false] at hu; rcases hu with rfl | rfl | rfl | rfl | rfl | rfl | rfl | rfl <;> rfl) ?_; intro w5 hg5 hM5 hz5))
          have HS5 := Lib.hid (HS.out.reslice 2 rfl (Sl.put (HS.out.slice 2 rfl) HG2.out (j * 8) [.int .i64 (-1), .string ⟨#[]⟩, .string ⟨#[]⟩, .slice none 0 0, .int .i64 0, .int .i64 0, .int .i64 0, .slice none 0 0] HPT.out hg5) hM5)
          clear HS HG2 hg5 hM5 hz5
          go_roundg (m + 1 - (j + 1))
          case measure => omega
          case rel => exact ⟨j + 1, _, by omega, by simp, HS5.out⟩
        · have hljI : ¬ (j : Int) < (m : Int) + 1 := by omega
          have hljJ : ¬ j ≤ m := by omega
          clear hjg
          go_wp2
          go_ret
          exact ⟨rfl, hS.tail.tail.tail.tail⟩
end Go.Proofs.YtmbkbkfcbloafaaGreat
