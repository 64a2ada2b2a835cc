/-
  The law's LentEntry: an entry whose lists are its own, with something more behind each.
  Conditions: its lists are not long.
-/
import Derived.Test.YtmbkbkfcbloafaaGreatWireN
import Derived.Test.YtmbkbkfcbloafaaGreatWireO
import Derived.Test.YtmbkbkfcbloafaaGreatJbase
import Derived.Deep.Cut
namespace Go.Proofs.YtmbkbkfcbloafaaGreat
open Go.RowKit
set_option linter.unusedSectionVars false
set_option linter.unusedSimpArgs false
set_option linter.unusedVariables false
set_option maxRecDepth 100000

/-- The entry with lists of its own. -/
def Ent.lent (x : Ent) (a : Option Addr) (c : Nat) (b : Option Addr) (d : Nat) : Ent := { x with t := { x.t with aclA := a, aclC := c, subsA := b, subsC := d } }

theorem lent_a {w0 w : World} {s t u v : Thing} {l : List Thing} (h : St w0 w (s :: t :: u :: v :: l)) : St w0 w (u :: v :: t :: l) :=
  (h.tail).perm (List.perm_append_comm_assoc [t] [u, v] l)
theorem lent_b {w0 w : World} {s t u v : Thing} {l : List Thing} (h : St w0 w (s :: t :: u :: v :: l)) : St w0 w (u :: v :: s :: l) := lent_a h.swap
theorem acl_one {L : List Acl} : ∀ u ∈ L.flatMap Acl.cells, u.oneCell' = true := by
  intro u hu
  obtain ⟨a, _, ha⟩ := List.mem_flatMap.1 hu
  simp only [Acl.cells, List.mem_cons, List.not_mem_nil, or_false] at ha
  rcases ha with rfl | rfl <;> rfl
theorem txn_one {L : List Txn} : ∀ u ∈ L.flatMap Txn.cells, u.oneCell' = true := by
  intro u hu
  obtain ⟨a, _, ha⟩ := List.mem_flatMap.1 hu
  simp only [Txn.cells, List.mem_cons, List.not_mem_nil, or_false] at ha
  rcases ha with rfl | rfl | rfl | rfl | rfl | rfl | rfl | rfl <;> rfl

set_option maxHeartbeats 8000000 in
theorem lentEntry_st {w0 w : World} {l : List Thing} (x : Ent) (hx : x.ok w0) (h1 : x.t.acl.length ≤ 20000000) (h2 : x.subs.length ≤ 20000000) (h : St w0 w l) :
    Calls Tryz.prog 11 #[.agg x.cells.toArray] w (fun e w' => ∃ a c b d, e = .returned (.agg (x.lent a c b d).cells.toArray) ∧ St w0 w' (sl 37 8 b (x.subs.length + 1) d (x.subs.flatMap Txn.cells ++ [.int .i64 77, .string ⟨#[]⟩, .string ⟨#[]⟩, .slice none 0 0, .int .i64 0, .int .i64 0, .int .i64 0, .slice none 0 0]) :: sl 65 2 a (x.t.acl.length + 1) c (x.t.acl.flatMap Acl.cells ++ [.int .i64 77, .string ⟨#[]⟩]) :: l)) := by
  obtain ⟨zx, se, xi, ⟨kind, path, data, acl, aclA, aclC, owner, number, err, subsA, subsN, subsC⟩, L⟩ := x
  have hn0 := hx.n
  have hra := hx.t.2.2.2.2.1
  have hrs := hx.rd
  clear hx
  simp only at hn0 hra hrs h1 h2
  subst hn0
  obtain ⟨n, hn⟩ : ∃ n, acl.length = n := ⟨_, rfl⟩
  obtain ⟨m, hm⟩ : ∃ m, L.length = m := ⟨_, rfl⟩
  obtain ⟨cA, hcA⟩ : ∃ c, acl.flatMap Acl.cells = c := ⟨_, rfl⟩
  obtain ⟨cS, hcS⟩ : ∃ c, L.flatMap Txn.cells = c := ⟨_, rfl⟩
  have hoa : ∀ u ∈ cA, u.oneCell' = true := by rw [← hcA]; exact acl_one
  have hos : ∀ u ∈ cS, u.oneCell' = true := by rw [← hcS]; exact txn_one
  simp only [Ent.lent, Ent.cells]
  rw [hcA] at hra
  rw [hcS] at hrs
  rw [hn] at hra h1
  rw [hm] at hrs h2
  simp only [hn, hm, hcA, hcS]
  clear hn hm hcA hcS
  have HRA := Lib.hid hra
  have HRS := Lib.hid hrs
  have HOA := Lib.hid hoa
  have HOS := Lib.hid hos
  have hS : St w0 ((w.alloc (.cells #[.int .i64 zx, .int .i64 se, .int .i64 xi, .int .i64 kind, .string path, .string data, .slice aclA n aclC, .int .i64 owner, .int .i64 number, .int .i64 err, .slice subsA m subsC] 39)).alloc (.cells #[.int .i64 0, .int .i64 0, .int .i64 0, .int .i64 0, .string ⟨#[]⟩, .string ⟨#[]⟩, .slice none 0 0, .int .i64 0, .int .i64 0, .int .i64 0, .slice none 0 0] 39)) (bx (w.alloc (.cells #[.int .i64 zx, .int .i64 se, .int .i64 xi, .int .i64 kind, .string path, .string data, .slice aclA n aclC, .int .i64 owner, .int .i64 number, .int .i64 err, .slice subsA m subsC] 39)).heap.size #[.int .i64 0, .int .i64 0, .int .i64 0, .int .i64 0, .string ⟨#[]⟩, .string ⟨#[]⟩, .slice none 0 0, .int .i64 0, .int .i64 0, .int .i64 0, .slice none 0 0] 39 :: bx w.heap.size #[.int .i64 zx, .int .i64 se, .int .i64 xi, .int .i64 kind, .string path, .string data, .slice aclA n aclC, .int .i64 owner, .int .i64 number, .int .i64 err, .slice subsA m subsC] 39 :: l) := (h.box1 #[.int .i64 zx, .int .i64 se, .int .i64 xi, .int .i64 kind, .string path, .string data, .slice aclA n aclC, .int .i64 owner, .int .i64 number, .int .i64 err, .slice subsA m subsC] 39).box1 #[.int .i64 0, .int .i64 0, .int .i64 0, .int .i64 0, .string ⟨#[]⟩, .string ⟨#[]⟩, .slice none 0 0, .int .i64 0, .int .i64 0, .int .i64 0, .slice none 0 0] 39
  have HS := Lib.hid (hS.swap)
  obtain ⟨jp, jz, hj1, hj2, hj3, hj4, hj5⟩ := info_row infoAcl
  have HJ := Lib.hid (And.intro hj1 (And.intro hj2 (And.intro hj3 (And.intro hj4 hj5))))
  obtain ⟨ip, iz, hi1, hi2, hi3, hi4, hi5⟩ := info_row infoTxn
  have HI := Lib.hid (And.intro hi1 (And.intro hi2 (And.intro hi3 (And.intro hi4 hi5))))
  clear h hS hra hrs hoa hos hi1 hi2 hi3 hi4 hi5 hj1 hj2 hj3 hj4 hj5
  go_enter Tryz.func11, Tryz.ntmps11
  go_upto_region 1 with fail
  generalize (w.alloc (.cells #[.int .i64 zx, .int .i64 se, .int .i64 xi, .int .i64 kind, .string path, .string data, .slice aclA n aclC, .int .i64 owner, .int .i64 number, .int .i64 err, .slice subsA m subsC] 39)).alloc (.cells #[.int .i64 0, .int .i64 0, .int .i64 0, .int .i64 0, .string ⟨#[]⟩, .string ⟨#[]⟩, .slice none 0 0, .int .i64 0, .int .i64 0, .int .i64 0, .slice none 0 0] 39) = W at *
  (try rw [World.size_alloc] at *)
  generalize w.heap.size = tb at *
  have hrb : ∃ rb, tb + 1 = rb := ⟨_, rfl⟩
  obtain ⟨rb, hrb⟩ := hrb
  rw [hrb] at HS
  simp only [hrb]
  clear hrb
  have c6 := blk_cell (HS.out.box 0 rfl) 6 _ rfl
  have z6 := heap_lt (HS.out.box 0 rfl)
  have z6b := heap_lt (HS.out.box 1 rfl)
  refine wp_region_last_held (n := 14) (S := fun w' => w'.cell? ⟨tb, 6, none⟩ = some (.slice aclA n aclC)) (by kernel_rfl) rfl (by simp only [List.pop_toArray, List.dropLast_cons_cons, List.dropLast_singleton]; rfl) (by kernel_rfl) (by kernel_rfl) c6 (fun hHeld => ?_)
  have hS := HS.out.drew
  generalize W.drew = V at hS hHeld ⊢
  clear HS c6
  have HS := Lib.hid hS
  clear hS
  refine wpAnyH_take (i := 0) (oi := _) (v := ?_) rfl (by kernel_rfl) (by kernel_rfl) (by kernel_rfl) (fun _ _ _ h => h) (Or.inl ⟨by rfl, ?_⟩) hHeld ?_
  rotate_left
  · intro wq hSw; (try dsimp only at hSw); go_simp; try with_reducible rfl
  try simp only [Act.put, Nat.zero_add, List.setIfInBounds_toArray, List.set_cons_zero, List.set_cons_succ]
  refine wpAnyH_take (i := 1) (oi := _) (v := ?_) rfl (by kernel_rfl) (by kernel_rfl) (by kernel_rfl) (fun _ _ _ h => h) (Or.inl ⟨by rfl, ?_⟩) hHeld ?_
  rotate_left
  · intro wq hSw; (try dsimp only at hSw); go_simp; try with_reducible rfl
  try simp only [Act.put, Nat.zero_add, List.setIfInBounds_toArray, List.set_cons_zero, List.set_cons_succ]
  refine wpAnyH_take (i := 2) (oi := _) (v := ?_) rfl (by kernel_rfl) (by kernel_rfl) (by kernel_rfl) (fun _ _ _ h => h) (Or.inl ⟨by rfl, ?_⟩) hHeld ?_
  rotate_left
  · intro wq hSw; (try dsimp only at hSw); go_simp; try with_reducible rfl
  try simp only [Act.put, Nat.zero_add, List.setIfInBounds_toArray, List.set_cons_zero, List.set_cons_succ]
  refine wpAnyH_take (i := 4) (oi := _) (v := ?_) rfl (by kernel_rfl) (by kernel_rfl) (by kernel_rfl) (fun _ _ _ h => h) (Or.inl ⟨by rfl, ?_⟩) hHeld ?_
  rotate_left
  · intro wq hSw; (try dsimp only at hSw); go_simp; try with_reducible rfl
  try simp only [Act.put, Nat.zero_add, List.setIfInBounds_toArray, List.set_cons_zero, List.set_cons_succ]
  refine wpAnyH_take (i := 7) (oi := _) (v := ?_) rfl (by kernel_rfl) (by kernel_rfl) (by kernel_rfl) (fun _ _ _ h => h) (Or.inl ⟨by rfl, ?_⟩) hHeld ?_
  rotate_left
  · intro wq hSw; (try dsimp only at hSw); go_simp; try with_reducible rfl
  try simp only [Act.put, Nat.zero_add, List.setIfInBounds_toArray, List.set_cons_zero, List.set_cons_succ]
  refine wpAnyH_take (i := 8) (oi := _) (v := ?_) rfl (by kernel_rfl) (by kernel_rfl) (by kernel_rfl) (fun _ _ _ h => h) (Or.inl ⟨by rfl, ?_⟩) hHeld ?_
  rotate_left
  · intro wq hSw; (try dsimp only at hSw); go_simp; try with_reducible rfl
  try simp only [Act.put, Nat.zero_add, List.setIfInBounds_toArray, List.set_cons_zero, List.set_cons_succ]
  refine wpAnyH_take (i := 9) (oi := _) (v := ?_) rfl (by kernel_rfl) (by kernel_rfl) (by kernel_rfl) (fun _ _ _ h => h) (Or.inl ⟨by rfl, ?_⟩) hHeld ?_
  rotate_left
  · intro wq hSw; (try dsimp only at hSw); go_simp; try with_reducible rfl
  try simp only [Act.put, Nat.zero_add, List.setIfInBounds_toArray, List.set_cons_zero, List.set_cons_succ]
  refine wpAnyH_take (i := 10) (oi := _) (v := ?_) rfl (by kernel_rfl) (by kernel_rfl) (by kernel_rfl) (fun _ _ _ h => h) (Or.inl ⟨by rfl, ?_⟩) hHeld ?_
  rotate_left
  · intro wq hSw; (try dsimp only at hSw); go_simp; try with_reducible rfl
  try simp only [Act.put, Nat.zero_add, List.setIfInBounds_toArray, List.set_cons_zero, List.set_cons_succ]
  refine wpAnyH_ready (rs := [3, 5]) (by kernel_rfl) (by simp) ?_
  refine AllReadyH.cons (o := ⟨some 7, _, _, _, _, _⟩) rfl (fun K hK => ?_) (AllReadyH.cons (o := ⟨some 9, _, _, _, _, _⟩) rfl (fun K hK => ?_) (AllReadyH.nil))
  focus
    refine step_append rfl rfl 65 jp _ 2 24 (by kernel_rfl) HJ.out.1 HJ.out.2.1 HJ.out.2.2.1 HJ.out.2.2.2.1 HJ.out.2.2.2.2 none 0 0 [] (by rfl) (Sl.nil _ _ _) aclA n aclC cA (by rfl) (HS.out.old HRA.out) HOA.out ?h63 ?hb ?_
    case h63 => unfold maxLen; omega
    case hb => omega
    intro a7 cap7 w7 hS7 hM7 hF7 hN7 hR7
    have hS := (HS.out.nilSlice 65 2).regrow 0 rfl hS7 hM7 hF7
    simp only [List.set_cons_zero, Nat.zero_add, List.nil_append] at hS
    refine hK.out _ _ (blk_cell (hS.box 1 rfl) 6 _ rfl) (fun hHeld => ?_)
    clear hK K
    try simp only [Act.put, Nat.zero_add, List.setIfInBounds_toArray, List.set_cons_zero, List.set_cons_succ]
    clear HS hS7 hM7 hF7 hN7 hR7
    have HS := Lib.hid hS
    clear hS
    refine wpAnyH_ready (rs := [5]) (by kernel_rfl) (by simp) ?_
    refine AllReadyH.cons (o := ⟨some 9, _, _, _, _, _⟩) rfl (fun K hK => ?_) (AllReadyH.nil)
    have hS := HS.out.slice1 #[.int .i64 77, .string ⟨#[]⟩] 65 2 1 rfl (by unfold maxLen; omega)
    go_simp
    refine hK.out _ _ (((Mod.refl (fun _ => False) _).alloc _).cell hHeld id) (fun hHeld => ?_)
    clear hK K
    try simp only [Act.put, Nat.zero_add, List.setIfInBounds_toArray, List.set_cons_zero, List.set_cons_succ]
    generalize w7.alloc (.cells #[.int .i64 77, .string ⟨#[]⟩] 65) = V5 at hS hHeld ⊢
    generalize w7.heap.size = sb at hS ⊢
    clear HS
    have HS := Lib.hid hS
    clear hS
    refine wpAnyH_ready (rs := [6]) (by kernel_rfl) (by simp) ?_
    refine AllReadyH.cons (o := ⟨some 10, _, _, _, _, _⟩) rfl (fun K hK => ?_) (AllReadyH.nil)
    refine step_append rfl rfl 65 jp _ 2 24 (by kernel_rfl) HJ.out.1 HJ.out.2.1 HJ.out.2.2.1 HJ.out.2.2.2.1 HJ.out.2.2.2.2 a7 n cap7 cA (by rfl) (HS.out.slice 1 rfl) (some ⟨sb, 0, none⟩) 1 1 [.int .i64 77, .string ⟨#[]⟩] (by rfl) (HS.out.slice 0 rfl).rd (by intro u hu; simp only [List.mem_cons, List.not_mem_nil, or_false] at hu; rcases hu with rfl | rfl <;> rfl) ?h63 ?hb ?_
    case h63 => unfold maxLen; omega
    case hb => omega
    intro a8 cap8 w8 hS8 hM8 hF8 hN8 hR8
    have hS := HS.out.regrow 1 rfl hS8 hM8 hF8
    simp only [List.set_cons_succ, List.set_cons_zero] at hS
    refine hK.out _ _ (blk_cell (hS.box 2 rfl) 6 _ rfl) (fun hHeld => ?_)
    clear hK K
    try simp only [Act.put, Nat.zero_add, List.setIfInBounds_toArray, List.set_cons_zero, List.set_cons_succ]
    clear HS hS8 hM8 hF8 hN8 hR8
    have HS := Lib.hid hS
    clear hS
    refine wpAnyH_ready (rs := [11]) (by kernel_rfl) (by simp) ?_
    refine AllReadyH.cons (o := ⟨some 15, _, _, _, _, _⟩) rfl (fun K hK => ?_) (AllReadyH.nil)
    have hcut := HS.out.slice 1 rfl
    refine step_upto rfl rfl 65 2 (by kernel_rfl) (by kernel_rfl) (by kernel_rfl) a8 (n + 1) cap8 n (by rfl) (by rfl) hcut.plain (by have := hcut.2.1; omega) hcut.2.2.1 ?_
    refine hK.out _ _ (hHeld) (fun hHeld => ?_)
    clear hK K
    try simp only [Act.put, Nat.zero_add, List.setIfInBounds_toArray, List.set_cons_zero, List.set_cons_succ]
    clear hcut
    refine wpAnyH_take (i := 12) (oi := _) (v := ?_) rfl (by kernel_rfl) (by kernel_rfl) (by kernel_rfl) (fun _ _ _ h => h) (Or.inl ⟨by rfl, ?_⟩) hHeld ?_
    rotate_left
    · intro wq hSw; (try dsimp only at hSw); go_simp; try with_reducible rfl
    try simp only [Act.put, Nat.zero_add, List.setIfInBounds_toArray, List.set_cons_zero, List.set_cons_succ]
    refine wpAnyH_take (i := 13) (oi := _) (v := ?_) rfl (by kernel_rfl) (by kernel_rfl) (by kernel_rfl) (fun _ _ _ h => h) (Or.inl ⟨by rfl, ?_⟩) hHeld ?_
    rotate_left
    · intro wq hSw; (try dsimp only at hSw); go_simp; try with_reducible rfl
    try simp only [Act.put, Nat.zero_add, List.setIfInBounds_toArray, List.set_cons_zero, List.set_cons_succ]
    refine wpAnyH_done (by kernel_rfl) ?_ _
    have c6 := blk_cell (HS.out.box 2 rfl) 6 _ rfl
    have f6 := blk_free (HS.out.box 2 rfl) 6
    have z6 := heap_lt (HS.out.box 2 rfl)
    refine LastQ.step rfl rfl ?_
    go_simp
    have hS := HS.out.set 2 rfl 6 (.slice a8 n cap8)
    simp only [List.set_cons_succ, List.set_cons_zero] at hS
    have HSZ := Lib.hid (lent_a hS)
    clear HS c6 f6 z6 hHeld hS
    simp only [Nat.zero_add, List.nil_append, List.setIfInBounds_toArray, List.set_cons_succ, List.set_cons_zero] at HSZ
  rotate_left
  focus
    have hS := HS.out.slice1 #[.int .i64 77, .string ⟨#[]⟩] 65 2 1 rfl (by unfold maxLen; omega)
    go_simp
    refine hK.out _ _ (((Mod.refl (fun _ => False) _).alloc _).cell hHeld id) (fun hHeld => ?_)
    clear hK K
    try simp only [Act.put, Nat.zero_add, List.setIfInBounds_toArray, List.set_cons_zero, List.set_cons_succ]
    generalize V.alloc (.cells #[.int .i64 77, .string ⟨#[]⟩] 65) = V5 at hS hHeld ⊢
    generalize V.heap.size = sb at hS ⊢
    clear HS
    have HS := Lib.hid hS
    clear hS
    refine wpAnyH_ready (rs := [3]) (by kernel_rfl) (by simp) ?_
    refine AllReadyH.cons (o := ⟨some 7, _, _, _, _, _⟩) rfl (fun K hK => ?_) (AllReadyH.nil)
    refine step_append rfl rfl 65 jp _ 2 24 (by kernel_rfl) HJ.out.1 HJ.out.2.1 HJ.out.2.2.1 HJ.out.2.2.2.1 HJ.out.2.2.2.2 none 0 0 [] (by rfl) (Sl.nil _ _ _) aclA n aclC cA (by rfl) (HS.out.old HRA.out) HOA.out ?h63 ?hb ?_
    case h63 => unfold maxLen; omega
    case hb => omega
    intro a7 cap7 w7 hS7 hM7 hF7 hN7 hR7
    have hS := (HS.out.nilSlice 65 2).regrow 0 rfl hS7 hM7 hF7
    simp only [List.set_cons_zero, Nat.zero_add, List.nil_append] at hS
    refine hK.out _ _ (blk_cell (hS.box 2 rfl) 6 _ rfl) (fun hHeld => ?_)
    clear hK K
    try simp only [Act.put, Nat.zero_add, List.setIfInBounds_toArray, List.set_cons_zero, List.set_cons_succ]
    clear HS hS7 hM7 hF7 hN7 hR7
    have HS := Lib.hid hS
    clear hS
    refine wpAnyH_ready (rs := [6]) (by kernel_rfl) (by simp) ?_
    refine AllReadyH.cons (o := ⟨some 10, _, _, _, _, _⟩) rfl (fun K hK => ?_) (AllReadyH.nil)
    refine step_append rfl rfl 65 jp _ 2 24 (by kernel_rfl) HJ.out.1 HJ.out.2.1 HJ.out.2.2.1 HJ.out.2.2.2.1 HJ.out.2.2.2.2 a7 n cap7 cA (by rfl) (HS.out.slice 0 rfl) (some ⟨sb, 0, none⟩) 1 1 [.int .i64 77, .string ⟨#[]⟩] (by rfl) (HS.out.slice 1 rfl).rd (by intro u hu; simp only [List.mem_cons, List.not_mem_nil, or_false] at hu; rcases hu with rfl | rfl <;> rfl) ?h63 ?hb ?_
    case h63 => unfold maxLen; omega
    case hb => omega
    intro a8 cap8 w8 hS8 hM8 hF8 hN8 hR8
    have hS := HS.out.regrow 0 rfl hS8 hM8 hF8
    simp only [List.set_cons_succ, List.set_cons_zero] at hS
    refine hK.out _ _ (blk_cell (hS.box 2 rfl) 6 _ rfl) (fun hHeld => ?_)
    clear hK K
    try simp only [Act.put, Nat.zero_add, List.setIfInBounds_toArray, List.set_cons_zero, List.set_cons_succ]
    clear HS hS8 hM8 hF8 hN8 hR8
    have HS := Lib.hid hS
    clear hS
    refine wpAnyH_ready (rs := [11]) (by kernel_rfl) (by simp) ?_
    refine AllReadyH.cons (o := ⟨some 15, _, _, _, _, _⟩) rfl (fun K hK => ?_) (AllReadyH.nil)
    have hcut := HS.out.slice 0 rfl
    refine step_upto rfl rfl 65 2 (by kernel_rfl) (by kernel_rfl) (by kernel_rfl) a8 (n + 1) cap8 n (by rfl) (by rfl) hcut.plain (by have := hcut.2.1; omega) hcut.2.2.1 ?_
    refine hK.out _ _ (hHeld) (fun hHeld => ?_)
    clear hK K
    try simp only [Act.put, Nat.zero_add, List.setIfInBounds_toArray, List.set_cons_zero, List.set_cons_succ]
    clear hcut
    refine wpAnyH_take (i := 12) (oi := _) (v := ?_) rfl (by kernel_rfl) (by kernel_rfl) (by kernel_rfl) (fun _ _ _ h => h) (Or.inl ⟨by rfl, ?_⟩) hHeld ?_
    rotate_left
    · intro wq hSw; (try dsimp only at hSw); go_simp; try with_reducible rfl
    try simp only [Act.put, Nat.zero_add, List.setIfInBounds_toArray, List.set_cons_zero, List.set_cons_succ]
    refine wpAnyH_take (i := 13) (oi := _) (v := ?_) rfl (by kernel_rfl) (by kernel_rfl) (by kernel_rfl) (fun _ _ _ h => h) (Or.inl ⟨by rfl, ?_⟩) hHeld ?_
    rotate_left
    · intro wq hSw; (try dsimp only at hSw); go_simp; try with_reducible rfl
    try simp only [Act.put, Nat.zero_add, List.setIfInBounds_toArray, List.set_cons_zero, List.set_cons_succ]
    refine wpAnyH_done (by kernel_rfl) ?_ _
    have c6 := blk_cell (HS.out.box 2 rfl) 6 _ rfl
    have f6 := blk_free (HS.out.box 2 rfl) 6
    have z6 := heap_lt (HS.out.box 2 rfl)
    refine LastQ.step rfl rfl ?_
    go_simp
    have hS := HS.out.set 2 rfl 6 (.slice a8 n cap8)
    simp only [List.set_cons_succ, List.set_cons_zero] at hS
    have HSZ := Lib.hid (lent_b hS)
    clear HS c6 f6 z6 hHeld hS
    simp only [Nat.zero_add, List.nil_append, List.setIfInBounds_toArray, List.set_cons_succ, List.set_cons_zero] at HSZ
  all_goals
    have hS := HSZ.out
    clear HSZ
    generalize w8.setCell {block := tb, off := 6} (Value.slice a8 n cap8) = V9 at hS ⊢
    have c10 := blk_cell (hS.box 0 rfl) 10 _ rfl
    have z10 := heap_lt (hS.box 0 rfl)
    have HS := Lib.hid (hS.nilSlice 37 8)
    clear hS
    go_upto_region 4 with (at_builtin; refine wpList_append 37 ip iz 8 112 (by kernel_rfl) HI.out.1 HI.out.2.1 HI.out.2.2.1 HI.out.2.2.2.1 HI.out.2.2.2.2 none 0 0 [] rfl (HS.out.slice 0 rfl) subsA m subsC cS rfl (HS.out.old HRS.out) HOS.out (by unfold maxLen; omega) (by omega) ?_; intro a9 cap9 w9 hS9 hM9 hF9 hN9 hR9; have hSA := HS.out.regrow 0 rfl hS9 hM9 hF9)
    simp only [List.set_cons_zero, Nat.zero_add, List.nil_append] at hSA ⊢
    clear HS hS9 hM9 hF9 hN9 hR9 c10 z10
    have HS := Lib.hid (hSA.slice1 #[.int .i64 77, .string ⟨#[]⟩, .string ⟨#[]⟩, .slice none 0 0, .int .i64 0, .int .i64 0, .int .i64 0, .slice none 0 0] 37 8 1 rfl (by unfold maxLen; omega))
    clear hSA
    go_upto_region 5 with (first
      | (at_builtin; refine wpList_append 37 ip iz 8 112 (by kernel_rfl) HI.out.1 HI.out.2.1 HI.out.2.2.1 HI.out.2.2.2.1 HI.out.2.2.2.2 a9 m cap9 cS rfl (HS.out.slice 1 rfl) (some ⟨w9.heap.size, 0, none⟩) 1 1 [.int .i64 77, .string ⟨#[]⟩, .string ⟨#[]⟩, .slice none 0 0, .int .i64 0, .int .i64 0, .int .i64 0, .slice none 0 0] rfl (HS.out.slice 0 rfl).rd (by intro u hu; simp only [List.mem_cons, List.not_mem_nil, or_false] at hu; rcases hu with rfl | rfl | rfl | rfl | rfl | rfl | rfl | rfl <;> rfl) (by unfold maxLen; omega) (by omega) ?_; intro b8 cpb w10 hSb hMb hFb hNb hRb; have hSB := (HS.out.regrow 1 rfl hSb hMb hFb).tail; clear hNb hRb hSb hMb hFb HS; simp only [List.set_cons_zero, List.tail_cons] at hSB; have c10 := blk_cell (hSB.box 1 rfl) 10 _ rfl; have f10 := blk_free (hSB.box 1 rfl) 10; have z10 := heap_lt (hSB.box 1 rfl))
      | ((with_reducible refine at_list ?_); refine wpList_upto 37 8 (by kernel_rfl) (by kernel_rfl) (by kernel_rfl) b8 (m + 1) cpb m (by rfl) (by rfl) (hSB.slice 0 rfl).plain (by have := (hSB.slice 0 rfl).2.1; omega) (hSB.slice 0 rfl).2.2.1 ?_))
    have hS := hSB.set 1 rfl 10 (.slice b8 m cpb)
    simp only [List.set_cons_succ, List.set_cons_zero, List.setIfInBounds_toArray] at hS
    clear hSB c10 f10 z10
    generalize w10.setCell {block := tb, off := 10} (Value.slice b8 m cpb) = V10 at hS ⊢
    have HS := Lib.hid hS
    clear hS
    go_wp2_with (first | ((with_reducible refine at_list ?_); refine wpList_load_chunk 11 _ Tryz.underlying39 rfl sizeEnt ⟨tb, 0, none⟩ rfl [.int .i64 zx, .int .i64 se, .int .i64 xi, .int .i64 kind, .string path, .string data, .slice a8 n cap8, .int .i64 owner, .int .i64 number, .int .i64 err, .slice b8 m cpb] rfl (box_chunk (cs := [.int .i64 zx, .int .i64 se, .int .i64 xi, .int .i64 kind, .string path, .string data, .slice a8 n cap8, .int .i64 owner, .int .i64 number, .int .i64 err, .slice b8 m cpb]) (HS.out.box 1 rfl)) ?_) | ((with_reducible refine at_list ?_); refine wpList_store_whole 11 sizeEnt rb rfl _ _ (HS.out.box 2 rfl) rfl [.int .i64 zx, .int .i64 se, .int .i64 xi, .int .i64 kind, .string path, .string data, .slice a8 n cap8, .int .i64 owner, .int .i64 number, .int .i64 err, .slice b8 m cpb] rfl rfl (by kernel_rfl) ?_; intro w11 hg11 hM11 hz11))
    refine bodyPost_ret (results_cell rfl _ w11 rb _ _ _ _ rfl hg11 Tryz.underlying39 rfl sizeEnt) rfl ?_
    have hS := HS.out.rebox 2 rfl hg11 hM11
    simp only [List.set_cons_succ, List.set_cons_zero] at hS
    refine ⟨a8, cap8, b8, cpb, rfl, ?_⟩
    exact (hS.perm (List.perm_append_comm_assoc [_] [_, _] _)).tail.tail
end Go.Proofs.YtmbkbkfcbloafaaGreat
