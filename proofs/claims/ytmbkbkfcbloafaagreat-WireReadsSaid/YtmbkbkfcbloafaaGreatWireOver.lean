/-
  Lists that are written over: one element of a slice put anew; the law's OverEntry.
  No condition: every law states its own.
-/
import Derived.Test.YtmbkbkfcbloafaaGreatWireZ
import Derived.Test.YtmbkbkfcbloafaaGreatJbase
import Derived.Deep.Cut
namespace Go.Proofs.YtmbkbkfcbloafaaGreat
open Go.RowKit
set_option linter.unusedSectionVars false
set_option linter.unusedSimpArgs false
set_option linter.unusedVariables false
set_option maxRecDepth 100000

/-- What lies in a slice that was written is let go. -/
theorem St.wreck {w0 w w' : World} {l : List Thing} (h : St w0 w l) (i : Nat) {E k b off n cap : Nat} {cs : List Value} (hi : l[i]? = some (sl E k (some ⟨b, off, none⟩) n cap cs)) (hm : Mod (fun x => x = b) w w') : St w0 w' (l.set i no) := by
  obtain ⟨F1, ⟨hh, hF⟩, hz, hk⟩ := h.at i hi
  exact hk w' no (fun _ => False) (hm.mono (fun x _ hx => (hF x).2 (by rw [hx]; rfl))) (fun _ h => h) (fun _ h => h.elim)
theorem St.headgrp {w0 w : World} {a b : Thing} (ts us l : List Thing) (h : St w0 w (a :: b :: grp (grp ts :: us) :: l)) : St w0 w (a :: b :: (ts ++ grp us :: l)) := by
  have h1 : St w0 w (grp (grp ts :: us) :: a :: b :: l) := h.perm (List.perm_append_comm_assoc [a, b] [_] l)
  have h2 : St w0 w (grp ts :: (us ++ (a :: b :: l))) := h1.ungrp
  have h3 : St w0 w (us ++ (grp ts :: a :: b :: l)) := h2.perm (List.perm_append_comm_assoc [grp ts] us (a :: b :: l))
  have h4 : St w0 w (grp ts :: grp us :: a :: b :: l) := h3.regrp.swap
  have h5 : St w0 w (ts ++ (grp us :: a :: b :: l)) := h4.ungrp
  refine h5.perm ?_
  have e1 : ts ++ (grp us :: a :: b :: l) = (ts ++ [grp us]) ++ ([a, b] ++ l) := by simp
  have e2 : a :: b :: (ts ++ grp us :: l) = [a, b] ++ ((ts ++ [grp us]) ++ l) := by simp
  rw [e1, e2]
  exact List.perm_append_comm_assoc _ _ _

set_option maxHeartbeats 8000000 in
theorem overEntry_st {w0 w : World} {l : List Thing} (x : Ent) (hn : x.t.subsN = x.subs.length) (h1 : x.subs.length ≤ 256) (h2 : x.t.acl.length ≤ 256) (h : St w0 w (grp (Ent.things x) :: l)) :
    Calls Tryz.prog 22 #[.agg x.cells.toArray] w (fun e w' => e = .returned (.tuple #[]) ∧ St w0 w' l) := by
  obtain ⟨zx, se, xi, t0, L⟩ := x
  obtain ⟨kind, path, data, acl, aclA, aclC, owner, number, err, subsA, subsN, subsC⟩ := t0
  simp only at hn h1 h2
  obtain ⟨n, hnn⟩ : ∃ n, L.length = n := ⟨_, rfl⟩
  rw [hnn] at hn h1
  have hn := hn.symm
  subst hn
  have hU : St w0 w (sl 65 2 aclA acl.length aclC (acl.flatMap Acl.cells) :: grp (acl.map fun a => grp (Acl.things a)) :: sl 37 8 subsA n subsC (L.flatMap Txn.cells) :: grp (L.map fun a => grp (Txn.things a)) :: l) := h.ungrp
  have hS : St w0 (w.alloc (.cells #[.int .i64 zx, .int .i64 se, .int .i64 xi, .int .i64 kind, .string path, .string data, .slice aclA acl.length aclC, .int .i64 owner, .int .i64 number, .int .i64 err, .slice subsA n subsC] 39)) (bx w.heap.size #[.int .i64 zx, .int .i64 se, .int .i64 xi, .int .i64 kind, .string path, .string data, .slice aclA acl.length aclC, .int .i64 owner, .int .i64 number, .int .i64 err, .slice subsA n subsC] 39 :: sl 37 8 subsA n subsC (L.flatMap Txn.cells) :: grp (L.map fun a => grp (Txn.things a)) :: sl 65 2 aclA acl.length aclC (acl.flatMap Acl.cells) :: grp (acl.map fun a => grp (Acl.things a)) :: l) :=
    (hU.perm (List.perm_append_comm_assoc [_, _] [_, _] l)).box1 #[.int .i64 zx, .int .i64 se, .int .i64 xi, .int .i64 kind, .string path, .string data, .slice aclA acl.length aclC, .int .i64 owner, .int .i64 number, .int .i64 err, .slice subsA n subsC] 39
  have HN := Lib.hid hnn
  have HS := Lib.hid hS
  obtain ⟨ip, iz, hi1, hi2, hi3, hi4, hi5⟩ := info_row infoTxn
  have HI := Lib.hid (And.intro hi1 (And.intro hi2 (And.intro hi3 (And.intro hi4 hi5))))
  obtain ⟨jp, jz, hj1, hj2, hj3, hj4, hj5⟩ := info_row infoAcl
  have HJ := Lib.hid (And.intro hj1 (And.intro hj2 (And.intro hj3 (And.intro hj4 hj5))))
  clear h hU hS hnn hi1 hi2 hi3 hi4 hi5 hj1 hj2 hj3 hj4 hj5
  simp only [Ent.cells]
  go_enter Tryz.func22, Tryz.ntmps22
  go_wp2_with fail
  generalize w.alloc (.cells #[.int .i64 zx, .int .i64 se, .int .i64 xi, .int .i64 kind, .string path, .string data, .slice aclA acl.length aclC, .int .i64 owner, .int .i64 number, .int .i64 err, .slice subsA n subsC] 39) = W at *
  generalize w.heap.size = tb at *
  go_loopg [2, 3, 4] n (fun g y z3 z4 wr => ∃ (i : Nat) (csS : List Value), i + g = n ∧ y = .int .i64 i ∧ Hid (∀ j t m u, i ≤ j → L[j]? = some t → (Txn.cells t)[m]? = some u → csS[j * 8 + m]? = some u) ∧ St w0 wr (bx tb #[.int .i64 zx, .int .i64 se, .int .i64 xi, .int .i64 kind, .string path, .string data, .slice aclA acl.length aclC, .int .i64 owner, .int .i64 number, .int .i64 err, .slice subsA n subsC] 39 :: sl 37 8 subsA n subsC csS :: grp ((L.drop i).map fun a => grp (Txn.things a)) :: sl 65 2 aclA acl.length aclC (acl.flatMap Acl.cells) :: grp (acl.map fun a => grp (Acl.things a)) :: l))
  case atStart => exact ⟨0, _, by omega, rfl, Lib.hid fun j t m u _ ht hu => flat_cell Txn.cells (fun _ => rfl) ht hu, HS.out⟩
  case round =>
    obtain ⟨i, csS, hig, rfl, HC, hS⟩ := hrel
    clear HS
    have c10 := blk_cell (hS.box 0 rfl) 10 _ rfl
    have c6 := blk_cell (hS.box 0 rfl) 6 _ rfl
    have ztb := heap_lt (hS.box 0 rfl)
    by_cases hlt : i < n
    · have hx : L[i]? = some (L[i]'(HN.out ▸ hlt)) := List.getElem?_eq_getElem _
      have hdr : L.drop i = L[i]'(HN.out ▸ hlt) :: L.drop (i + 1) := List.drop_eq_getElem_cons _
      obtain ⟨t, ht⟩ : ∃ t, L[i]'(HN.out ▸ hlt) = t := ⟨_, rfl⟩
      rw [ht] at hx hdr
      rw [hdr, List.map_cons] at hS
      obtain ⟨tkind, tpath, tdata, tacl, taclA, taclC, towner, tnumber, terr, tsubsA, tsubsN, tsubsC⟩ := t
      have hS : St w0 wr (bx tb #[.int .i64 zx, .int .i64 se, .int .i64 xi, .int .i64 kind, .string path, .string data, .slice aclA acl.length aclC, .int .i64 owner, .int .i64 number, .int .i64 err, .slice subsA n subsC] 39 :: sl 37 8 subsA n subsC csS :: sl 65 2 taclA tacl.length taclC (tacl.flatMap Acl.cells) :: grp (tacl.map fun a => grp (Acl.things a)) :: grp ((L.drop (i + 1)).map fun a => grp (Txn.things a)) :: sl 65 2 aclA acl.length aclC (acl.flatMap Acl.cells) :: grp (acl.map fun a => grp (Acl.things a)) :: l) := St.headgrp _ _ _ hS
      obtain ⟨b, off, c, rfl, hg, hfit⟩ := (hS.slice 1 rfl).block (by omega)
      have hcs : csS[i * 8 + 3]? = some (.slice taclA tacl.length taclC) := HC.out i _ 3 _ (Nat.le_refl _) hx rfl
      have c3 : wr.cell? ⟨b, off + i * 8 + 3, none⟩ = some (.slice taclA tacl.length taclC) := by
        obtain ⟨_, _, _, ⟨h0, _⟩ | ⟨y, hy, hcc⟩⟩ := (hS.slice 1 rfl).rd
        · cases h0
        · cases hy
          have := hcc _ _ hcs
          rw [add_none] at this
          rw [Nat.add_assoc]; exact this
      obtain ⟨m, hm⟩ : ∃ m, tacl.length = m := ⟨_, rfl⟩
      rw [hm] at hS c3
      have hm63 : m ≤ 2 ^ 63 - 1 := by have := (hS.slice 2 rfl).2.1; have := (hS.slice 2 rfl).2.2.1; unfold maxLen at this; omega
      have hzb := heap_lt hg
      have HS := Lib.hid hS
      clear hx hdr ht hg hfit hcs hS hm
      go_wp2
      go_loopg [4] m (fun g y wr => ∃ (k : Nat) (csA : List Value), k + g = m ∧ y = .int .i64 k ∧ St w0 wr (bx tb #[.int .i64 zx, .int .i64 se, .int .i64 xi, .int .i64 kind, .string path, .string data, .slice aclA acl.length aclC, .int .i64 owner, .int .i64 number, .int .i64 err, .slice (some ⟨b, off, none⟩) n subsC] 39 :: sl 37 8 (some ⟨b, off, none⟩) n subsC csS :: sl 65 2 taclA m taclC csA :: grp (tacl.map fun a => grp (Acl.things a)) :: grp ((L.drop (i + 1)).map fun a => grp (Txn.things a)) :: sl 65 2 aclA acl.length aclC (acl.flatMap Acl.cells) :: grp (acl.map fun a => grp (Acl.things a)) :: l))
      case atStart => exact ⟨0, _, by omega, rfl, HS.out⟩
      case round =>
        obtain ⟨k, csA, hkg, rfl, hS⟩ := hrel
        clear HS c3 c10 c6 ztb hzb
        by_cases hltk : k < m
        · obtain ⟨b2, off2, c2, rfl, hg2, hfit2⟩ := (hS.slice 2 rfl).block (by omega)
          have hmc := (hS.slice 2 rfl).2.1
          have hz2 := heap_lt hg2
          have HS := Lib.hid hS
          have HG2 := Lib.hid hg2
          have HFT := Lib.hid (show off2 + k * 2 + 2 ≤ c2.size by omega)
          have HPT := Lib.hid (show k * 2 + 2 ≤ m * 2 by omega)
          clear hS hg2 hfit2 hmc
          go_wp2_with ((with_reducible refine at_list ?_); refine wpList_store_chunk 2 sizeAcl b2 (off2 + k * 2) rfl _ _ HG2.out _ rfl [.int .i64 (-3), .string ⟨#[]⟩] rfl rfl HFT.out (by intro u hu; simp only [List.mem_cons, List.not_mem_nil, or_false] at hu; rcases hu with rfl | rfl <;> rfl) ?_; intro w5 hg5 hM5 hz5)
          have HS5 := Lib.hid (HS.out.reslice 2 rfl (Sl.put (HS.out.slice 2 rfl) HG2.out (k * 2) [.int .i64 (-3), .string ⟨#[]⟩] HPT.out hg5) hM5)
          clear HS HG2 hg5 hM5 hz5
          go_roundg (gk - 1)
          case measure => omega
          case rel => exact ⟨k + 1, _, by omega, by simp, HS5.out⟩
        · clear hkg
          obtain ⟨b2, off2, c2, he, hg2, hfit2⟩ := (hS.slice 1 rfl).block (by omega)
          simp only [Option.some.injEq, Addr.mk.injEq, and_true] at he
          obtain ⟨rfl, rfl⟩ := he
          have hmc := (hS.slice 1 rfl).2.1
          have c10 := blk_cell (hS.box 0 rfl) 10 _ rfl
          have ztb := heap_lt (hS.box 0 rfl)
          have hz2 := heap_lt hg2
          have hcl : csS.length = n * 8 := (hS.slice 1 rfl).1
          have HS := Lib.hid hS
          have HG2 := Lib.hid hg2
          have HFT := Lib.hid (show off + i * 8 + 8 ≤ c2.size by omega)
          have HPT := Lib.hid (show i * 8 + 8 ≤ n * 8 by omega)
          have HCL := Lib.hid hcl
          clear hS hg2 hfit2 hmc hcl
          go_wp2_with ((with_reducible refine at_list ?_); refine wpList_store_chunk 8 sizeTxn b (off + i * 8) rfl _ _ HG2.out _ rfl [.int .i64 (-3), .string ⟨#[]⟩, .string ⟨#[]⟩, .slice none 0 0, .int .i64 0, .int .i64 0, .int .i64 0, .slice none 0 0] rfl rfl HFT.out (by intro u hu; simp only [List.mem_cons, List.not_mem_nil, or_false] at hu; rcases hu with rfl | rfl | rfl | rfl | rfl | rfl | rfl | rfl <;> rfl) ?_; intro w5 hg5 hM5 hz5)
          have HS5 := Lib.hid (HS.out.reslice 1 rfl (Sl.put (HS.out.slice 1 rfl) HG2.out (i * 8) [.int .i64 (-3), .string ⟨#[]⟩, .string ⟨#[]⟩, .slice none 0 0, .int .i64 0, .int .i64 0, .int .i64 0, .slice none 0 0] HPT.out hg5) hM5)
          clear HS HG2 hg5 hM5 hz5
          go_roundg (n - (i + 1))
          case measure => omega
          case rel =>
            refine ⟨i + 1, _, by omega, by simp, Lib.hid fun j t q u hj ht hu => ?_, (HS5.out.perm (List.perm_append_comm_assoc [_, _] [_, _] _)).tail.tail⟩
            have hq : q < 8 := (List.getElem?_eq_some_iff.1 hu).1
            rw [splice_after (by show i * 8 + 8 ≤ _; rw [HCL.out]; exact HPT.out) (by show i * 8 + 8 ≤ _; omega)]
            exact HC.out j t q u (by omega) ht hu
    · clear hig HC
      obtain ⟨g1, hg1⟩ : ∃ g, grp ((L.drop i).map fun a => grp (Txn.things a)) = g := ⟨_, rfl⟩
      rw [hg1] at hS
      obtain ⟨m, hm⟩ : ∃ m, acl.length = m := ⟨_, rfl⟩
      rw [hm] at hS h2 c6
      obtain ⟨csA0, hcsA⟩ : ∃ c, acl.flatMap Acl.cells = c := ⟨_, rfl⟩
      rw [hcsA] at hS
      have HS := Lib.hid hS
      clear hS hg1 hcsA
      rw [hm]
      clear hm
      go_wp2
      go_loopg [5] m (fun g y wr => ∃ (k : Nat) (csA : List Value), k + g = m ∧ y = .int .i64 k ∧ St w0 wr (bx tb #[.int .i64 zx, .int .i64 se, .int .i64 xi, .int .i64 kind, .string path, .string data, .slice aclA m aclC, .int .i64 owner, .int .i64 number, .int .i64 err, .slice subsA n subsC] 39 :: sl 37 8 subsA n subsC csS :: g1 :: sl 65 2 aclA m aclC csA :: grp (acl.map fun a => grp (Acl.things a)) :: l))
      case atStart => exact ⟨0, _, by omega, rfl, HS.out⟩
      case round =>
        obtain ⟨k, csA, hkg, rfl, hS⟩ := hrel
        clear HS c6 c10 ztb
        have c6 := blk_cell (hS.box 0 rfl) 6 _ rfl
        have c10 := blk_cell (hS.box 0 rfl) 10 _ rfl
        have ztb := heap_lt (hS.box 0 rfl)
        by_cases hltk : k < m
        · obtain ⟨b2, off2, c2, rfl, hg2, hfit2⟩ := (hS.slice 3 rfl).block (by omega)
          have hmc := (hS.slice 3 rfl).2.1
          have hz2 := heap_lt hg2
          have HS := Lib.hid hS
          have HG2 := Lib.hid hg2
          have HFT := Lib.hid (show off2 + k * 2 + 2 ≤ c2.size by omega)
          have HPT := Lib.hid (show k * 2 + 2 ≤ m * 2 by omega)
          clear hS hg2 hfit2 hmc
          go_wp2_with ((with_reducible refine at_list ?_); refine wpList_store_chunk 2 sizeAcl b2 (off2 + k * 2) rfl _ _ HG2.out _ rfl [.int .i64 (-3), .string ⟨#[111, 118, 101, 114]⟩] rfl rfl HFT.out (by intro u hu; simp only [List.mem_cons, List.not_mem_nil, or_false] at hu; rcases hu with rfl | rfl <;> rfl) ?_; intro w5 hg5 hM5 hz5)
          have HS5 := Lib.hid (HS.out.reslice 3 rfl (Sl.put (HS.out.slice 3 rfl) HG2.out (k * 2) [.int .i64 (-3), .string ⟨#[111, 118, 101, 114]⟩] HPT.out hg5) hM5)
          clear HS HG2 hg5 hM5 hz5
          go_roundg (m - (k + 1))
          case measure => omega
          case rel => exact ⟨k + 1, _, by omega, by simp, HS5.out⟩
        · clear hkg
          have HS6 := Lib.hid (hS.slice1 #[.int .i64 (-4), .string ⟨#[]⟩, .string ⟨#[]⟩, .slice none 0 0, .int .i64 0, .int .i64 0, .int .i64 0, .slice none 0 0] 37 8 1 rfl (by unfold maxLen; omega))
          clear hS
          go_upto_region 15 with (at_builtin; refine wpList_append 37 ip iz 8 112 (by kernel_rfl) HI.out.1 HI.out.2.1 HI.out.2.2.1 HI.out.2.2.2.1 HI.out.2.2.2.2 subsA n subsC csS rfl (HS6.out.slice 2 rfl) (some ⟨wr.heap.size, 0, none⟩) 1 1 [.int .i64 (-4), .string ⟨#[]⟩, .string ⟨#[]⟩, .slice none 0 0, .int .i64 0, .int .i64 0, .int .i64 0, .slice none 0 0] rfl (HS6.out.slice 0 rfl).rd (by intro u hu; simp only [List.mem_cons, List.not_mem_nil, or_false] at hu; rcases hu with rfl | rfl | rfl | rfl | rfl | rfl | rfl | rfl <;> rfl) (by unfold maxLen; omega) (by omega) ?_; intro a6 cap6 w6 hS6 hM6 hF6 hN6 hR6; have HSA := Lib.hid ((HS6.out.regrow 2 rfl hS6 hM6 hF6).tail); clear hN6 hR6 hS6 hM6 hF6)
          have hS := HSA.out
          simp only [List.set_cons_succ, List.set_cons_zero, List.tail_cons] at hS
          clear HS6 HSA c6 c10 ztb
          have c6 := blk_cell (hS.box 0 rfl) 6 _ rfl
          have ztb := heap_lt (hS.box 0 rfl)
          have HS7 := Lib.hid (hS.slice1 #[.int .i64 (-4), .string ⟨#[]⟩] 65 2 1 rfl (by unfold maxLen; omega))
          clear hS
          go_upto_region 16 with (at_builtin; refine wpList_append 65 jp jz 2 24 (by kernel_rfl) HJ.out.1 HJ.out.2.1 HJ.out.2.2.1 HJ.out.2.2.2.1 HJ.out.2.2.2.2 aclA m aclC csA rfl (HS7.out.slice 4 rfl) (some ⟨w6.heap.size, 0, none⟩) 1 1 [.int .i64 (-4), .string ⟨#[]⟩] rfl (HS7.out.slice 0 rfl).rd (by intro u hu; simp only [List.mem_cons, List.not_mem_nil, or_false] at hu; rcases hu with rfl | rfl <;> rfl) (by unfold maxLen; omega) (by omega) ?_; intro a7 cap7 w7 hS7 hM7 hF7 hN7 hR7; have HSB := Lib.hid ((HS7.out.regrow 4 rfl hS7 hM7 hF7).tail); clear hN7 hR7 hS7 hM7 hF7)
          have hS := HSB.out
          simp only [List.set_cons_succ, List.set_cons_zero, List.tail_cons] at hS
          clear HS7 HSB c6 ztb
          obtain ⟨b6, o6, k6, rfl, hg6, hfit6⟩ := (hS.slice 1 rfl).block (by omega)
          have hmc := (hS.slice 1 rfl).2.1
          obtain ⟨v6, cw⟩ : ∃ v, w7.cell? ⟨b6, o6 + n * 8 + 4, none⟩ = some v := ⟨_, blk_cell hg6 (o6 + n * 8 + 4) _ (Array.getElem?_eq_getElem (show o6 + n * 8 + 4 < k6.size by omega))⟩
          have fw := blk_free hg6 (o6 + n * 8 + 4)
          have zw := heap_lt hg6
          have HS := Lib.hid hS
          clear hS hg6 hfit6 hmc
          go_upto_region 17 with (fail)
          have hS := HS.out.wreck 1 rfl ((Mod.refl (fun x => x = b6) w7).setCell ⟨b6, o6 + n * 8 + 4, none⟩ (.int .i64 1) (fun _ => rfl))
          simp only [List.set_cons_succ, List.set_cons_zero] at hS
          generalize w7.setCell ⟨b6, o6 + n * 8 + 4, none⟩ (.int .i64 1) = V at hS ⊢
          clear cw fw zw HS
          obtain ⟨b7, o7, k7, rfl, hg7, hfit7⟩ := (hS.slice 3 rfl).block (by omega)
          have hmc := (hS.slice 3 rfl).2.1
          obtain ⟨v7, cw⟩ : ∃ v, V.cell? ⟨b7, o7 + m * 2, none⟩ = some v := ⟨_, blk_cell hg7 (o7 + m * 2) _ (Array.getElem?_eq_getElem (show o7 + m * 2 < k7.size by omega))⟩
          have fw := blk_free hg7 (o7 + m * 2)
          have zw := heap_lt hg7
          have HS := Lib.hid hS
          clear hS hg7 hfit7 hmc
          go_wp2
          go_end0
          refine ⟨rfl, ?_⟩
          have hS := HS.out.wreck 3 rfl ((Mod.refl (fun x => x = b7) V).setCell ⟨b7, o7 + m * 2, none⟩ (.int .i64 1) (fun _ => rfl))
          exact hS.tail.tail.tail.tail.tail
end Go.Proofs.YtmbkbkfcbloafaaGreat
