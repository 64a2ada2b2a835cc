/-
  The document's Digest of a user's name.
  Conditions: the texts fit.
-/
import Derived.Test.YtamacndbkjpkaaaDoorAclDig
namespace Go.Proofs.YtamacndbkjpkaaaDoor
open Go.RowKit
set_option linter.unusedSectionVars false
set_option linter.unusedSimpArgs false
set_option linter.unusedVariables false
set_option maxRecDepth 100000

theorem take_at (s : ByteArray) (k : Nat) (h : k < s.size) : s.data.toList[k]? = some s[k] := by
  rw [Array.getElem?_toList, Array.getElem?_eq_getElem (show k < s.data.size from h)]; rfl

theorem hstep_eq (G : Int) (c : UInt8) : IntKind.u64.wrap (bits .xor .u64 G (IntKind.u64.wrap (c.toNat : Int)) * 1099511628211) = hstep G c := by
  have h1 : IntKind.u64.wrap (c.toNat : Int) = (c.toNat : Int) := by have := c.toNat_lt; rw [IntKind.wrap_u64]; omega
  rw [h1, IntKind.wrap_u64]; rfl

theorem infoU8 : (Tryd.prog.info? 5).map (fun i => (i.zero, i.size, i.bytes)) = some (some (.int .u8 0), 1, 1) := by kernel_rfl
def sixteen : Array Value := madeCells #[.int .u8 0] 16
theorem make16 (W : World) : (Instr.makeSlice 40 (.int .i64 16) (.int .i64 16)).run Tryd.prog W = .ok (.slice (some ⟨W.heap.size, 0, none⟩) 16 16) (W.alloc (.cells sixteen 5)) := by
  obtain ⟨i, hi, he⟩ := Option.map_eq_some_iff.1 infoU8
  simp only [Prod.mk.injEq] at he
  obtain ⟨hz, hs, hb⟩ := he
  have := run_make (P := Tryd.prog) W 40 5 i _ (by kernel_rfl) hi hz .i64 .i64 16 16 (by omega) (by omega) (by rw [hb]; omega) (by omega)
  rw [hs] at this
  exact this

set_option maxHeartbeats 4000000 in
theorem refDigest_yes (name secret : ByteArray) (hu : isUserL name.data.toList = true) (hs : secret.size + 100 ≤ maxLen) (w : World) :
    Calls Tryd.prog 14 #[.string name, .string secret] w (CopyPost (.tuple #[.string (idOf name secret), .int .i64 0]) w) := by
  have hn12 : name.size ≤ 12 := by
    have : name.data.toList.length = name.size := by rw [Array.length_toList]; rfl
    simp only [isUserL, Bool.and_eq_true, decide_eq_true_eq] at hu
    omega
  have cU := user_any name (by unfold maxLen; omega) w
  rw [hu] at cU
  have hs' : secret.size + 100 ≤ 9223372036854775807 := by unfold maxLen at hs; omega
  clear hu
  obtain ⟨T, hTT⟩ : ∃ T, name ++ ⟨#[58]⟩ ++ secret = T := ⟨_, rfl⟩
  have hTL : T.data.toList = saltL name secret := by rw [← hTT]; simp [saltL, ByteArray.data_append]
  have hTs : T.size = name.size + 1 + secret.size := by rw [← hTT, ByteArray.size_append, ByteArray.size_append]; rfl
  have hT63 : T.size ≤ 9223372036854775807 := by omega
  have HTL := Lib.hid hTL
  clear hTL hTs
  go_enter Tryd.func14, Tryd.ntmps14
  go_wp2_with (go_at_call 24; refine cU.mono ?_; rintro e w1 ⟨rfl, hO1⟩)
  go_loopg [7, 9] T.size (fun g y7 y9 wr => ∃ k : Nat, k + g = T.size ∧ y9 = .int .i64 k ∧ y7 = .int .u64 ((T.data.toList.take k).foldl hstep 14695981039346656037) ∧ wr = w1)
  case atStart => exact ⟨0, by omega, rfl, rfl, rfl⟩
  case round =>
    obtain ⟨k, hk, rfl, rfl, rfl⟩ := hrel
    by_cases hlt : k < T.size
    · have HF := Lib.hid (fold_snoc hstep 14695981039346656037 (take_at T k hlt))
      generalize (T.data.toList.take k).foldl hstep 14695981039346656037 = G at HF ⊢
      go_wp2
      go_roundg (gk - 1)
      case measure => omega
      case rel =>
        refine ⟨k + 1, by omega, by simp, ?_, rfl⟩
        rw [HF.out, ← hstep_eq]
    · have hk2 : k = T.size := by omega
      have hfold : (T.data.toList.take k).foldl hstep 14695981039346656037 = (hshN (saltL name secret) : Int) := by
        rw [hk2, show T.size = T.data.toList.length by rw [Array.length_toList]; rfl, List.take_length, HTL.out]
        exact hshN_eq _
      rw [hfold]
      have hid : idOf name secret = ⟨(name.data.toList ++ 58 :: lowD (hshN (saltL name secret)) 16).toArray⟩ := rfl
      have HID := Lib.hid hid
      have hN := hshN_lt (saltL name secret)
      clear hfold hid
      generalize hshN (saltL name secret) = N at HID hN ⊢
      have hmk := make16 wr
      have h0 : Tail2 (wr.alloc (.cells sixteen 5)) wr.heap.size 16 (lowD N 0) := ⟨_, _, heap_alloc_new wr _, size_madeCells _ _, rfl, fun i v h => by simp [lowD, bc] at h⟩
      have hO2 : Old w (wr.alloc (.cells sixteen 5)) := hO1.alloc _
      have hwsz : w.heap.size ≤ wr.heap.size := hO1.size
      generalize wr.alloc (.cells sixteen 5) = wa at hmk h0 hO2
      have H0 := Lib.hid h0
      clear h0
      generalize hbl : wr.heap.size = bl at hmk H0 hwsz
      go_wp2
      go_loopg [7, 12] 16 (fun g y7 y12 wx => ∃ j : Nat, j + g = 16 ∧ y12 = .int .i64 ((g : Int) - 1) ∧ y7 = .int .u64 ((N / 16 ^ j : Nat) : Int) ∧ Old w wx ∧ Tail2 wx bl g (lowD N j))
      case atStart => exact ⟨0, by omega, by simp, by simp, hO2, H0.out⟩
      case round =>
        obtain ⟨j, hj, rfl, rfl, hO, hTl⟩ := hrel
        obtain ⟨U, hU⟩ : ∃ U, N / 16 ^ j = U := ⟨_, rfl⟩
        rw [hU]
        have hU64 : U < 18446744073709551616 := hU ▸ Nat.lt_of_le_of_lt (Nat.div_le_self _ _) hN
        have HUU := Lib.hid hU
        clear hU
        by_cases hg0 : gk = 0
        · subst hg0
          have hj2 : j = 16 := by omega
          subst hj2
          generalize hL : lowD N 16 = L at hTl HID
          have hLl : L.length = 16 := by rw [← hL, lowD_length]
          have hL63 : (L.length : Int) = 16 := by omega
          have HT := Lib.hid hTl
          clear hTl hL
          have zz : ((0 : Nat) : Int) - 1 = -1 := by omega
          go_wp2_with ((with_reducible refine at_list ?_); refine wpList_toString 5 (by kernel_rfl) (by kernel_rfl) (by kernel_rfl) (some ⟨bl, 0, none⟩) 16 16 rfl L HT.out.rd ?_)
          go_ret2
          refine ⟨?_, hO⟩
          have hE : idOf name secret = name ++ ⟨#[58]⟩ ++ ⟨L.toArray⟩ := by
            rw [HID.out]
            apply ByteArray.ext
            apply Array.toList_inj.1
            simp [ByteArray.data_append]
          rw [hE]
          rfl
        · obtain ⟨m, rfl⟩ : ∃ m, gk = m + 1 := ⟨gk - 1, by omega⟩
          have zm : ((m + 1 : Nat) : Int) - 1 = (m : Int) := by omega
          obtain ⟨v0, hv0⟩ := hTl.cell (m := m) (by omega)
          have hfz := hTl.free m
          have zm16 : (m : Int) < 16 := by omega
          have zm16' : m < 16 := by omega
          have HT := Lib.hid hTl
          clear hTl
          have hrem : (U : Int) % 16 = ((U % 16 : Nat) : Int) := by omega
          have hquo : (U : Int) / 16 = ((U / 16 : Nat) : Int) := by omega
          have hD : U % 16 < 16 := Nat.mod_lt _ (by omega)
          have zD : ((U % 16 : Nat) : Int) < 16 := by omega
          generalize hDD : U % 16 = D at hrem hD zD
          have HDD := Lib.hid hDD
          clear hDD
          generalize hV : U / 16 = V at hquo
          have HV := Lib.hid hV
          clear hV
          have hfl : w.heap.size ≤ bl := hwsz
          go_wp2
          go_roundg m
          case measure => omega
          case rel =>
            refine ⟨j + 1, by omega, rfl, ?_, hO.setCell _ _ (fun h => absurd h (by show ¬ bl < _; omega)), ?_⟩
            · rw [← HV.out, ← HUU.out, Nat.div_div_eq_div_mul, Nat.pow_succ]
            · rw [lowD_front, HUU.out, HDD.out]
              exact HT.out.putD D hD _
end Go.Proofs.YtamacndbkjpkaaaDoor
