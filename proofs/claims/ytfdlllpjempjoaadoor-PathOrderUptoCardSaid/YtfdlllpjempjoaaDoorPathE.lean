/-
  The program's Check.
  Conditions: the text is not longer than 4000000000; the cell of bytealg.MaxLen holds an int.
-/
import Derived.Test.YtfdlllpjempjoaaDoorPathD
namespace Go.Proofs.YtfdlllpjempjoaaDoor
open Go.RowKit
set_option linter.unusedSectionVars false
set_option linter.unusedSimpArgs false
set_option linter.unusedVariables false
set_option maxRecDepth 100000

theorem parts_le : ∀ (l x : List UInt8), x ∈ parts l → x.length ≤ l.length
  | [], x, h => by simp [parts] at h; subst h; simp
  | c :: l, x, h => by
    by_cases hc : c = 47
    · subst hc
      rw [parts_slash] at h
      rcases List.mem_cons.1 h with rfl | h
      · simp
      · have := parts_le l x h; simp; omega
    · obtain ⟨a, t, h1, h2⟩ := parts_other hc l
      rw [h2] at h
      rcases List.mem_cons.1 h with rfl | h
      · have := parts_le l a (by rw [h1]; exact List.mem_cons_self); simp; omega
      · have := parts_le l x (by rw [h1]; exact List.mem_cons_of_mem _ h); simp; omega
theorem all_snoc {α : Type} (f : α → Bool) {L : List α} {k : Nat} {t : α} (h : L[k]? = some t) : (L.take (k + 1)).all f = ((L.take k).all f && f t) := by
  obtain ⟨hk, rfl⟩ := List.getElem?_eq_some_iff.1 h
  rw [List.take_succ_eq_append_getElem hk, List.all_append]
  simp
theorem all_no {α : Type} (f : α → Bool) {L : List α} {k : Nat} {t : α} (h : L[k]? = some t) (hf : f t = false) : L.all f = false := by
  rw [Bool.eq_false_iff]
  intro hx
  rw [List.all_eq_true.1 hx t (List.mem_of_getElem? h)] at hf
  cases hf
theorem check_bad {l : List UInt8} (h : ¬ l = [47]) (hf : formL l = false) : checkL l = 40 := by rw [checkL, if_neg h, if_pos hf]

set_option maxHeartbeats 2000000 in
theorem Check_any (s : ByteArray) (hs : s.size ≤ 4000000000) (mx : Int) (w : World) (hmx : w.cell? ⟨0, 0, none⟩ = some (.int .i64 mx)) :
    Calls Tryd.prog 9 #[.string s] w (CopyPost (.int .i64 (checkL s.data.toList)) w) := by
  have hs' : s.size ≤ 9223372036854775807 := by omega
  by_cases hr : s.data.toList = [47]
  · have hv : checkL s.data.toList = 0 := by rw [checkL, if_pos hr]
    have hq := toList_beq' hr
    rw [hv]
    clear hmx
    go_enter Tryd.func9, Tryd.ntmps9
    go_wp2
    go_ret
    exact ⟨rfl, Old.rfl' _⟩
  have hq := toList_beq hr
  have cS := Tryd.strings_Split s ⟨#[47]⟩ mx w (by omega) hmx (by decide)
  have hP := split_is s
  rw [count_is] at cS
  generalize Lib.splitB ⟨#[47]⟩ 0 (Lib.countB s ⟨#[47]⟩) s = P at cS hP
  obtain ⟨a, ns, hpa, hl⟩ := join_parts s.data.toList
  rw [hpa] at hP cS
  obtain ⟨X, Q, rfl⟩ : ∃ X Q, P = X :: Q := by
    cases P with
    | nil => simp at hP
    | cons X Q => exact ⟨X, Q, rfl⟩
  rw [List.map_cons] at hP
  obtain ⟨hX, hQ⟩ := List.cons.inj hP
  have hQl : Q.length = ns.length := by rw [← hQ, List.length_map]
  obtain ⟨m, hm⟩ : ∃ m, ns.length = m := ⟨_, rfl⟩
  rw [List.length_cons, hm] at cS
  have hcl : (w.alloc (.cells (((X :: Q).map Value.string).toArray) 9)).cell? ⟨w.heap.size, 0, none⟩ = some (.string X) := blk_cell (heap_alloc_new w _) 0 _ rfl
  have hcQ : ∀ (k : Nat) (q : ByteArray), Q[k]? = some q → (w.alloc (.cells (((X :: Q).map Value.string).toArray) 9)).cell? ⟨w.heap.size, 1 + k, none⟩ = some (.string q) := fun k q h => by
    refine blk_cell (heap_alloc_new w _) (1 + k) _ ?_
    rw [List.getElem?_toArray, List.getElem?_map, Nat.add_comm, List.getElem?_cons_succ, h]; rfl
  have hOa : Old w (w.alloc (.cells (((X :: Q).map Value.string).toArray) 9)) := (Old.rfl' w).alloc _
  generalize w.alloc (.cells (((X :: Q).map Value.string).toArray) 9) = wa at cS hcl hcQ hOa
  generalize hbl : w.heap.size = bl at cS hcl hcQ
  by_cases ha : a = []
  · have hXb := toList_beq' (hX.trans ha)
    by_cases hm0 : m = 0
    · have hv : checkL s.data.toList = 40 := check_bad hr (by
        rw [formL, hpa]
        have : ns = [] := List.eq_nil_of_length_eq_zero (hm.trans hm0)
        simp [this])
      rw [hv]
      subst hm0
      clear hcQ hl hpa hP hQ hQl hm
      go_enter Tryd.func9, Tryd.ntmps9
      go_wp2_with (go_at_call 21; refine cS.mono ?_; rintro e w' ⟨rfl, rfl⟩)
      go_ret
      exact ⟨rfl, hOa⟩
    · have hm1 : 1 ≤ m := by omega
      have zm : ((m : Int) + 1 == 1) = false := by rw [Bool.eq_false_iff]; intro h; have := beq_iff_eq.1 h; omega
      have hforma : formL s.data.toList = ns.all isNm := by
        rw [formL, hpa]
        have : ns ≠ [] := by rintro rfl; simp at hm; omega
        simp [ha, this]
      have hv : checkL s.data.toList = if ns.all isNm = false then 40 else if 60 < s.size ∨ 6 < m then 41 else 0 := by
        rw [checkL, if_neg hr, hforma, hpa, ← size_list, List.length_cons, Nat.add_sub_cancel, hm]
      have HV := Lib.hid hv
      have HQ := Lib.hid hQ
      have HCQ := Lib.hid hcQ
      have HM := Lib.hid hm
      have HQL := Lib.hid hQl
      have hle : ∀ q ∈ ns, q.length ≤ s.size := fun q hq => by rw [size_list]; exact parts_le _ q (by rw [hpa]; exact List.mem_cons_of_mem _ hq)
      have HLE := Lib.hid hle
      have hmL : m + 1 ≤ s.size + 1 := by
        have h1 := count_is s
        have h2 : Lib.countB s ⟨#[47]⟩ = s.data.toList.count 47 := Lib.count_one 47 _
        have h3 := List.count_le_length (a := (47 : UInt8)) (l := s.data.toList)
        rw [hpa, List.length_cons, hm] at h1
        rw [size_list]
        omega
      clear hv hforma hP hpa hl hcQ hQ hm hQl hle hmx
      go_enter Tryd.func9, Tryd.ntmps9
      go_wp2_with (go_at_call 21; refine cS.mono ?_; rintro e w' ⟨rfl, rfl⟩)
      go_loopg [22] m (fun g y22 wx => ∃ k : Nat, k + g = m ∧ y22 = .int .i64 k ∧ Old w' wx ∧ (ns.take k).all isNm = true)
      case atStart => exact ⟨0, by omega, rfl, Old.rfl' _, rfl⟩
      case round =>
        obtain ⟨k, hk, rfl, hO, hall⟩ := hrel
        by_cases hlt : k < m
        · have hkq : k < Q.length := by rw [HQL.out, HM.out]; exact hlt
          have hx : Q[k]? = some Q[k] := List.getElem?_eq_getElem _
          obtain ⟨q, hqq⟩ : ∃ x, Q[k] = x := ⟨_, rfl⟩
          rw [hqq] at hx
          have hns : ns[k]? = some q.data.toList := by rw [← HQ.out, List.getElem?_map, hx]; rfl
          have hqs : q.size ≤ s.size := by rw [size_list q]; exact HLE.out _ (List.mem_of_getElem? hns)
          have hc := hO.cell (HCQ.out k q hx) (fun h => h)
          have cN := isName_any q (by omega) wr
          have HX := Lib.hid hns
          have HA := Lib.hid hall
          clear hx hqq hns hall hkq
          cases hn : isNm q.data.toList
          all_goals
            rw [hn] at cN
            have HNN := Lib.hid hn
            clear hn
            go_wp2_with (go_at_call 22; refine cN.mono ?_; rintro e w2 ⟨rfl, hO2⟩; clear cN)
          · go_ret
            exact ⟨by rw [HV.out, if_pos (all_no isNm HX.out HNN.out)] <;> rfl, (hOa.join hO).join hO2⟩
          · go_roundg (gk - 1)
            case measure => omega
            case rel => exact ⟨k + 1, by omega, by simp, hO.join hO2, by rw [all_snoc isNm HX.out, HA.out, HNN.out]; rfl⟩
        · have hkm : k = m := by omega
          have hall2 : ns.all isNm = true := by rw [← hall, hkm, ← HM.out, List.take_length]
          have hv2 : checkL s.data.toList = if 60 < s.size ∨ 6 < m then 41 else 0 := by
            rw [HV.out, hall2, if_neg (by decide)]
          have HV2 := Lib.hid hv2
          clear hall hall2 hv2 hkm
          by_cases h60 : 60 < s.size
          · have z60 : (60 : Int) < (s.size : Int) := by omega
            go_wp2
            go_ret
            exact ⟨by rw [HV2.out, if_pos (.inl h60)] <;> rfl, hOa.join hO⟩
          · have z60 : ¬ (60 : Int) < (s.size : Int) := by omega
            by_cases h6 : 6 < m
            · have z6 : (6 : Int) < (m : Int) := by omega
              go_wp2
              go_ret
              exact ⟨by rw [HV2.out, if_pos (.inr h6)] <;> rfl, hOa.join hO⟩
            · have z6 : ¬ (6 : Int) < (m : Int) := by omega
              go_wp2
              go_ret
              exact ⟨by rw [HV2.out, if_neg (by omega)] <;> rfl, hOa.join hO⟩
  · have hXb := toList_beq (s := X) (l := []) (by rw [hX]; exact ha)
    have hv : checkL s.data.toList = 40 := check_bad hr (by rw [formL, hpa]; simp [ha])
    rw [hv]
    clear hcQ hl hpa hP hQ hQl hm
    go_enter Tryd.func9, Tryd.ntmps9
    go_wp2_with (go_at_call 21; refine cS.mono ?_; rintro e w' ⟨rfl, rfl⟩)
    go_ret
    exact ⟨rfl, hOa⟩
end Go.Proofs.YtfdlllpjempjoaaDoor
