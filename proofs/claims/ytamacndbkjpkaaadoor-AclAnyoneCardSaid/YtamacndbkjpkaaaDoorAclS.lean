/-
  Texts whose bytes a function takes: strings.IndexFunc, only, isDigit, isUser, and the document's user.
  No condition.
-/
import Derived.Test.YtamacndbkjpkaaaDoorRows
import Derived.Test.YtamacndbkjpkaaaDoorFlat
import Derived.Test.YtamacndbkjpkaaaDoorStep
import Derived.Test.YtamacndbkjpkaaaDoorAclP
import Derived.BigRegion
import Derived.Deep.LoopGhost
import Derived.Deep.DeepCutAuto
import Derived.LoopN
import Derived.Lib.OthersKept
import Derived.Lib.RuneCount
import Derived.Shelf.GgClosure.StringsIndexFunc
namespace Go.Proofs.YtamacndbkjpkaaaDoor
open Go.RowKit
set_option linter.unusedSectionVars false
set_option linter.unusedSimpArgs false
set_option linter.unusedVariables false

/-- Nothing old has changed. -/
abbrev Old (w w' : World) : Prop := Mod (fun _ => False) w w'
theorem Old.of {w w' : World} (h : Below w.heap.size w w') : Old w w' := ⟨h.os, h.tape, h.output, h.size, fun b hb _ => h.block b hb⟩
theorem Old.join {a b c : World} (h : Old a b) (k : Old b c) : Old a c := h.trans k (fun _ _ h => h) (fun _ _ h => h)
theorem Old.rfl' (w : World) : Old w w := Mod.refl _ w
def RetPost (v : Value) (w : World) (e : Ending) (w' : World) : Prop := e = .returned v ∧ w = w'
def CopyPost (v : Value) (w : World) (e : Ending) (w' : World) : Prop := e = .returned v ∧ Old w w'
theorem RetPost.copy {v : Value} {w w' : World} {e : Ending} (h : RetPost v w e w') : CopyPost v w e w' := ⟨h.1, h.2 ▸ Old.rfl' _⟩

/-! ### Which bytes a text may have -/

def dig (c : Nat) : Bool := decide (48 ≤ c) && decide (c ≤ 57)
def usr (c : Nat) : Bool := dig c || (decide (97 ≤ c) && decide (c ≤ 122))
def hex (c : Nat) : Bool := dig c || (decide (97 ≤ c) && decide (c ≤ 102))
def onlyB (q : Nat → Bool) (l : List UInt8) : Bool := l.all fun b => q b.toNat

theorem usr_low (c : Nat) (h : usr c = true) : c < 128 := by simp [usr, dig] at h; omega
theorem hex_low (c : Nat) (h : hex c = true) : c < 128 := by simp [hex, dig] at h; omega

theorem decode_low (s : ByteArray) (i : Nat) (h : (s.get! i).toNat < 128) : Utf8.decode s i = ((s.get! i).toNat, 1) := by
  unfold Utf8.decode
  simp [h]
theorem decode_high (s : ByteArray) (i : Nat) (h : ¬ (s.get! i).toNat < 128) : 128 ≤ (Utf8.decode s i).1 := by
  unfold Utf8.decode
  simp only [Nat.add_zero]
  rw [if_neg h]
  have e : 128 ≤ Utf8.runeError := by decide
  repeat' split
  all_goals first | exact e | omega | (simp_all; done) | (simp_all; omega)
theorem get_list (s : ByteArray) (i : Nat) (h : i < s.size) : s.data.toList[i]? = some (s.get! i) := by
  have h' : i < s.data.size := h
  rw [Array.getElem?_toList, Array.getElem?_eq_getElem h']
  show _ = some (s.data[i]!)
  rw [getElem!_pos s.data i h']

/-- Where the first byte lies that is not taken. -/
theorem idx_only (q : Nat → Bool) (hq : ∀ c, q c = true → c < 128) (s : ByteArray) : ∀ (f pos : Nat), s.size ≤ pos + f → (decide (Lib.idxFuncFrom (fun c => !q c) true s f pos < 0) = onlyB q (s.data.toList.drop pos))
  | 0, pos, hf => by
    have : s.data.toList.drop pos = [] := List.drop_eq_nil_of_le (by rw [Array.length_toList]; exact hf)
    rw [this]; simp [Lib.idxFuncFrom, onlyB]
  | f + 1, pos, hf => by
    unfold Lib.idxFuncFrom
    by_cases hp : pos < s.size
    · rw [if_pos hp]
      have hd : s.data.toList.drop pos = s.get! pos :: s.data.toList.drop (pos + 1) := by
        have := get_list s pos hp
        obtain ⟨h1, h2⟩ := List.getElem?_eq_some_iff.1 this
        rw [List.drop_eq_getElem_cons h1, h2]
      rw [hd, onlyB, List.all_cons]
      by_cases h128 : (s.get! pos).toNat < 128
      · rw [decode_low s pos h128]
        cases hc : q (s.get! pos).toNat
        · simp [hc]
        · simp only [hc, Bool.not_true, Bool.false_eq_true, if_false, Bool.true_and]
          exact idx_only q hq s f (pos + 1) (by omega)
      · have hx := decode_high s pos h128
        have hc : q (Utf8.decode s pos).1 = false := by
          cases h : q (Utf8.decode s pos).1
          · rfl
          · have := hq _ h; omega
        have hc2 : q (s.get! pos).toNat = false := by
          cases h : q (s.get! pos).toNat
          · rfl
          · have := hq _ h; omega
        simp [hc, hc2]
    · rw [if_neg hp]
      have : s.data.toList.drop pos = [] := List.drop_eq_nil_of_le (by rw [Array.length_toList]; exact Nat.not_lt.1 hp)
      rw [this]; simp [onlyB]

/-! ### The functions -/

theorem isDigit_any (c : Nat) (w : World) : Calls Tryd.prog 28 #[.int .i32 (c : Int)] w (RetPost (.bool (dig c)) w) := by
  have z1 : (48 : Int) ≤ (c : Int) ↔ 48 ≤ c := by omega
  have z2 : (c : Int) ≤ 57 ↔ c ≤ 57 := by omega
  by_cases h1 : 48 ≤ c <;> by_cases h2 : c ≤ 57
  all_goals
    go_enter Tryd.func28, Tryd.ntmps28
    go_wp2
    all_goals first | (exfalso; omega) | (go_ret; exact ⟨by simp [dig, h1, h2], rfl⟩)

theorem isUser1_any (c : Nat) (w : World) : Calls Tryd.prog 31 #[.int .i32 (c : Int)] w (RetPost (.bool (usr c)) w) := by
  have z1 : (97 : Int) ≤ (c : Int) ↔ 97 ≤ c := by omega
  have z2 : (c : Int) ≤ 122 ↔ c ≤ 122 := by omega
  cases hd : dig c <;> by_cases h1 : 97 ≤ c <;> by_cases h2 : c ≤ 122
  all_goals
    have cD := isDigit_any c w
    rw [hd] at cD
    go_enter Tryd.func31, Tryd.ntmps31
    go_wp2_with (go_at_call 28; refine cD.mono ?_; rintro e w' ⟨rfl, rfl⟩)
    all_goals first | (exfalso; omega) | (go_ret; exact ⟨by simp [usr, hd, h1, h2], rfl⟩)

theorem isID1_any (c : Nat) (w : World) : Calls Tryd.prog 27 #[.int .i32 (c : Int)] w (RetPost (.bool (hex c)) w) := by
  have z1 : (97 : Int) ≤ (c : Int) ↔ 97 ≤ c := by omega
  have z2 : (c : Int) ≤ 102 ↔ c ≤ 102 := by omega
  cases hd : dig c <;> by_cases h1 : 97 ≤ c <;> by_cases h2 : c ≤ 102
  all_goals
    have cD := isDigit_any c w
    rw [hd] at cD
    go_enter Tryd.func27, Tryd.ntmps27
    go_wp2_with (go_at_call 28; refine cD.mono ?_; rintro e w' ⟨rfl, rfl⟩)
    all_goals first | (exfalso; omega) | (go_ret; exact ⟨by simp [hex, hd, h1, h2], rfl⟩)

/-- 'takes' is a function g that tells q of a byte. -/
def Takes (g : Nat) (q : Nat → Bool) : Prop := (∀ args w, (callFunc g args).run Tryd.prog w = .ok (.enter g args) w) ∧ ∀ (c : Nat) (w : World), Calls Tryd.prog g #[.int .i32 (c : Int)] w (RetPost (.bool (q c)) w)
theorem takes_user : Takes 31 usr := ⟨enters_of Tryd.func31 (by kernel_rfl) rfl, isUser1_any⟩
theorem takes_hex : Takes 27 hex := ⟨enters_of Tryd.func27 (by kernel_rfl) rfl, isID1_any⟩

theorem only1_any (g : Nat) (q : Nat → Bool) (hg : Takes g q) (c B : Nat) (w : World) (hB : w.cell? ⟨B, 0, none⟩ = some (.func (.func g) #[] #[])) :
    Calls Tryd.prog 41 #[.int .i32 (c : Int), .pointer (some ⟨B, 0, none⟩)] w (RetPost (.bool (!q c)) w) := by
  have eg := hg.1
  have cG := hg.2 c w
  go_enter Tryd.func41, Tryd.ntmps41
  go_wp2_with (go_at_fn g; refine cG.mono ?_; rintro e w' ⟨rfl, rfl⟩)
  go_ret
  exact ⟨rfl, rfl⟩

/-- What is asked of a function that tells p of a rune, from a world on. -/
def Tells (g : Nat) (lb : Array Value) (p : Nat → Bool) (w : World) : Prop := ∀ (W : World) (c : Nat), Below w.heap.size w W → Calls Tryd.prog g (#[.int .i32 (c : Int)] ++ lb) W (RetPost (.bool (p c)) W)

set_option maxHeartbeats 2000000 in
theorem indexFunc_any (g : Nat) (lb : Array Value) (eg : ∀ args w, (callFunc g args).run Tryd.prog w = .ok (.enter g args) w) (p : Nat → Bool) (s : ByteArray) (w : World) (hp : Tells g lb p w) :
    Calls Tryd.prog 52 #[.string s, .func (.func g) #[] lb, .bool true] w fun e w' => e = .returned (.int .i64 (Lib.idxFunc p true s)) ∧ Below w.heap.size w w' := by
  go_enter Tryd.func52, Tryd.ntmps52
  go_wp2
  go_loopg [] s.size (fun gf wx => ∃ pos : Nat, wx.heap[w.heap.size]? = some (.stringIter s pos) ∧ Below w.heap.size w wx ∧ Lib.idxFuncFrom p true s gf pos = Lib.idxFunc p true s ∧ s.size ≤ pos + gf)
  case atStart => exact ⟨0, World.iter_heap w s 0, (Below.refl _ w).alloc (Nat.le_refl _) _, rfl, by omega⟩
  case round =>
    obtain ⟨pos, hit, hbw, hleft, hfu⟩ := hrel
    by_cases hps : pos < s.size
    · obtain ⟨g', rfl⟩ : ∃ g', gk = g' + 1 := ⟨gk - 1, by omega⟩
      have hnx : ∀ ty, (Instr.next (.pointer (some ⟨w.heap.size, 0, none⟩)) true ty).run Tryd.prog wr = _ := fun ty => Lib.run_next_any_at wr w.heap.size s pos ty hit hps
      have hwd := Lib.width_pos s pos
      obtain ⟨R, hR⟩ : ∃ R, (Utf8.decode s pos).1 = R := ⟨_, rfl⟩
      obtain ⟨K, hK⟩ : ∃ K, (Utf8.decode s pos).2 = K := ⟨_, rfl⟩
      simp only [Lib.idxFuncFrom, hps, if_true, hR, hK] at hleft
      rw [hR, hK] at hnx
      rw [hK] at hwd
      have hit2 := Lib.iterAt_heap wr w.heap.size s pos (pos + K) hit
      have hbw2 := Lib.below_iterAt hbw (k := w.heap.size) (Nat.le_refl _) s (pos + K)
      obtain ⟨W, hWd⟩ : ∃ W, wr.iterAt w.heap.size s (pos + K) = W := ⟨_, rfl⟩
      rw [hWd] at hnx hit2 hbw2
      have cS : Calls Tryd.prog g (#[.int .i32 (R : Int)] ++ lb) W _ := hp W R hbw2
      clear hp
      cases hsp : p R <;> rw [hsp] at cS <;> simp only [hsp, if_true, Bool.false_eq_true, if_false] at hleft
      · go_wp2_with (go_at_fn g; refine cS.mono ?_; rintro e W' ⟨rfl, rfl⟩)
        go_roundg g'
        case measure => omega
        case rel => exact ⟨pos + K, hit2, hbw2, hleft, by omega⟩
      · go_wp2_with (go_at_fn g; refine cS.mono ?_; rintro e W' ⟨rfl, rfl⟩)
        go_ret
        exact ⟨by rw [← hleft] <;> rfl, hbw2⟩
    · have hnx : ∀ ty, (Instr.next (.pointer (some ⟨w.heap.size, 0, none⟩)) true ty).run Tryd.prog wr = _ := fun ty => Lib.run_next_end_at wr w.heap.size s pos ty hit hps
      rw [Lib.idxFuncFrom_end p true s gk pos hps] at hleft
      go_wp2
      go_ret
      exact ⟨by rw [← hleft] <;> rfl, hbw⟩

theorem IndexFunc_any (g : Nat) (lb : Array Value) (eg : ∀ args w, (callFunc g args).run Tryd.prog w = .ok (.enter g args) w) (p : Nat → Bool) (s : ByteArray) (w : World) (hp : Tells g lb p w) :
    Calls Tryd.prog 40 #[.string s, .func (.func g) #[] lb] w fun e w' => e = .returned (.int .i64 (Lib.idxFunc p true s)) ∧ Below w.heap.size w w' := by
  have cI := indexFunc_any g lb eg p s w hp
  clear hp
  go_enter Tryd.func40, Tryd.ntmps40
  go_wp2_with (go_at_call 52; refine cI.mono ?_; rintro e w' ⟨rfl, hb⟩)
  go_ret
  exact ⟨rfl, hb⟩

theorem only_any (g : Nat) (q : Nat → Bool) (hg : Takes g q) (hq : ∀ c, q c = true → c < 128) (s : ByteArray) (w : World) :
    Calls Tryd.prog 26 #[.string s, .func (.func g) #[] #[]] w (CopyPost (.bool (onlyB q s.data.toList)) w) := by
  have hi : decide (Lib.idxFunc (fun c => !q c) true s < 0) = onlyB q s.data.toList := idx_only q hq s s.size 0 (by omega)
  have hC := fun (W : World) (hB : W.cell? ⟨w.heap.size, 0, none⟩ = some (.func (.func g) #[] #[])) =>
    IndexFunc_any 41 #[.pointer (some ⟨w.heap.size, 0, none⟩)] (enters_of Tryd.func41 (by kernel_rfl) rfl) (fun c => !q c) s W
      (fun W' c hb => only1_any g q hg c w.heap.size W' ((hb.cell (p := ⟨w.heap.size, 0, none⟩) (World.block_lt_of_cell? _ _ hB)).trans hB))
  generalize Lib.idxFunc (fun c => !q c) true s = I at hi hC
  go_enter Tryd.func26, Tryd.ntmps26
  go_wp2_with (go_at_call 40; refine (hC _ (by simp)).mono ?_; rintro e w' ⟨rfl, hb⟩)
  all_goals
    go_ret
    refine ⟨by rw [← hi]; rfl, ?_⟩
    exact Old.of (((Below.refl _ w).alloc (Nat.le_refl _) _).trans (hb.mono (by simp)))

def isUserL (l : List UInt8) : Bool := decide (1 ≤ l.length) && decide (l.length ≤ 12) && onlyB usr l

theorem isUser_any (s : ByteArray) (hs : s.size ≤ maxLen) (w : World) : Calls Tryd.prog 21 #[.string s] w (CopyPost (.bool (isUserL s.data.toList)) w) := by
  have cO := only_any _ usr takes_user usr_low s w
  have hl : s.data.toList.length = s.size := by rw [Array.length_toList]; rfl
  by_cases h0 : s.size = 0
  · have he : s = ByteArray.empty := by
      apply ByteArray.ext
      exact Array.eq_empty_of_size_eq_zero h0
    subst he
    go_enter Tryd.func21, Tryd.ntmps21
    go_wp2
    go_ret
    exact ⟨rfl, Old.rfl' _⟩
  · have hE : ¬ s.toList = [] := by
      rw [ByteArray.toList_eq]
      intro e
      rw [e] at hl
      exact h0 hl.symm
    by_cases h12 : s.size ≤ 12
    · have hv : isUserL s.data.toList = onlyB usr s.data.toList := by
        simp [isUserL, hl, h12]; omega
      rw [hv]
      have z : (s.size : Int) ≤ 12 := by omega
      generalize onlyB usr s.data.toList = V at cO ⊢
      go_enter Tryd.func21, Tryd.ntmps21
      go_wp2_with (go_at_call 26; refine cO.mono ?_; rintro e w' ⟨rfl, hb⟩)
      all_goals
        go_ret
        exact ⟨by simp [hE], hb⟩
    · have hv : isUserL s.data.toList = false := by
        simp [isUserL, hl, h12]
      rw [hv]
      have z : ¬ (s.size : Int) ≤ 12 := by omega
      go_enter Tryd.func21, Tryd.ntmps21
      go_wp2
      go_ret
      exact ⟨rfl, Old.rfl' _⟩
end Go.Proofs.YtamacndbkjpkaaaDoor
