/-
  The functions of package post and those of slices that it calls: what each returns and what of memory it changes, for every list of packets.
  Conditions: a list is a slice of its own block; its bytes fit what append may take.
-/
import Derived.Test.YtnggolgpnbdghaaRows
import Derived.Test.YtnggolgpnbdghaaLib
namespace Go.Proofs.Ytnggolgpnbdghaa
open Go.RowKit
set_option linter.unusedSectionVars false
set_option linter.unusedSimpArgs false
set_option linter.unusedVariables false

theorem infoP : (Try.prog.info? 32).map (fun i => (i.zero, i.size, i.bytes)) = some (some (.agg #[.int .i64 0, .int .i64 0, .int .i64 0, .int .i64 0, .int .i64 0, .int .i64 0, .int .i64 0, .string .empty]), 8, 72) := by kernel_rfl
theorem cellsP : Try.prog.cellsOf 32 = 8 := by kernel_rfl
theorem isP : (Try.prog.info? 32).isSome = true := by kernel_rfl
theorem sizeP : (Try.prog.info? 32).map (·.size) = some 8 := by kernel_rfl

/-- How many elements a list may have so that append's room is never beyond the model's. -/
def fits (n : Nat) : Prop := n ≤ 3127499740800
theorem fits.mono {n m : Nat} (h : fits n) (hm : m ≤ n) : fits m := Nat.le_trans hm h
theorem fits.room {n : Nat} (h : fits n) : (n + n / 4 + 512) * 72 ≤ 281474976710656 := by unfold fits at h; omega
theorem fits.le {n : Nat} (h : fits n) : n ≤ 2 ^ 63 - 1 := by unfold fits at h; omega
theorem fits.maxLen {n : Nat} (h : fits n) : n ≤ maxLen := h.le

def DeletePost (a : Option Addr) (n : Nat) (cs : List Value) (i j : Nat) (w : World) (e : Ending) (w' : World) : Prop :=
  ∃ a' cap', e = .returned (.slice a' (n - (j - i)) cap') ∧ Sl w' 32 8 a' (n - (j - i)) cap' (cs.take (i * 8) ++ cs.drop (j * 8)) ∧ Mod (fun b => own a = some b) w w' ∧
    (∀ b, own a' = some b → own a = some b ∨ (w.heap.size ≤ b ∧ b < w'.heap.size))

theorem Delete_any (a : Option Addr) (n cap : Nat) (cs : List Value) (i j : Nat) (w : World) (hv : Sl w 32 8 a n cap cs) (hij : i ≤ j) (hj : j ≤ n) (hf : fits n) (h1 : ∀ u ∈ cs, u.oneCell' = true) :
    Calls Try.prog 17 #[.slice a n cap, .int .i64 i, .int .i64 j] w (DeletePost a n cs i j w) := by
  have hn := hf.le
  have hnc : n ≤ cap := hv.2.1
  by_cases heq : i = j
  · subst heq
    have hq : ((i : Int) == (i : Int)) = true := by simp
    by_cases hni : n = i
    · subst hni
      go_enter Try.func17, Try.ntmps17
      go_wp2
      go_ret
      refine ⟨a, cap, by simp, ?_, Mod.refl _ _, fun b hb => .inl hb⟩
      rw [List.take_append_drop, Nat.sub_self, Nat.sub_zero]
      exact hv
    go_enter Try.func17, Try.ntmps17
    go_wp2
    all_goals
      go_ret
      refine ⟨a, cap, by simp, ?_, Mod.refl _ _, fun b hb => .inl hb⟩
      rw [List.take_append_drop, Nat.sub_self, Nat.sub_zero]
      exact hv
  · have hq : ((i : Int) == (j : Int)) = false := by simp; omega
    have hlt : i < j := by omega
    have hic : i ≤ cap := by omega
    obtain ⟨p', hp', hrd, hown⟩ : ∃ p', (if cap = j then a else Option.map (fun x => x.add (j * 8)) a) = p' ∧ Rd w 8 p' (n - j) (cap - j) ((cs.drop (j * 8)).take ((n - j) * 8)) ∧ own p' = own a :=
      ⟨_, rfl, (hv.rd.cut j n cap hj (Nat.le_refl _) hnc (Nat.le_refl _)).1, (hv.rd.cut j n cap hj (Nat.le_refl _) hnc (Nat.le_refl _)).2⟩
    clear heq
    go_enter Try.func17, Try.ntmps17
    go_wp2
    go_still_tail 6, (by kernel_rfl)
    obtain ⟨ip, hip1, hip2, hip3⟩ := info_parts infoP
    refine wpList_append 32 ip _ 8 72 (by kernel_rfl) hip1 hip2 hip3.1 hip3.2 rfl a i cap (cs.take (i * 8)) rfl (hv.drew.upto i (by omega)) p' (n - j) (cap - j) _ rfl hrd.drew (fun u hu => h1 u (List.mem_of_mem_drop (List.mem_of_mem_take hu))) (hf.mono (by omega)).maxLen (hf.mono (by omega)).room ?_
    intro a1 cap1 w1 hS1 hM1 hfresh hnil hroom
    obtain ⟨rfl, rfl⟩ := hroom (by omega)
    clear hroom hnil hip3 hfresh
    obtain ⟨n1, hn1⟩ : ∃ n1, i + (n - j) = n1 := ⟨_, rfl⟩
    rw [hn1] at hS1 ⊢
    have hb1 : n1 ≤ n := by omega
    have hb2 : n1 ≤ cap1 := by omega
    have HN : Hid (i + (n - j) = n1) := Lib.hid hn1
    clear hn1 hp' hrd
    go_wp2_with (first | (refine wpList_cutX 32 8 (by kernel_rfl) cellsP isP a1 n1 cap1 _ rfl hS1 _ _ _ rfl rfl rfl n1 n cap1 (bounds_lh _ _ _ _ _ (by omega) (by omega) (by omega)) hb1 hnc (Nat.le_refl _) ?_; intro p2 cs2 hp2 hS2 hown2) | (refine wpList_clear 32 ip _ 8 (by kernel_rfl) hip1 hip2 rfl (by omega) (by kernel_rfl) _ _ _ _ rfl ‹Sl w1 _ _ _ (n - n1) _ _› ?_; intro w2 hM2 hz2 hk2 hc2))
    go_ret
    have hn1 := HN.out
    have hE : n - (j - i) = n1 := by omega
    have hcs : cs.take (i * 8) ++ (cs.drop (j * 8)).take ((n - j) * 8) = cs.take (i * 8) ++ cs.drop (j * 8) := by
      rw [List.take_of_length_le (l := cs.drop (j * 8)) (by rw [List.length_drop, hv.1]; omega)]
    refine ⟨a1, cap1, by rw [hE]; rfl, ?_, ?_, fun b hb => .inl hb⟩
    · rw [hE, ← hcs]
      exact hS1.clear_rest hb1 hnc hk2 (hp2.out ▸ hc2)
    · have hM1' : Mod (fun b => own a1 = some b) w w1 := ⟨hM1.os, hM1.tape, hM1.output, hM1.size, hM1.keep⟩
      exact hM1'.trans hM2 (fun _ _ h => h) (fun x _ h => hown2 ▸ h)

theorem Delete_int (a : Option Addr) (n cap : Nat) (cs : List Value) (i j : Nat) (I J : Int) (hI : I = i) (hJ : J = j) (w : World) (hv : Sl w 32 8 a n cap cs) (hij : i ≤ j) (hj : j ≤ n) (hf : fits n) (h1 : ∀ u ∈ cs, u.oneCell' = true) :
    Calls Try.prog 17 #[.slice a n cap, .int .i64 I, .int .i64 J] w (DeletePost a n cs i j w) := by
  subst hI hJ; exact Delete_any a n cap cs i j w hv hij hj hf h1

/-! ### Packets -/

structure Pk where
  a : Int
  b : Int
  c : Int
  d : Int
  e : Int
  f : Int
  g : Int
  s : ByteArray
deriving DecidableEq

def Pk.cells (p : Pk) : List Value := [.int .i64 p.a, .int .i64 p.b, .int .i64 p.c, .int .i64 p.d, .int .i64 p.e, .int .i64 p.f, .int .i64 p.g, .string p.s]
def Pk.agg (p : Pk) : Value := .agg #[.int .i64 p.a, .int .i64 p.b, .int .i64 p.c, .int .i64 p.d, .int .i64 p.e, .int .i64 p.f, .int .i64 p.g, .string p.s]
def Pk.zero : Pk := ⟨0, 0, 0, 0, 0, 0, 0, .empty⟩
attribute [go_sem] Pk.agg Pk.zero
def flat (xs : List Pk) : List Value := xs.flatMap Pk.cells

theorem flat_nil : flat [] = [] := rfl
theorem flat_cons (x : Pk) (xs : List Pk) : flat (x :: xs) = x.cells ++ flat xs := rfl
theorem flat_append (xs ys : List Pk) : flat (xs ++ ys) = flat xs ++ flat ys := List.flatMap_append
theorem flat_length : ∀ xs : List Pk, (flat xs).length = xs.length * 8
  | [] => rfl
  | x :: xs => by rw [flat_cons, List.length_append, flat_length xs, List.length_cons]; simp [Pk.cells]; omega
theorem flat_take : ∀ (xs : List Pk) (i : Nat), (flat xs).take (i * 8) = flat (xs.take i)
  | [], i => by simp [flat]
  | x :: xs, 0 => by simp [flat]
  | x :: xs, i + 1 => by
    rw [flat_cons, List.take_succ_cons, flat_cons, ← flat_take xs i, show (i + 1) * 8 = x.cells.length + i * 8 from by simp [Pk.cells]; omega, List.take_length_add_append]
theorem flat_drop : ∀ (xs : List Pk) (i : Nat), (flat xs).drop (i * 8) = flat (xs.drop i)
  | [], i => by simp [flat]
  | x :: xs, 0 => by simp
  | x :: xs, i + 1 => by
    rw [flat_cons, List.drop_succ_cons, ← flat_drop xs i, show (i + 1) * 8 = x.cells.length + i * 8 from by simp [Pk.cells]; omega, List.drop_length_add_append]
theorem flat_one (xs : List Pk) : ∀ u ∈ flat xs, u.oneCell' = true := by
  intro u hu
  obtain ⟨x, _, hx⟩ := List.mem_flatMap.1 hu
  simp only [Pk.cells, List.mem_cons, List.not_mem_nil, or_false] at hx
  rcases hx with rfl | rfl | rfl | rfl | rfl | rfl | rfl | rfl <;> rfl
theorem flat_at (xs : List Pk) (k : Nat) (p : Pk) (h : xs[k]? = some p) (j : Nat) (u : Value) (hu : p.cells[j]? = some u) : (flat xs)[k * 8 + j]? = some u := by
  have e : flat xs = flat (xs.take k) ++ (p.cells ++ flat (xs.drop (k + 1))) := by
    rw [← flat_cons, ← flat_append]
    congr 1
    have hk := List.getElem?_eq_some_iff.1 h
    obtain ⟨hk1, rfl⟩ := hk
    rw [List.getElem_cons_drop, List.take_append_drop]
  have hlt : k < xs.length := (List.getElem?_eq_some_iff.1 h).1
  have hl : (flat (xs.take k)).length = k * 8 := by rw [flat_length, List.length_take]; omega
  have hj : j < p.cells.length := (List.getElem?_eq_some_iff.1 hu).1
  rw [e, List.getElem?_append_right (by omega), hl, List.getElem?_append_left (by omega), show k * 8 + j - k * 8 = j from by omega]
  exact hu

/-- The eight cells of a packet. -/
def At8 (w : World) (b o : Nat) (p : Pk) : Prop :=
  w.cell? ⟨b, o, none⟩ = some (.int .i64 p.a) ∧ w.cell? ⟨b, o + 1, none⟩ = some (.int .i64 p.b) ∧ w.cell? ⟨b, o + 2, none⟩ = some (.int .i64 p.c) ∧ w.cell? ⟨b, o + 3, none⟩ = some (.int .i64 p.d) ∧
  w.cell? ⟨b, o + 4, none⟩ = some (.int .i64 p.e) ∧ w.cell? ⟨b, o + 5, none⟩ = some (.int .i64 p.f) ∧ w.cell? ⟨b, o + 6, none⟩ = some (.int .i64 p.g) ∧ w.cell? ⟨b, o + 7, none⟩ = some (.string p.s)

theorem Rd.at8 {w : World} {a : Option Addr} {n cap : Nat} {xs : List Pk} (h : Rd w 8 a n cap (flat xs)) {k : Nat} {p : Pk} (hp : xs[k]? = some p) :
    ∃ b o, a = some ⟨b, o, none⟩ ∧ At8 w b (o + k * 8) p := by
  obtain ⟨hl, hn, hm, ⟨rfl, h0⟩ | ⟨x, rfl, hc⟩⟩ := h
  · have hlt : k < xs.length := (List.getElem?_eq_some_iff.1 hp).1
    rw [flat_length] at hl; omega
  · have key : ∀ j u, p.cells[j]? = some u → w.cell? (x.add (k * 8 + j)) = some u := fun j u hu => hc _ _ (flat_at xs k p hp j u hu)
    obtain ⟨b, o, sp⟩ := x
    have hs : sp = none := by
      have h0 : k < xs.length := (List.getElem?_eq_some_iff.1 hp).1
      cases xs with
      | nil => simp at h0
      | cons y ys =>
        have := hc 0 (.int .i64 y.a) (by simp [flat_cons, Pk.cells])
        simp [Addr.add, World.cell?] at this
        split at this
        · cases sp <;> simp at this ⊢
        · cases this
    subst hs
    refine ⟨b, o, rfl, ?_⟩
    simp only [add_none] at key
    exact ⟨key 0 _ rfl, key 1 _ rfl, key 2 _ rfl, key 3 _ rfl, key 4 _ rfl, key 5 _ rfl, key 6 _ rfl, key 7 _ rfl⟩

/-- A block that holds one packet: its cells, and that they may be written. -/
theorem res8 {w : World} {r : Nat} {p : Pk} {T : TypeId} (h : w.heap[r]? = some (.cells p.cells.toArray T (0, 0))) :
    (w.cell? ⟨r, 0, none⟩ = some (.int .i64 p.a) ∧ w.cell? ⟨r, 1, none⟩ = some (.int .i64 p.b) ∧ w.cell? ⟨r, 2, none⟩ = some (.int .i64 p.c) ∧ w.cell? ⟨r, 3, none⟩ = some (.int .i64 p.d) ∧
     w.cell? ⟨r, 4, none⟩ = some (.int .i64 p.e) ∧ w.cell? ⟨r, 5, none⟩ = some (.int .i64 p.f) ∧ w.cell? ⟨r, 6, none⟩ = some (.int .i64 p.g) ∧ w.cell? ⟨r, 7, none⟩ = some (.string p.s)) ∧
    ∀ j, w.frozen? ⟨r, j, none⟩ = false :=
  ⟨⟨blk_cell h 0 _ rfl, blk_cell h 1 _ rfl, blk_cell h 2 _ rfl, blk_cell h 3 _ rfl, blk_cell h 4 _ rfl, blk_cell h 5 _ rfl, blk_cell h 6 _ rfl, blk_cell h 7 _ rfl⟩, blk_free h⟩

/-! ### The list of a post -/

/-- A post at block pb (of type T) whose list is the slice (a, cap) and reads as xs. -/
def PostAt (T : TypeId) (w : World) (pb : Nat) (a : Option Addr) (cap : Nat) (xs : List Pk) : Prop :=
  w.heap[pb]? = some (.cells #[.slice a xs.length cap] T (0, 0)) ∧ Sl w 32 8 a xs.length cap (flat xs) ∧ own a ≠ some pb ∧ fits xs.length

/-- How a call leaves a post: the list, where it lies, what has changed. -/
def PostTo (T : TypeId) (w : World) (pb : Nat) (a : Option Addr) (xs : List Pk) (w' : World) : Prop :=
  ∃ a' cap', PostAt T w' pb a' cap' xs ∧ Mod (fun b => b = pb ∨ own a = some b) w w' ∧ ∀ b, own a' = some b → own a = some b ∨ (w.heap.size ≤ b ∧ b < w'.heap.size)

theorem PostAt.lt {T : TypeId} {w : World} {pb : Nat} {a : Option Addr} {cap : Nat} {xs : List Pk} (h : PostAt T w pb a cap xs) : pb < w.heap.size ∧ ∀ b, own a = some b → b < w.heap.size :=
  ⟨heap_lt h.1, h.2.1.lt⟩

theorem PostAt.mod {T : TypeId} {S : Nat → Prop} {w w' : World} {pb : Nat} {a : Option Addr} {cap : Nat} {xs : List Pk} (h : PostAt T w pb a cap xs) (hm : Mod S w w') (h1 : ¬ S pb) (h2 : ∀ b, own a = some b → ¬ S b) : PostAt T w' pb a cap xs :=
  ⟨hm.heap h.1 h1, h.2.1.mod hm h2, h.2.2.1, h.2.2.2⟩

def RetPost (v : Value) (w : World) (e : Ending) (w' : World) : Prop := e = .returned v ∧ w = w'

theorem Len_any (pb : Nat) (a : Option Addr) (cap : Nat) (xs : List Pk) (w : World) (h : PostAt 47 w pb a cap xs) :
    Calls Try.prog 12 #[.pointer (some ⟨pb, 0, none⟩)] w (RetPost (.int .i64 xs.length) w) := by
  have hc := blk_cell h.1 0 _ rfl
  go_enter Try.func12, Try.ntmps12
  go_wp2
  go_ret
  exact ⟨rfl, rfl⟩

def NewPost (T : TypeId) (w : World) (e : Ending) (w' : World) : Prop :=
  ∃ pb, e = .returned (.pointer (some ⟨pb, 0, none⟩)) ∧ PostAt T w' pb none 0 [] ∧ Mod (fun _ => False) w w' ∧ w.heap.size ≤ pb ∧ pb < w'.heap.size

theorem new_post (T : TypeId) (w : World) : NewPost T w (.returned (.pointer (some ⟨w.heap.size, 0, none⟩))) (w.alloc (.cells #[.slice none 0 0] T)) :=
  ⟨_, rfl, ⟨heap_alloc_new _ _, Sl.nil _ _ _, by simp [own], Nat.zero_le _⟩, (Mod.refl _ _).alloc _, Nat.le_refl _, by simp⟩

theorem New_any (w : World) : Calls Try.prog 6 #[] w (NewPost 47 w) := by
  go_enter Try.func6, Try.ntmps6
  go_wp2
  go_ret
  exact new_post _ _

def CopyPost (v : Value) (w : World) (e : Ending) (w' : World) : Prop := e = .returned v ∧ Mod (fun _ => False) w w'

end Go.Proofs.Ytnggolgpnbdghaa
