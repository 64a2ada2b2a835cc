/-
  The writer of package codec: what each method lays, and what of memory it changes.
  Conditions: the writer lies in a block of its own ('WrAt'); what it has laid fits append's room.
  What a reader of bytes takes up, in plain mathematics: numbers in sevens of bits, flags, counts, texts; an error is 10 (short), 11 (form), 12 (long), 0 none.
  No condition.
  The reader of package codec: what each method takes up, in the words of the plain reader.
  Conditions: the reader lies in a block of its own ('RdrAt').
  The reader's methods over sevens, Read and Sum.
  Conditions: as in CodecB.
  The reader's Flag, Fail, End, Text, and Read.
  Conditions: as in CodecB.
  The plain laws of numbers in sevens: what is laid is taken up again, what is taken up is laid again as it was, a beginning is too short.
  No condition.
  The document's own words for what is laid (arboretumref01): Zig, Sevens, Num, Flag, Count, Text.
  Conditions: the text fits.
-/
import Derived.Test.YtmbkbkfcbloafabRows
import Derived.Test.YtmbkbkfcbloafabJbase
import Derived.Laws.DeepNot64
namespace Go.Proofs.Ytmbkbkfcbloafab
section
open Go.RowKit
set_option linter.unusedSectionVars false
set_option linter.unusedSimpArgs false
set_option linter.unusedVariables false
set_option maxRecDepth 100000

theorem infoB : (Try.prog.info? 5).map (fun i => (i.zero, i.size, i.bytes)) = some (some (.int .u8 0), 1, 1) := by kernel_rfl
theorem cellsB : Try.prog.cellsOf 5 = 1 := by kernel_rfl
theorem isB : (Try.prog.info? 5).isSome = true := by kernel_rfl

/-- How many bytes a list may have so that append's room is never beyond the model's. -/
def bfits (n : Nat) : Prop := n ≤ 200000000000000
theorem bfits.mono {n m : Nat} (h : bfits n) (hm : m ≤ n) : bfits m := Nat.le_trans hm h
theorem bfits.room {n : Nat} (h : bfits n) : (n + n / 4 + 512) * 1 ≤ 281474976710656 := by unfold bfits at h; omega
theorem bfits.le {n : Nat} (h : bfits n) : n ≤ 2 ^ 63 - 1 := by unfold bfits at h; omega
theorem bfits.maxLen {n : Nat} (h : bfits n) : n ≤ maxLen := h.le

def SumPost (v : Value) (w : World) (e : Ending) (w' : World) : Prop := e = .returned v ∧ w' = w

theorem bfits_small {n : Nat} (h : n ≤ 65536) : bfits n := by unfold bfits; omega

/-- A writer at block pb that has laid bs. -/
def WrAt (w : World) (pb : Nat) (a : Option Addr) (cap : Nat) (bs : List UInt8) : Prop :=
  w.heap[pb]? = some (.cells #[.slice a bs.length cap, .int .i64 0] 143 (0, 0)) ∧ Sl w 5 1 a bs.length cap (bc bs) ∧ own a ≠ some pb ∧ bfits bs.length

theorem WrAt.lt {w : World} {pb : Nat} {a : Option Addr} {cap : Nat} {bs : List UInt8} (h : WrAt w pb a cap bs) : pb < w.heap.size ∧ ∀ b, own a = some b → b < w.heap.size :=
  ⟨heap_lt h.1, h.2.1.lt⟩
theorem WrAt.mod {S : Nat → Prop} {w w' : World} {pb : Nat} {a : Option Addr} {cap : Nat} {bs : List UInt8} (h : WrAt w pb a cap bs) (hm : Mod S w w') (h1 : ¬ S pb) (h2 : ∀ b, own a = some b → ¬ S b) : WrAt w' pb a cap bs :=
  ⟨hm.heap h.1 h1, h.2.1.mod hm h2, h.2.2.1, h.2.2.2⟩

/-- How a call leaves a writer. -/
def WrTo (w : World) (pb : Nat) (a : Option Addr) (bs : List UInt8) (e : Ending) (w' : World) : Prop :=
  e = .returned (.tuple #[]) ∧ ∃ a' cap', WrAt w' pb a' cap' bs ∧ Mod (fun b => b = pb ∨ own a = some b) w w' ∧ ∀ b, own a' = some b → own a = some b ∨ (w.heap.size ≤ b ∧ b < w'.heap.size)

theorem put_any (pb : Nat) (a : Option Addr) (cap : Nat) (bs : List UInt8) (w : World) (h : WrAt w pb a cap bs) (s : Option Addr) (m sc : Nat) (ys : List UInt8) (hm : ys.length = m) (hs : Rd w 1 s m sc (bc ys)) (hf : bfits (bs.length + ys.length)) :
    Calls Try.prog 88 #[.pointer (some ⟨pb, 0, none⟩), .slice s m sc] w (WrTo w pb a (bs ++ ys)) := by
  subst hm
  have hlt := h.lt
  have hc := blk_cell h.1 0 _ rfl
  have hpb := heap_lt h.1
  have HP := Lib.hid h
  have HR := Lib.hid hs
  have HF := Lib.hid hf
  clear h hs hf
  obtain ⟨ip, hip1, hip2, hip3⟩ := info_parts infoB
  have HI := Lib.hid (And.intro hip1 (And.intro hip2 hip3))
  clear hip1 hip2 hip3
  go_enter Try.func88, Try.ntmps88
  go_wp2_with (at_builtin; refine wpList_append 5 ip _ 1 1 (by kernel_rfl) HI.out.1 HI.out.2.1 HI.out.2.2.1 HI.out.2.2.2 rfl a bs.length cap (bc bs) rfl HP.out.2.1 s ys.length sc _ rfl HR.out (bc_one ys) HF.out.maxLen HF.out.room ?_; intro a1 cap1 w1 hS1 hM1 hF1 hN1 hR1; clear hN1 hR1; have hb1 := hM1.heap HP.out.1 (fun h => HP.out.2.2.1 h); have hc1 := blk_cell hb1 0 _ rfl; have hf1 := blk_free hb1 0; have HB1 := Lib.hid hb1; clear hb1)
  go_end0
  have hn1 : ∀ b, own a1 = some b → b ≠ pb := fun b hb e => by
    have h0 := HP.out.2.2.1
    rcases hF1 b hb with h | h
    · exact h0 (e ▸ h)
    · omega
  refine ⟨rfl, a1, cap1, ⟨?_, ?_, fun h => hn1 pb h rfl, ?_⟩, (hM1.mono (fun _ _ h => .inr h)).setCell ⟨pb, 0, none⟩ _ (fun _ => .inl rfl), fun b hb => ?_⟩
  · rw [List.length_append]; exact blk_set _ HB1.out
  · rw [List.length_append, bc_append]; exact hS1.mod (S := fun b => b = pb) ((Mod.refl _ w1).setCell ⟨pb, 0, none⟩ _ (fun _ => rfl)) hn1
  · rw [List.length_append]; exact HF.out
  · simp only [World.size_setCell]; exact hF1 b hb

/-- One byte more, out of a block of its own. -/
theorem put1 (pb : Nat) (a : Option Addr) (cap : Nat) (bs : List UInt8) (w : World) (h : WrAt w pb a cap bs) (b : UInt8) (x : Int) (hx : x = b.toNat) (hf : bfits (bs.length + 1)) :
    Calls Try.prog 88 #[.pointer (some ⟨pb, 0, none⟩), .slice (some ⟨w.heap.size, 0, none⟩) 1 1] (w.alloc (.cells #[.int .u8 x] 5)) (WrTo w pb a (bs ++ [b])) := by
  subst hx
  have hM : Mod (fun _ => False) w (w.alloc (.cells #[.int .u8 (b.toNat : Int)] 5)) := (Mod.refl _ w).alloc _
  have hS : Sl (w.alloc (.cells #[.int .u8 (b.toNat : Int)] 5)) 5 1 (some ⟨w.heap.size, 0, none⟩) 1 1 (bc [b]) := Sl.new (c := #[.int .u8 (b.toNat : Int)]) (heap_alloc_new w _) rfl (by unfold maxLen; omega)
  refine (put_any pb a cap bs _ (h.mod hM id (fun _ _ => id)) _ 1 1 [b] rfl hS.rd hf).mono ?_
  rintro e w2 ⟨rfl, a2, cap2, h1, h2, h3⟩
  exact ⟨rfl, a2, cap2, h1, (hM.mono (fun _ _ h => h.elim)).then h2 (fun _ _ h => h), fun b hb => (h3 b hb).imp id (fun h => by simp at h; omega)⟩

/-! ### Numbers in sevens of bits -/

def sevens (u : Nat) : List UInt8 := if u < 128 then [UInt8.ofNat u] else UInt8.ofNat (u % 128 + 128) :: sevens (u / 128)
termination_by u
decreasing_by omega

theorem sevens_small {u : Nat} (h : u < 128) : sevens u = [UInt8.ofNat u] := by rw [sevens, if_pos h]
theorem sevens_big {u : Nat} (h : 128 ≤ u) : sevens u = UInt8.ofNat (u % 128 + 128) :: sevens (u / 128) := by rw [sevens, if_neg (by omega)]
theorem sevens_length : ∀ (k u : Nat), u < 128 ^ k → 0 < k → (sevens u).length ≤ k
  | 0, u, _, h0 => by omega
  | k + 1, u, h, _ => by
    by_cases hs : u < 128
    · rw [sevens_small hs]; simp
    · rw [sevens_big (by omega), List.length_cons]
      have hk : 0 < k := by
        rcases k with _ | k
        · simp at h; omega
        · omega
      have := sevens_length k (u / 128) (by rw [Nat.pow_succ] at h; omega) hk
      omega

theorem or128 (u : Nat) : bits .or .u8 ((u : Int) % 256) 128 = ((u % 128 + 128 : Nat) : Int) := by
  have h : (u % 256) ||| 128 = u % 256 % 128 + 128 := by
    have key : ∀ a : Fin 256, a.val ||| 128 = a.val % 128 + 128 := by decide +kernel
    exact key ⟨u % 256, Nat.mod_lt _ (by omega)⟩
  have := u8_or_nat (u % 256) 128 (Nat.mod_lt _ (by omega)) (by omega)
  rw [h, show u % 256 % 128 = u % 128 from by omega] at this
  rw [← this]
  rfl

/-- Blocks from B on are the call's own: what a run of puts may have changed. -/
def SevRel (w : World) (pb : Nat) (a : Option Addr) (bs : List UInt8) (u : Nat) (x : Value) (wr : World) : Prop :=
  ∃ (v : Nat) (done : List UInt8) (a' : Option Addr) (cap' : Nat), x = .int .u64 v ∧ v ≤ u ∧ sevens u = done ++ sevens v ∧ WrAt wr pb a' cap' (bs ++ done) ∧
    Mod (fun b => b = pb ∨ own a = some b) w wr ∧ ∀ b, own a' = some b → own a = some b ∨ (w.heap.size ≤ b ∧ b < wr.heap.size)

theorem wsevens_any (pb : Nat) (a : Option Addr) (cap : Nat) (bs : List UInt8) (w : World) (h : WrAt w pb a cap bs) (u : Nat) (hu : u < 18446744073709551616) (hf : bfits (bs.length + 10)) :
    Calls Try.prog 98 #[.pointer (some ⟨pb, 0, none⟩), .int .u64 u] w (WrTo w pb a (bs ++ sevens u)) := by
  have hlen : (sevens u).length ≤ 10 := sevens_length 10 u (by omega) (by omega)
  have HP := Lib.hid h
  have HF := Lib.hid hf
  have HLn := Lib.hid hlen
  have HU := Lib.hid hu
  have hlt := h.lt
  clear h hf hlen hu
  go_enter Try.func98, Try.ntmps98
  go_wp2
  go_loopw [1] (fun x wr => SevRel w pb a bs u x wr) (fun x _ => (intOf x).toNat)
  case atStart => exact ⟨u, [], a, cap, rfl, Nat.le_refl _, rfl, by rw [List.append_nil]; exact HP.out, Mod.refl _ _, fun b hb => .inl hb⟩
  case round =>
    obtain ⟨v, done, a1, cap1, rfl, hvu, hsv, hW, hM, hF⟩ := hrel
    have hvlt : v < 18446744073709551616 := by have := HU.out; omega
    have HS := Lib.hid hsv
    have HW := Lib.hid hW
    clear hsv hW
    by_cases hbig : 127 < v
    · have hsb := sevens_big (u := v) (by omega)
      have hll := HLn.out
      rw [HS.out, hsb, List.length_append, List.length_cons] at hll
      have hlb : (bs ++ done).length + 1 ≤ bs.length + 10 := by rw [List.length_append]; omega
      have HSB := Lib.hid hsb
      clear hsb hll
      have h0 := hlt.1
      have hzr := hM.size
      go_wp2_with fail
      refine (put1 pb a1 cap1 (bs ++ done) wr HW.out (UInt8.ofNat (v % 128 + 128)) _ (by rw [or128]; simp; omega) (HF.out.mono hlb)).mono ?_
      rintro e w2 ⟨rfl, a2, cap2, hW2, hM2, hF2⟩
      go_wp2
      go_roundw
      case rel =>
        refine ⟨v / 128, done ++ [UInt8.ofNat (v % 128 + 128)], a2, cap2, ?_, by omega, by rw [HS.out, HSB.out, List.append_assoc]; rfl, by rw [← List.append_assoc]; exact hW2, hM.then hM2 (fun x hx h => ?_), fun b hb => ?_⟩
        · rw [Int.natCast_ediv]; rfl
        · rcases h with h | h
          · exact .inl h
          · rcases hF x h with h | h
            · exact .inr h
            · omega
        · have := hM2.size
          rcases hF2 b hb with h | h
          · rcases hF b h with h | h
            · exact .inl h
            · exact .inr ⟨by omega, by omega⟩
          · exact .inr ⟨by omega, by omega⟩
      case measure => simp [intOf]; omega
    · have hss := sevens_small (u := v) (by omega)
      have HSS := Lib.hid hss
      have hll := HLn.out
      rw [HS.out, hss, List.length_append] at hll
      have hlb : (bs ++ done).length + 1 ≤ bs.length + 10 := by rw [List.length_append]; simp at hll; omega
      clear hss hll
      have h0 := hlt.1
      have hzr := hM.size
      go_wp2_with fail
      refine (put1 pb a1 cap1 (bs ++ done) wr HW.out (UInt8.ofNat v) _ (by simp; omega) (HF.out.mono hlb)).mono ?_
      rintro e w2 ⟨rfl, a2, cap2, hW2, hM2, hF2⟩
      go_wp2
      go_end0
      have hsz := hM2.size
      refine ⟨rfl, a2, cap2, by rw [HS.out, HSS.out, ← List.append_assoc]; exact hW2, hM.then hM2 (fun x hx h => ?_), fun b hb => ?_⟩
      · rcases h with h | h
        · exact .inl h
        · rcases hF x h with h | h
          · exact .inr h
          · omega
      · rcases hF2 b hb with h | h
        · rcases hF b h with h | h
          · exact .inl h
          · exact .inr ⟨by omega, by omega⟩
        · exact .inr ⟨by omega, by omega⟩

theorem wsevens_int (pb : Nat) (a : Option Addr) (cap : Nat) (bs : List UInt8) (w : World) (h : WrAt w pb a cap bs) (x : Int) (u : Nat) (hx : x = u) (hu : u < 18446744073709551616) (hf : bfits (bs.length + 10)) :
    Calls Try.prog 98 #[.pointer (some ⟨pb, 0, none⟩), .int .u64 x] w (WrTo w pb a (bs ++ sevens u)) := by
  subst hx; exact wsevens_any pb a cap bs w h u hu hf

theorem wnum_any (pb : Nat) (a : Option Addr) (cap : Nat) (bs : List UInt8) (w : World) (h : WrAt w pb a cap bs) (n : Int) (h0 : -9223372036854775808 ≤ n) (h1 : n ≤ 9223372036854775807) (hf : bfits (bs.length + 10)) :
    Calls Try.prog 84 #[.pointer (some ⟨pb, 0, none⟩), .int .i64 n] w (WrTo w pb a (bs ++ sevens (zig n))) := by
  have HP := Lib.hid h
  have HF := Lib.hid hf
  clear h hf
  go_enter Try.func84, Try.ntmps84
  go_wp2_with fail
  refine (wsevens_int pb a cap bs w HP.out _ (zig n) (zig_eq n h0 h1) (zig_lt n h0 h1) HF.out).mono ?_
  rintro e w1 ⟨rfl, h⟩
  have H := Lib.hid h
  clear h
  go_wp2
  go_end0
  exact ⟨rfl, H.out⟩

theorem wcount_any (pb : Nat) (a : Option Addr) (cap : Nat) (bs : List UInt8) (w : World) (h : WrAt w pb a cap bs) (n : Int) (h0 : -9223372036854775808 ≤ n) (h1 : n ≤ 9223372036854775807) (hf : bfits (bs.length + 10)) :
    Calls Try.prog 87 #[.pointer (some ⟨pb, 0, none⟩), .int .i64 n] w (WrTo w pb a (bs ++ sevens n.toNat)) := by
  have HP := Lib.hid h
  have HF := Lib.hid hf
  clear h hf
  go_enter Try.func87, Try.ntmps87
  go_wp2_with fail
  all_goals
    refine (wsevens_int pb a cap bs w HP.out _ n.toNat (by omega) (by omega) HF.out).mono ?_
    rintro e w1 ⟨rfl, h⟩
    have H := Lib.hid h
    clear h
    go_wp2
    go_end0
    exact ⟨rfl, H.out⟩

theorem wflag_any (pb : Nat) (a : Option Addr) (cap : Nat) (bs : List UInt8) (w : World) (h : WrAt w pb a cap bs) (is : Bool) (hf : bfits (bs.length + 10)) :
    Calls Try.prog 97 #[.pointer (some ⟨pb, 0, none⟩), .bool is] w (WrTo w pb a (bs ++ [if is then 1 else 0])) := by
  have HP := Lib.hid h
  have HF := Lib.hid hf
  clear h hf
  cases is
  · go_enter Try.func97, Try.ntmps97
    go_wp2_with fail
    refine (put1 pb a cap bs w HP.out 0 _ rfl (HF.out.mono (by omega))).mono ?_
    rintro e w1 ⟨rfl, h⟩
    have H := Lib.hid h
    clear h
    go_wp2
    go_end0
    exact ⟨rfl, H.out⟩
  · go_enter Try.func97, Try.ntmps97
    go_wp2_with fail
    refine (put1 pb a cap bs w HP.out 1 _ rfl (HF.out.mono (by omega))).mono ?_
    rintro e w1 ⟨rfl, h⟩
    have H := Lib.hid h
    clear h
    go_wp2
    exact bodyPost_ret (results_none rfl _ _ _) rfl ⟨rfl, H.out⟩

theorem wtext_any (pb : Nat) (a : Option Addr) (cap : Nat) (bs : List UInt8) (w : World) (h : WrAt w pb a cap bs) (s : ByteArray) (hf : bfits (bs.length + 10 + s.size)) :
    Calls Try.prog 56 #[.pointer (some ⟨pb, 0, none⟩), .string s] w (WrTo w pb a (bs ++ sevens s.size ++ s.data.toList)) := by
  have HP := Lib.hid h
  have HF := Lib.hid hf
  clear h
  have hl := hf.le
  clear hf
  go_enter Try.func56, Try.ntmps56
  go_wp2_with fail
  refine (wcount_any pb a cap bs w HP.out s.size (by omega) (by omega) (HF.out.mono (by omega))).mono ?_
  rintro e w1 ⟨rfl, a1, cap1, hW1, hM1, hF1⟩
  have HW := Lib.hid hW1
  clear hW1
  have hl2 : s.size ≤ maxLen := (HF.out.mono (by omega)).maxLen
  go_wp2_with ((with_reducible refine at_list ?_); refine wpList_toBytes 5 (by kernel_rfl) (by kernel_rfl) (by kernel_rfl) s rfl hl2 ?_; intro cap2 w2 hR2 hM2 hz2)
  have hds : s.data.toList.length = s.size := by rw [Array.length_toList]; rfl
  have h10 : (sevens s.size).length ≤ 10 := sevens_length 10 _ (by omega) (by omega)
  refine (put_any pb a1 cap1 (bs ++ sevens s.size) w2 (HW.out.mod hM2 id (fun _ _ => id)) _ s.size cap2 s.data.toList hds hR2 (HF.out.mono (by rw [List.length_append, hds]; omega))).mono ?_
  rintro e w3 ⟨rfl, a3, cap3, hW3, hM3, hF3⟩
  have hlt := HP.out.lt
  have h1 := hM1.size
  go_wp2
  go_end0
  have h3 := hM3.size
  refine ⟨rfl, a3, cap3, hW3, (hM1.then hM2 (fun _ _ h => h.elim)).then hM3 (fun x hx h => ?_), fun b hb => ?_⟩
  · rcases h with h | h
    · exact .inl h
    · rcases hF1 x h with h | h
      · exact .inr h
      · omega
  · rcases hF3 b hb with h | h
    · rcases hF1 b h with h | h
      · exact .inl h
      · exact .inr ⟨by omega, by omega⟩
    · exact .inr ⟨by omega, by omega⟩

def StrPost (v : Value) (w : World) (e : Ending) (w' : World) : Prop := e = .returned v ∧ w = w'

theorem wbytes_any (pb : Nat) (a : Option Addr) (cap : Nat) (bs : List UInt8) (w : World) (h : WrAt w pb a cap bs) :
    Calls Try.prog 50 #[.pointer (some ⟨pb, 0, none⟩)] w (StrPost (.string ⟨bs.toArray⟩) w) := by
  have hc := blk_cell h.1 0 _ rfl
  have HP := Lib.hid h
  clear h
  go_enter Try.func50, Try.ntmps50
  go_wp2_with ((with_reducible refine at_list ?_); refine wpList_toString 5 (by kernel_rfl) (by kernel_rfl) (by kernel_rfl) a bs.length cap rfl bs HP.out.2.1.rd ?_)
  go_ret
  exact ⟨rfl, rfl⟩

def WNewPost (w : World) (e : Ending) (w' : World) : Prop :=
  ∃ pb, e = .returned (.pointer (some ⟨pb, 0, none⟩)) ∧ WrAt w' pb none 0 [] ∧ Mod (fun _ => False) w w' ∧ w.heap.size ≤ pb ∧ pb < w'.heap.size

theorem wnew_any (w : World) : Calls Try.prog 49 #[] w (WNewPost w) := by
  go_enter Try.func49, Try.ntmps49
  go_wp2
  go_ret
  exact ⟨_, rfl, ⟨heap_alloc_new _ _, Sl.nil _ _ _, by simp [own], Nat.zero_le _⟩, (Mod.refl _ _).alloc _, Nat.le_refl _, by simp⟩
end

section
/-- The rest of a number behind its k-th byte: the number, how many bytes it has, what is wrong. -/
def sv : List UInt8 → Nat → Nat → Nat × Nat × Int
  | [], _, _ => (0, 0, 10)
  | c :: l, k, u =>
    if (k = 9 ∧ 1 < c.toNat) ∨ (c.toNat = 0 ∧ 0 < k) then (0, 0, 11)
    else if c.toNat < 128 then (u + c.toNat % 128 * 128 ^ k, k + 1, 0)
    else sv l (k + 1) (u + c.toNat % 128 * 128 ^ k)

theorem sv_nil (k u : Nat) : sv [] k u = (0, 0, 10) := rfl
theorem sv_bad {c : UInt8} {l : List UInt8} {k u : Nat} (h : (k = 9 ∧ 1 < c.toNat) ∨ (c.toNat = 0 ∧ 0 < k)) : sv (c :: l) k u = (0, 0, 11) := by
  rw [sv, if_pos h]
theorem sv_end {c : UInt8} {l : List UInt8} {k u : Nat} (h : ¬ ((k = 9 ∧ 1 < c.toNat) ∨ (c.toNat = 0 ∧ 0 < k))) (h2 : c.toNat < 128) : sv (c :: l) k u = (u + c.toNat % 128 * 128 ^ k, k + 1, 0) := by
  rw [sv, if_neg h, if_pos h2]
theorem sv_more {c : UInt8} {l : List UInt8} {k u : Nat} (h : ¬ ((k = 9 ∧ 1 < c.toNat) ∨ (c.toNat = 0 ∧ 0 < k))) (h2 : ¬ c.toNat < 128) : sv (c :: l) k u = sv l (k + 1) (u + c.toNat % 128 * 128 ^ k) := by
  rw [sv, if_neg h, if_neg h2]

/-- Bounds: behind k bytes u is below 128^k; what comes out fits 64 bits, and has at most so many bytes as there are. -/
theorem sv_bounds : ∀ (l : List UInt8) (k u : Nat), k ≤ 9 → u < 128 ^ k →
    (sv l k u).1 < 18446744073709551616 ∧ (sv l k u).2.1 ≤ k + l.length ∧ ((sv l k u).2.2 = 0 ∨ (sv l k u).2.2 = 10 ∨ (sv l k u).2.2 = 11) ∧ ((sv l k u).2.2 ≠ 0 → (sv l k u).1 = 0 ∧ (sv l k u).2.1 = 0)
  | [], k, u, _, _ => by simp [sv]
  | c :: l, k, u, hk, hu => by
    by_cases h : (k = 9 ∧ 1 < c.toNat) ∨ (c.toNat = 0 ∧ 0 < k)
    · rw [sv_bad h]; exact ⟨by decide, Nat.zero_le _, .inr (.inr rfl), fun _ => ⟨rfl, rfl⟩⟩
    · by_cases h2 : c.toNat < 128
      · rw [sv_end h h2]
        refine ⟨?_, by show k + 1 ≤ k + (l.length + 1); omega, .inl rfl, fun h => absurd rfl h⟩
        show u + c.toNat % 128 * 128 ^ k < 18446744073709551616
        rw [Nat.mod_eq_of_lt h2]
        rcases Nat.lt_or_ge k 9 with hk9 | hk9
        · have h3 : 128 ^ (k + 1) ≤ 128 ^ 9 := Nat.pow_le_pow_right (by omega) (by omega)
          have h4 : u + c.toNat * 128 ^ k < 128 ^ (k + 1) := by
            rw [Nat.pow_succ]
            have : c.toNat * 128 ^ k ≤ 127 * 128 ^ k := Nat.mul_le_mul_right _ (by omega)
            omega
          have h5 : (128 : Nat) ^ 9 = 9223372036854775808 := by decide
          omega
        · obtain rfl : k = 9 := by omega
          have hc : c.toNat ≤ 1 := by
            rcases Nat.lt_or_ge 1 c.toNat with h3 | h3
            · exact absurd (.inl ⟨rfl, h3⟩) h
            · exact h3
          have h5 : (128 : Nat) ^ 9 = 9223372036854775808 := by decide
          rw [h5] at hu ⊢
          have : c.toNat * 9223372036854775808 ≤ 1 * 9223372036854775808 := Nat.mul_le_mul_right _ hc
          omega
      · rw [sv_more h h2]
        have hk9 : k < 9 := by
          rcases Nat.lt_or_ge k 9 with h3 | h3
          · exact h3
          · exact absurd (.inl ⟨by omega, by omega⟩) h
        have h4 : u + c.toNat % 128 * 128 ^ k < 128 ^ (k + 1) := by
          rw [Nat.pow_succ]
          have : c.toNat % 128 * 128 ^ k ≤ 127 * 128 ^ k := Nat.mul_le_mul_right _ (by omega)
          omega
        obtain ⟨a, b, c', d⟩ := sv_bounds l (k + 1) _ (by omega) h4
        exact ⟨a, by rw [List.length_cons]; omega, c', d⟩

def zag (u : Nat) : Int := if u % 2 = 0 then (u / 2 : Nat) else -((u / 2 : Nat) : Int) - 1

/-- A reader's state: the place, and what was wrong first. -/
structure RS where
  at_ : Nat
  wr : Int
deriving DecidableEq

def RS.fail (s : RS) (e : Int) : RS := if s.wr = 0 then ⟨s.at_, e⟩ else s

/-- A number's sevens: the number, how many bytes, the state but for the place. -/
def rsev (bs : List UInt8) (s : RS) : Nat × Nat × RS :=
  if s.wr ≠ 0 then (0, 0, s) else ((sv (bs.drop s.at_) 0 0).1, (sv (bs.drop s.at_) 0 0).2.1, ⟨s.at_, (sv (bs.drop s.at_) 0 0).2.2⟩)

def rnum (bs : List UInt8) (s : RS) : Int × RS := (zag (rsev bs s).1, ⟨s.at_ + (rsev bs s).2.1, (rsev bs s).2.2.wr⟩)

def rcount (bs : List UInt8) (most : Int) (s : RS) : Nat × RS :=
  if most.toNat < (rsev bs s).1 then (0, (rsev bs s).2.2.fail 12) else ((rsev bs s).1, ⟨s.at_ + (rsev bs s).2.1, (rsev bs s).2.2.wr⟩)

def rflag (bs : List UInt8) (s : RS) : Bool × RS :=
  if s.wr ≠ 0 then (false, s)
  else match bs[s.at_]? with
    | none => (false, s.fail 10)
    | some c => if 1 < c.toNat then (false, s.fail 11) else (c.toNat == 1, ⟨s.at_ + 1, s.wr⟩)

def rtext (bs : List UInt8) (most : Int) (s : RS) : List UInt8 × RS :=
  if bs.length - (rcount bs most s).2.at_ < (rcount bs most s).1 then ([], RS.fail ⟨s.at_, (rcount bs most s).2.wr⟩ 10)
  else ((bs.drop (rcount bs most s).2.at_).take (rcount bs most s).1, ⟨(rcount bs most s).2.at_ + (rcount bs most s).1, (rcount bs most s).2.wr⟩)

def rend (bs : List UInt8) (s : RS) : RS := if s.at_ < bs.length then s.fail 11 else s

/-- A state that may be: the place is not behind the end. -/
def RS.ok (s : RS) (n : Nat) : Prop := s.at_ ≤ n ∧ (s.wr = 0 ∨ s.wr = 10 ∨ s.wr = 11 ∨ s.wr = 12)

theorem RS.ok.fail {s : RS} {n : Nat} (h : s.ok n) (e : Int) (he : e = 10 ∨ e = 11 ∨ e = 12) : (s.fail e).ok n := by
  unfold RS.fail; split
  · exact ⟨h.1, .inr he⟩
  · exact h

theorem rsev_ok {bs : List UInt8} {s : RS} (h : s.ok bs.length) : (rsev bs s).1 < 18446744073709551616 ∧ s.at_ + (rsev bs s).2.1 ≤ bs.length ∧ (rsev bs s).2.2.ok bs.length ∧ (rsev bs s).2.2.at_ = s.at_ ∧
    ((rsev bs s).2.2.wr ≠ 0 → (rsev bs s).1 = 0 ∧ (rsev bs s).2.1 = 0) := by
  unfold rsev
  split
  · exact ⟨by omega, h.1, h, rfl, fun _ => ⟨rfl, rfl⟩⟩
  · obtain ⟨a, b, c, d⟩ := sv_bounds (bs.drop s.at_) 0 0 (by omega) (by omega)
    have h1 := h.1
    rw [List.length_drop] at b
    exact ⟨a, by show s.at_ + (sv (bs.drop s.at_) 0 0).2.1 ≤ _; omega, ⟨h1, by rcases c with c | c | c <;> simp [c]⟩, rfl, d⟩

theorem rnum_ok {bs : List UInt8} {s : RS} (h : s.ok bs.length) : (rnum bs s).2.ok bs.length :=
  ⟨(rsev_ok h).2.1, (rsev_ok h).2.2.1.2⟩
theorem rcount_ok {bs : List UInt8} {most : Int} {s : RS} (h : s.ok bs.length) : (rcount bs most s).2.ok bs.length ∧ (rcount bs most s).1 ≤ most.toNat := by
  unfold rcount; split
  · exact ⟨(rsev_ok h).2.2.1.fail 12 (.inr (.inr rfl)), by omega⟩
  · exact ⟨⟨(rsev_ok h).2.1, (rsev_ok h).2.2.1.2⟩, by omega⟩
theorem rflag_ok {bs : List UInt8} {s : RS} (h : s.ok bs.length) : (rflag bs s).2.ok bs.length := by
  unfold rflag; split
  · exact h
  · split
    · exact h.fail 10 (.inl rfl)
    · rename_i c hc
      have := (List.getElem?_eq_some_iff.1 hc).1
      split
      · exact h.fail 11 (.inr (.inl rfl))
      · exact ⟨this, h.2⟩
theorem rtext_ok {bs : List UInt8} {most : Int} {s : RS} (h : s.ok bs.length) : (rtext bs most s).2.ok bs.length := by
  have hc := (rcount_ok (most := most) h).1
  unfold rtext; split
  · exact RS.ok.fail (s := ⟨s.at_, (rcount bs most s).2.wr⟩) ⟨h.1, hc.2⟩ 10 (.inl rfl)
  · have := hc.1
    exact ⟨by show (rcount bs most s).2.at_ + (rcount bs most s).1 ≤ _; omega, hc.2⟩
theorem rend_ok {bs : List UInt8} {s : RS} (h : s.ok bs.length) : (rend bs s).ok bs.length := by
  unfold rend; split
  · exact h.fail 11 (.inr (.inl rfl))
  · exact h
end

section
open Go.RowKit
set_option linter.unusedSectionVars false
set_option linter.unusedSimpArgs false
set_option linter.unusedVariables false
set_option maxRecDepth 100000

/-- A reader at block pb of the bytes bs. -/
def RdrAt (w : World) (pb : Nat) (a : Option Addr) (cap : Nat) (bs : List UInt8) (s : RS) : Prop :=
  w.heap[pb]? = some (.cells #[.slice a bs.length cap, .int .i64 s.at_, .int .i64 s.wr] 150 (0, 0)) ∧ Rd w 1 a bs.length cap (bc bs) ∧ own a ≠ some pb ∧ s.ok bs.length ∧ bfits bs.length

theorem RdrAt.mod {S : Nat → Prop} {w w' : World} {pb : Nat} {a : Option Addr} {cap : Nat} {bs : List UInt8} {s : RS} (h : RdrAt w pb a cap bs s) (hm : Mod S w w') (h1 : ¬ S pb) (h2 : ∀ b, own a = some b → ¬ S b) : RdrAt w' pb a cap bs s :=
  ⟨hm.heap h.1 h1, h.2.1.mod hm h2, h.2.2.1, h.2.2.2.1, h.2.2.2.2⟩

/-- How a call leaves a reader. -/
def RdrTo (v : Value) (w : World) (pb : Nat) (a : Option Addr) (cap : Nat) (bs : List UInt8) (s : RS) (e : Ending) (w' : World) : Prop :=
  e = .returned v ∧ RdrAt w' pb a cap bs s ∧ Mod (fun b => b = pb) w w' ∧ w'.heap.size = w.heap.size

/-- Another state, laid into the block. -/
theorem RdrAt.put {w w' : World} {pb : Nat} {a : Option Addr} {cap : Nat} {bs : List UInt8} {s t : RS} (h : RdrAt w pb a cap bs s) (ht : t.ok bs.length) (hm : Mod (fun b => b = pb) w w')
    (hw : w'.heap[pb]? = some (.cells #[.slice a bs.length cap, .int .i64 t.at_, .int .i64 t.wr] 150 (0, 0))) : RdrAt w' pb a cap bs t :=
  ⟨hw, h.2.1.mod hm (fun b hb e => h.2.2.1 (e ▸ hb)), h.2.2.1, ht, h.2.2.2.2⟩

def LeftPost (n : Int) (w : World) (e : Ending) (w' : World) : Prop := ∃ d, e = .returned (.int .i64 n) ∧ w' = w.drewN d

theorem left_any (pb : Nat) (a : Option Addr) (cap : Nat) (bs : List UInt8) (s : RS) (w : World) (h : RdrAt w pb a cap bs s) :
    Calls Try.prog 89 #[.pointer (some ⟨pb, 0, none⟩)] w (LeftPost ((bs.length - s.at_ : Nat) : Int) w) := by
  have c0 := blk_cell h.1 0 _ rfl
  have c1 := blk_cell h.1 1 _ rfl
  have hle := h.2.2.2.1.1
  have hl := h.2.2.2.2.le
  have hz := heap_lt h.1
  obtain ⟨n, hn⟩ : ∃ n, bs.length = n := ⟨_, rfl⟩
  obtain ⟨k, hk⟩ : ∃ k, s.at_ = k := ⟨_, rfl⟩
  rw [hn] at c0 hle hl ⊢
  rw [hk] at c1 hle ⊢
  clear h hn hk
  go_enter Try.func89, Try.ntmps89
  go_wp2
  go_quiet (fail)
  go_wp2
  go_ret
  refine ⟨_, ?_, rfl⟩
  rw [Int.ofNat_sub hle]; rfl

theorem fails_any (pb : Nat) (a : Option Addr) (cap : Nat) (bs : List UInt8) (s : RS) (w : World) (h : RdrAt w pb a cap bs s) (x : Int) (hx : x = 10 ∨ x = 11 ∨ x = 12) :
    Calls Try.prog 92 #[.pointer (some ⟨pb, 0, none⟩), .int .i64 x] w (RdrTo (.tuple #[]) w pb a cap bs (s.fail x)) := by
  have c2 := blk_cell h.1 2 _ rfl
  have f2 := blk_free h.1 2
  have hz := heap_lt h.1
  have HP := Lib.hid h
  clear h
  by_cases h0 : s.wr = 0
  · have hb : (s.wr == 0) = true := by simpa using h0
    have HE : Hid (s.fail x = ⟨s.at_, x⟩) := by show s.fail x = _; rw [RS.fail, if_pos h0]
    clear h0
    go_enter Try.func92, Try.ntmps92
    go_wp2
    go_end0
    have hm : Mod (fun b => b = pb) w (w.setCell ⟨pb, 2, none⟩ (.int .i64 x)) := (Mod.refl _ w).setCell _ _ (fun _ => rfl)
    rw [HE.out]
    exact ⟨rfl, HP.out.put ⟨HP.out.2.2.2.1.1, .inr hx⟩ hm (blk_set (i := 2) _ HP.out.1), hm, by simp⟩
  · have hb : (s.wr == 0) = false := by simpa using h0
    have HE : Hid (s.fail x = s) := by show s.fail x = _; rw [RS.fail, if_neg h0]
    clear h0
    go_enter Try.func92, Try.ntmps92
    go_wp2
    go_end0
    rw [HE.out]
    exact ⟨rfl, HP.out, Mod.refl _ _, rfl⟩

/-- What the rounds of sevens keep: k bytes are taken up as u; the rest gives what the whole gives. -/
def SvRel (l : List UInt8) (x : Value) (k : Nat) : Prop := ∃ u : Nat, x = .int .u64 u ∧ u < 128 ^ k ∧ k ≤ 9 ∧ sv l 0 0 = sv (l.drop k) k u

set_option maxRecDepth 100000 in
theorem rsevens_any (pb : Nat) (a : Option Addr) (cap : Nat) (bs : List UInt8) (s : RS) (w : World) (h : RdrAt w pb a cap bs s) :
    Calls Try.prog 96 #[.pointer (some ⟨pb, 0, none⟩)] w (RdrTo (.tuple #[.int .u64 (rsev bs s).1, .int .i64 (rsev bs s).2.1]) w pb a cap bs (rsev bs s).2.2) := by
  have c0 := blk_cell h.1 0 _ rfl
  have c1 := blk_cell h.1 1 _ rfl
  have c2 := blk_cell h.1 2 _ rfl
  have hz := heap_lt h.1
  have hle := h.2.2.2.1.1
  have hl := h.2.2.2.2.le
  have HP := Lib.hid h
  clear h
  by_cases h0 : s.wr = 0
  · have hb : (s.wr != 0) = false := by simpa using h0
    have HE : Hid (rsev bs s = ((sv (bs.drop s.at_) 0 0).1, (sv (bs.drop s.at_) 0 0).2.1, ⟨s.at_, (sv (bs.drop s.at_) 0 0).2.2⟩)) := by
      show rsev bs s = _; rw [rsev, if_neg (by simpa using h0)]
    have HW := Lib.hid h0
    clear h0
    go_enter Try.func96, Try.ntmps96
    go_wp2_with fail
    refine (left_any pb a cap bs s w HP.out).mono ?_
    rintro e w1 ⟨d, rfl, rfl⟩
    obtain ⟨m, hm⟩ : ∃ m, bs.length - s.at_ = m := ⟨_, rfl⟩
    rw [hm]
    have HM := Lib.hid hm
    have hml : m ≤ 2 ^ 63 - 1 := by omega
    clear hm
    go_wp2
    go_loopw [4, 16] (fun x i wr => ∃ k : Nat, k ≤ m ∧ i = .int .i64 k ∧ SvRel (bs.drop s.at_) x k ∧ ∃ d, wr = w.drewN d) (fun _ i _ => m - (intOf i).toNat)
    case atStart => exact ⟨0, by omega, rfl, ⟨0, rfl, by omega, by omega, rfl⟩, d, rfl⟩
    case round =>
      obtain ⟨k, hk, rfl, ⟨u, rfl, hu, hk9, hsv⟩, d2, rfl⟩ := hrel
      by_cases hlt : k < m
      · have hix : s.at_ + k < bs.length := by have := HM.out; omega
        have hcg : bs[s.at_ + k]? = some bs[s.at_ + k] := List.getElem?_eq_getElem hix
        obtain ⟨c, hcc⟩ : ∃ c, bs[s.at_ + k] = c := ⟨_, rfl⟩
        rw [hcc] at hcg
        obtain ⟨b, o, hab, hcell⟩ := HP.out.2.1.byte hcg
        subst hab
        have hdr : (bs.drop s.at_).drop k = c :: (bs.drop s.at_).drop (k + 1) := by
          rw [List.drop_drop, List.drop_drop, ← hcc]; exact List.drop_eq_getElem_cons hix
        rw [hdr] at hsv
        have HSV := Lib.hid hsv
        have HU := Lib.hid hu
        have hcb : c.toNat < 256 := c.toNat_lt
        have hbl := World.block_lt_of_cell? w _ hcell
        clear hcc hdr hsv hcg hu
        have hU2 : ∀ h : ¬ ((k = 9 ∧ 1 < c.toNat) ∨ (c.toNat = 0 ∧ 0 < k)), bits .or .u64 (u : Int) (IntKind.u64.wrap (IntKind.u64.wrap (bits .and .u8 (c.toNat : Int) 127) * 2 ^ (7 * k))) = ((u + c.toNat % 128 * 128 ^ k : Nat) : Int) :=
          fun h => seven_step u k c.toNat HU.out hk9 hcb fun h9 => by omega
        have HF : Hid (∀ x, s.fail x = ⟨s.at_, x⟩) := by
          show ∀ x, s.fail x = _
          intro x; rw [RS.fail, if_pos HW.out]
        by_cases hbad : (k = 9 ∧ 1 < c.toNat) ∨ (c.toNat = 0 ∧ 0 < k)
        · have HB := Lib.hid (sv_bad (l := (bs.drop s.at_).drop (k + 1)) (u := u) hbad)
          clear hU2
          by_cases h9 : k = 9
          · by_cases hc1 : 1 < c.toNat
            · have f9 : ((k : Int) == 9) = true := by simp; omega
              have g1 : decide ((1 : Int) < (c.toNat : Int)) = true := by simp; omega
              clear hbad h9 hc1
              go_wp2
              go_quiet (fail)
              go_wp2_with fail
              refine calls_named fun wA hA => ?_
              have hA1 : RdrAt wA pb (some ⟨b, o, none⟩) cap bs s := by rw [hA]; exact HP.out
              have hA2 : Mod (fun b => b = pb) w wA := by rw [hA]; exact (Mod.refl _ w).drewN _
              have hA3 : wA.heap.size = w.heap.size := by rw [hA]; simp
              clear hA
              refine (fails_any pb (some ⟨b, o, none⟩) cap bs s wA hA1 11 (.inr (.inl rfl))).mono ?_
              rintro e w2 ⟨rfl, hr2, hm2, hz2⟩
              go_wp2
              go_ret2
              rw [HF.out 11, HE.out, HSV.out, HB.out] at *
              exact ⟨rfl, hr2, hA2.trans hm2 (fun _ _ h => h) (fun _ _ h => h), hz2.trans hA3⟩
              
            · have h0 : c.toNat = 0 := by omega
              have f9 : ((k : Int) == 9) = true := by simp; omega
              have g1 : decide ((1 : Int) < (c.toNat : Int)) = false := by simp; omega
              have gz : ((c.toNat : Int) == 0) = true := by simp; omega
              have gk : decide (0 < k) = true := by simp; omega
              clear hbad h9 hc1 h0
              go_wp2
              go_quiet (fail)
              go_wp2_with fail
              refine calls_named fun wA hA => ?_
              have hA1 : RdrAt wA pb (some ⟨b, o, none⟩) cap bs s := by rw [hA]; exact HP.out
              have hA2 : Mod (fun b => b = pb) w wA := by rw [hA]; exact (Mod.refl _ w).drewN _
              have hA3 : wA.heap.size = w.heap.size := by rw [hA]; simp
              clear hA
              refine (fails_any pb (some ⟨b, o, none⟩) cap bs s wA hA1 11 (.inr (.inl rfl))).mono ?_
              rintro e w2 ⟨rfl, hr2, hm2, hz2⟩
              go_wp2
              go_ret2
              rw [HF.out 11, HE.out, HSV.out, HB.out] at *
              exact ⟨rfl, hr2, hA2.trans hm2 (fun _ _ h => h) (fun _ _ h => h), hz2.trans hA3⟩
          · have h0 : c.toNat = 0 := by omega
            have h00 : 0 < k := by omega
            have f9 : ((k : Int) == 9) = false := by simp; omega
            have gz : ((c.toNat : Int) == 0) = true := by simp; omega
            have gk : decide (0 < k) = true := by simp; omega
            clear hbad h9 h0 h00
            go_wp2
            go_quiet (fail)
            go_wp2_with fail
            refine calls_named fun wA hA => ?_
            have hA1 : RdrAt wA pb (some ⟨b, o, none⟩) cap bs s := by rw [hA]; exact HP.out
            have hA2 : Mod (fun b => b = pb) w wA := by rw [hA]; exact (Mod.refl _ w).drewN _
            have hA3 : wA.heap.size = w.heap.size := by rw [hA]; simp
            clear hA
            refine (fails_any pb (some ⟨b, o, none⟩) cap bs s wA hA1 11 (.inr (.inl rfl))).mono ?_
            rintro e w2 ⟨rfl, hr2, hm2, hz2⟩
            go_wp2
            go_ret2
            rw [HF.out 11, HE.out, HSV.out, HB.out] at *
            exact ⟨rfl, hr2, hA2.trans hm2 (fun _ _ h => h) (fun _ _ h => h), hz2.trans hA3⟩
        · have HST := Lib.hid (hU2 hbad)
          clear hU2
          by_cases hc128 : c.toNat < 128
          · have HEND := Lib.hid (sv_end (l := (bs.drop s.at_).drop (k + 1)) (u := u) hbad hc128)
            have HOK : Hid (RS.ok ⟨s.at_, 0⟩ bs.length) := Lib.hid ⟨HP.out.2.2.2.1.1, .inl rfl⟩
            by_cases h9 : k = 9
            · have hc1 : ¬ 1 < c.toNat := by omega
              have h0 : c.toNat ≠ 0 := by omega
              have f9 : ((k : Int) == 9) = true := by simp; omega
              have g1 : decide ((1 : Int) < (c.toNat : Int)) = false := by simp; omega
              have gz : ((c.toNat : Int) == 0) = false := by simp; omega
              have gl : decide ((c.toNat : Int) < 128) = true := by simp; omega
              clear hbad h9 hc1 h0 hc128
              go_wp2
              go_quiet (fail)
              go_wp2
              go_ret2
              rw [HST.out, HE.out, HSV.out, HEND.out]
              exact ⟨rfl, HP.out.put HOK.out ((Mod.refl _ w).drewN _) (by have := HP.out.1; rw [HW.out] at this; exact this), (Mod.refl _ w).drewN _, by simp⟩
            · by_cases h0 : c.toNat = 0
              · have h00 : ¬ 0 < k := by omega
                have f9 : ((k : Int) == 9) = false := by simp; omega
                have gz : ((c.toNat : Int) == 0) = true := by simp; omega
                have gk : decide (0 < k) = false := by simp; omega
                have gl : decide ((c.toNat : Int) < 128) = true := by simp; omega
                clear hbad h9 h0 h00 hc128
                go_wp2
                go_quiet (fail)
                go_wp2
                go_ret2
                rw [HST.out, HE.out, HSV.out, HEND.out]
                exact ⟨rfl, HP.out.put HOK.out ((Mod.refl _ w).drewN _) (by have := HP.out.1; rw [HW.out] at this; exact this), (Mod.refl _ w).drewN _, by simp⟩
              · skip
                have f9 : ((k : Int) == 9) = false := by simp; omega
                have gz : ((c.toNat : Int) == 0) = false := by simp; omega
                have gl : decide ((c.toNat : Int) < 128) = true := by simp; omega
                clear hbad h9 h0 hc128
                go_wp2
                go_quiet (fail)
                go_wp2
                go_ret2
                rw [HST.out, HE.out, HSV.out, HEND.out]
                exact ⟨rfl, HP.out.put HOK.out ((Mod.refl _ w).drewN _) (by have := HP.out.1; rw [HW.out] at this; exact this), (Mod.refl _ w).drewN _, by simp⟩
          · have HEND := Lib.hid (sv_more (l := (bs.drop s.at_).drop (k + 1)) (u := u) hbad hc128)
            have h9 : ¬ k = 9 := by omega
            have h0 : ¬ c.toNat = 0 := by omega
            have hk9' : k + 1 ≤ 9 := by omega
            have HU2 : Hid (u + c.toNat % 128 * 128 ^ k < 128 ^ (k + 1)) := by
              show _ < _
              have : c.toNat % 128 * 128 ^ k ≤ 127 * 128 ^ k := Nat.mul_le_mul_right _ (by omega)
              have := HU.out
              rw [Nat.pow_succ]; omega
            have f9 : ((k : Int) == 9) = false := by simp; omega
            have gz : ((c.toNat : Int) == 0) = false := by simp; omega
            have gl : decide ((c.toNat : Int) < 128) = false := by simp; omega
            clear hbad h9 h0 hc128
            go_wp2
            go_quiet (fail)
            go_wp2
            rw [HST.out]
            refine ⟨⟨k + 1, by omega, by simp, ⟨_, rfl, HU2.out, hk9', HSV.out.trans HEND.out⟩, _, rfl⟩, ?_⟩
            simp only [intOf]; omega
      · have HB : Hid (sv (bs.drop s.at_) 0 0 = (0, 0, 10)) := by
          show _ = _
          rw [hsv, List.drop_eq_nil_of_le (by rw [List.length_drop, HM.out]; omega), sv_nil]
        have HF : Hid (∀ x, s.fail x = ⟨s.at_, x⟩) := by
          show ∀ x, s.fail x = _
          intro x; rw [RS.fail, if_pos HW.out]
        clear hsv
        go_wp2_with fail
        refine calls_named fun wA hA => ?_
        have hA1 : RdrAt wA pb a cap bs s := by rw [hA]; exact HP.out
        have hA2 : Mod (fun b => b = pb) w wA := by rw [hA]; exact (Mod.refl _ w).drewN _
        have hA3 : wA.heap.size = w.heap.size := by rw [hA]; simp
        clear hA
        refine (fails_any pb a cap bs s wA hA1 10 (.inl rfl)).mono ?_
        rintro e w2 ⟨rfl, hr2, hm2, hz2⟩
        go_wp2
        go_ret2
        rw [HF.out 10, HE.out, HB.out] at *
        exact ⟨rfl, hr2, hA2.trans hm2 (fun _ _ h => h) (fun _ _ h => h), hz2.trans hA3⟩
  · have hb : (s.wr != 0) = true := by simpa using h0
    have HE : Hid (rsev bs s = (0, 0, s)) := by show rsev bs s = _; rw [rsev, if_pos h0]
    clear h0
    go_enter Try.func96, Try.ntmps96
    go_wp2
    go_ret2
    rw [HE.out]
    exact ⟨rfl, HP.out, Mod.refl _ _, rfl⟩
end

section
open Go.RowKit
set_option linter.unusedSectionVars false
set_option linter.unusedSimpArgs false
set_option linter.unusedVariables false
set_option maxRecDepth 100000

theorem bits_xor_comm (k : IntKind) (x y : Int) : bits .xor k x y = bits .xor k y x := by
  show k.wrap ((BitVec.ofInt k.bits x ^^^ BitVec.ofInt k.bits y).toNat : Int) = k.wrap ((BitVec.ofInt k.bits y ^^^ BitVec.ofInt k.bits x).toNat : Int)
  rw [BitVec.xor_comm]

theorem i64_xor_zero (a : Nat) (ha : a < 9223372036854775808) : bits .xor .i64 (a : Int) 0 = a := by
  show IntKind.i64.wrap ((BitVec.ofInt 64 (a : Int) ^^^ BitVec.ofInt 64 0).toNat : Int) = _
  have h1 : BitVec.ofInt 64 0 = 0#64 := by decide
  rw [h1, BitVec.xor_zero, ofInt_u64 a (by omega)]
  simp [IntKind.wrap, IntKind.bits, IntKind.signed]
  omega

theorem zag_eq (u : Nat) (hu : u < 18446744073709551616) : bits .xor .i64 (wrap64 ((u : Int) / 2)) (wrap64 (-wrap64 (bits .and .u64 (u : Int) 1))) = zag u := by
  have e1 : bits .and .u64 (u : Int) 1 = ((u % 2 : Nat) : Int) := by
    rw [show (1 : Int) = ((1 : Nat) : Int) from rfl, u64_and_nat u 1 hu (by omega), Nat.and_one_is_mod]
  have e2 : wrap64 ((u : Int) / 2) = ((u / 2 : Nat) : Int) := by unfold wrap64; omega
  rw [e1, e2]
  have hlt : u / 2 < 9223372036854775808 := by omega
  unfold zag
  by_cases h : u % 2 = 0
  · rw [if_pos h, h, show wrap64 (-wrap64 ((0 : Nat) : Int)) = 0 by unfold wrap64; omega]; exact i64_xor_zero _ hlt
  · have h1 : u % 2 = 1 := by omega
    rw [if_neg h, h1, show wrap64 (-wrap64 ((1 : Nat) : Int)) = -1 by unfold wrap64; omega, bits_xor_comm, i64_not _ hlt]
    omega

theorem RdrTo.at {v : Value} {w w' : World} {pb : Nat} {a : Option Addr} {cap : Nat} {bs : List UInt8} {s : RS} {e : Ending} (h : RdrTo v w pb a cap bs s e w') : e = .returned v ∧ RdrAt w' pb a cap bs s ∧ Mod (fun b => b = pb) w w' ∧ w'.heap.size = w.heap.size := h

theorem rnum_any (pb : Nat) (a : Option Addr) (cap : Nat) (bs : List UInt8) (s : RS) (w : World) (h : RdrAt w pb a cap bs s) :
    Calls Try.prog 77 #[.pointer (some ⟨pb, 0, none⟩)] w (RdrTo (.int .i64 (rnum bs s).1) w pb a cap bs (rnum bs s).2) := by
  have hok := rsev_ok h.2.2.2.1
  have hnok := rnum_ok h.2.2.2.1
  have hbl := h.2.2.2.2.le
  have HP := Lib.hid h
  clear h
  go_enter Try.func77, Try.ntmps77
  go_wp2_with fail
  refine (rsevens_any pb a cap bs s w HP.out).mono ?_
  rintro e w1 ⟨rfl, hr, hm, hz⟩
  obtain ⟨u, hu⟩ : ∃ u, (rsev bs s).1 = u := ⟨_, rfl⟩
  obtain ⟨n, hn⟩ : ∃ n, (rsev bs s).2.1 = n := ⟨_, rfl⟩
  have HN : Hid ((rnum bs s).1 = zag u ∧ (rnum bs s).2 = ⟨s.at_ + n, (rsev bs s).2.2.wr⟩) := by
    show _ ∧ _
    rw [← hu, ← hn]; exact ⟨rfl, rfl⟩
  have c1 := blk_cell hr.1 1 _ rfl
  have f1 := blk_free hr.1 1
  have hzz := heap_lt hr.1
  rw [hok.2.2.2.1] at c1
  rw [hu, hn] at hok ⊢
  have HR := Lib.hid hr
  have hal := hok.2.1
  have hal2 : s.at_ + n ≤ 2 ^ 63 - 1 := Nat.le_trans hal hbl
  have HU := Lib.hid hok.1
  clear hu hn hr hok
  go_wp2
  go_ret
  rw [zag_eq u HU.out, HN.out.1, HN.out.2]
  have hmm : Mod (fun b => b = pb) w (w1.setCell ⟨pb, 1, none⟩ (.int .i64 ((s.at_ : Int) + n))) := hm.setCell _ _ (fun _ => rfl)
  refine ⟨rfl, HR.out.put (HN.out.2 ▸ hnok) ((Mod.refl _ w1).setCell _ _ (fun _ => rfl)) ?_, hmm, by simp [hz]⟩
  have := blk_set (i := 1) (.int .i64 ((s.at_ : Int) + n)) HR.out.1
  rw [this]; rfl

theorem rcount_any (pb : Nat) (a : Option Addr) (cap : Nat) (bs : List UInt8) (s : RS) (w : World) (h : RdrAt w pb a cap bs s) (most : Int) (h0 : -9223372036854775808 ≤ most) (h1 : most ≤ 9223372036854775807) :
    Calls Try.prog 91 #[.pointer (some ⟨pb, 0, none⟩), .int .i64 most] w (RdrTo (.int .i64 (rcount bs most s).1) w pb a cap bs (rcount bs most s).2) := by
  have hok := rsev_ok h.2.2.2.1
  have hcok := (rcount_ok (most := most) h.2.2.2.1).1
  have hbl := h.2.2.2.2.le
  have HP := Lib.hid h
  clear h
  go_enter Try.func91, Try.ntmps91
  go_wp2_with fail
  refine (rsevens_any pb a cap bs s w HP.out).mono ?_
  rintro e w1 ⟨rfl, hr, hm, hz⟩
  obtain ⟨u, hu⟩ : ∃ u, (rsev bs s).1 = u := ⟨_, rfl⟩
  obtain ⟨n, hn⟩ : ∃ n, (rsev bs s).2.1 = n := ⟨_, rfl⟩
  have HN : Hid (rcount bs most s = if most.toNat < u then (0, (rsev bs s).2.2.fail 12) else (u, ⟨s.at_ + n, (rsev bs s).2.2.wr⟩)) := by
    show rcount bs most s = _
    rw [← hu, ← hn]; rfl
  have c1 := blk_cell hr.1 1 _ rfl
  have f1 := blk_free hr.1 1
  have hzz := heap_lt hr.1
  rw [hok.2.2.2.1] at c1
  rw [hu, hn] at hok ⊢
  have HR := Lib.hid hr
  have hal := hok.2.1
  have hal2 : s.at_ + n ≤ 2 ^ 63 - 1 := Nat.le_trans hal hbl
  have HU := Lib.hid hok.1
  clear hu hn hr hok
  by_cases hb : most.toNat < u
  · have HB : Hid (rcount bs most s = (0, (rsev bs s).2.2.fail 12)) := by show _ = _; rw [HN.out, if_pos hb]
    go_wp2_with fail
    all_goals first
      | omega
      | (exfalso; rename_i hq; split at hq <;> omega)
      | (refine (fails_any pb a cap bs (rsev bs s).2.2 w1 HR.out 12 (.inr (.inr rfl))).mono ?_
         rintro e w2 ⟨rfl, hr2, hm2, hz2⟩
         go_wp2
         go_ret
         rw [HB.out]
         exact ⟨rfl, hr2, hm.trans hm2 (fun _ _ h => h) (fun _ _ h => h), hz2.trans hz⟩)
  · have HB : Hid (rcount bs most s = (u, ⟨s.at_ + n, (rsev bs s).2.2.wr⟩)) := by show _ = _; rw [HN.out, if_neg hb]
    go_wp2_with fail
    all_goals first
      | (exfalso; omega)
      | (exfalso; rename_i hq; split at hq <;> omega)
      | (go_ret
         rw [HB.out] at hcok ⊢
         exact ⟨rfl, HR.out.put hcok ((Mod.refl _ w1).setCell _ _ (fun _ => rfl)) (blk_set (i := 1) (.int .i64 ((s.at_ : Int) + n)) HR.out.1), hm.setCell _ _ (fun _ => rfl), by simp [hz]⟩)
end

section
open Go.RowKit
set_option linter.unusedSectionVars false
set_option linter.unusedSimpArgs false
set_option linter.unusedVariables false
set_option maxRecDepth 100000

theorem rfail_any (pb : Nat) (a : Option Addr) (cap : Nat) (bs : List UInt8) (s : RS) (w : World) (h : RdrAt w pb a cap bs s) :
    Calls Try.prog 90 #[.pointer (some ⟨pb, 0, none⟩)] w (RdrTo (.tuple #[]) w pb a cap bs (s.fail 11)) := by
  have HP := Lib.hid h
  clear h
  go_enter Try.func90, Try.ntmps90
  go_wp2_with fail
  refine (fails_any pb a cap bs s w HP.out 11 (.inr (.inl rfl))).mono ?_
  rintro e w1 ⟨rfl, hr, hm, hz⟩
  go_wp2
  go_end0
  exact ⟨rfl, hr, hm, hz⟩

theorem rend_any (pb : Nat) (a : Option Addr) (cap : Nat) (bs : List UInt8) (s : RS) (w : World) (h : RdrAt w pb a cap bs s) :
    Calls Try.prog 61 #[.pointer (some ⟨pb, 0, none⟩)] w (RdrTo (.int .i64 (rend bs s).wr) w pb a cap bs (rend bs s)) := by
  have HP := Lib.hid h
  have hz0 := heap_lt h.1
  have hle := h.2.2.2.1.1
  clear h
  go_enter Try.func61, Try.ntmps61
  go_wp2_with fail
  refine (left_any pb a cap bs s w HP.out).mono ?_
  rintro e w1 ⟨d, rfl, rfl⟩
  by_cases hlt : s.at_ < bs.length
  · have HE : Hid (rend bs s = s.fail 11) := by show _ = _; rw [rend, if_pos hlt]
    obtain ⟨m, hm⟩ : ∃ m, bs.length - s.at_ = m := ⟨_, rfl⟩
    rw [hm]
    have hm0 : 0 < m := by omega
    clear hm hlt
    go_wp2_with fail
    refine calls_named fun wA hA => ?_
    have hA1 : RdrAt wA pb a cap bs s := by rw [hA]; exact HP.out
    have hA2 : Mod (fun b => b = pb) w wA := by rw [hA]; exact (Mod.refl _ w).drewN _
    have hA3 : wA.heap.size = w.heap.size := by rw [hA]; simp
    clear hA
    refine (rfail_any pb a cap bs s wA hA1).mono ?_
    rintro e w2 ⟨rfl, hr2, hm2, hz2⟩
    have c2 := blk_cell hr2.1 2 _ rfl
    have hzz := heap_lt hr2.1
    have HR := Lib.hid hr2
    clear hr2
    go_wp2
    go_ret
    rw [HE.out]
    exact ⟨rfl, HR.out, hA2.trans hm2 (fun _ _ h => h) (fun _ _ h => h), hz2.trans hA3⟩
  · have HE : Hid (rend bs s = s) := by show _ = _; rw [rend, if_neg hlt]
    obtain ⟨m, hm⟩ : ∃ m, bs.length - s.at_ = m := ⟨_, rfl⟩
    rw [hm]
    have hm0 : m = 0 := by omega
    subst hm0
    clear hm hlt
    have c2 := blk_cell HP.out.1 2 _ rfl
    go_wp2
    go_ret
    rw [HE.out]
    exact ⟨rfl, HP.out, (Mod.refl _ w).drewN _, by simp⟩

set_option maxRecDepth 100000 in
theorem rflag_any (pb : Nat) (a : Option Addr) (cap : Nat) (bs : List UInt8) (s : RS) (w : World) (h : RdrAt w pb a cap bs s) :
    Calls Try.prog 95 #[.pointer (some ⟨pb, 0, none⟩)] w (RdrTo (.bool (rflag bs s).1) w pb a cap bs (rflag bs s).2) := by
  have c0 := blk_cell h.1 0 _ rfl
  have c1 := blk_cell h.1 1 _ rfl
  have c2 := blk_cell h.1 2 _ rfl
  have hz0 := heap_lt h.1
  have hle := h.2.2.2.1.1
  have hl := h.2.2.2.2.le
  have hfok := rflag_ok h.2.2.2.1
  have HP := Lib.hid h
  clear h
  by_cases h0 : s.wr = 0
  · have hb : (s.wr != 0) = false := by simpa using h0
    have HW := Lib.hid h0
    have HF : Hid (∀ x, s.fail x = ⟨s.at_, x⟩) := by
      show ∀ x, s.fail x = _
      intro x; rw [RS.fail, if_pos HW.out]
    clear h0
    go_enter Try.func95, Try.ntmps95
    go_wp2_with fail
    refine (left_any pb a cap bs s w HP.out).mono ?_
    rintro e w1 ⟨d, rfl, rfl⟩
    by_cases hlt : s.at_ < bs.length
    · have hcg : bs[s.at_]? = some bs[s.at_] := List.getElem?_eq_getElem hlt
      obtain ⟨c, hcc⟩ : ∃ c, bs[s.at_] = c := ⟨_, rfl⟩
      rw [hcc] at hcg
      obtain ⟨b, o, hab, hcell⟩ := HP.out.2.1.byte hcg
      subst hab
      have hcb : c.toNat < 256 := c.toNat_lt
      have hbl := World.block_lt_of_cell? w _ hcell
      have HLT := Lib.hid hlt
      obtain ⟨m, hm⟩ : ∃ m, bs.length - s.at_ = m := ⟨_, rfl⟩
      rw [hm]
      have hm0 : ((m : Int) == 0) = false := by simp; omega
      have HCG := Lib.hid hcg
      have HD : Hid (rflag bs s = if 1 < c.toNat then (false, s.fail 11) else (c.toNat == 1, ⟨s.at_ + 1, s.wr⟩)) := by
        show _ = _
        rw [rflag, if_neg (by simpa using HW.out), HCG.out]
      clear hcc hcg hm
      by_cases hc : 1 < c.toNat
      · have g1 : decide ((1 : Int) < (c.toNat : Int)) = true := by simp; omega
        have HE : Hid (rflag bs s = (false, s.fail 11)) := by show _ = _; rw [HD.out, if_pos hc]
        clear hc
        go_wp2
        go_quiet (fail)
        go_wp2_with fail
        refine calls_named fun wA hA => ?_
        have hA1 : RdrAt wA pb (some ⟨b, o, none⟩) cap bs s := by rw [hA]; exact HP.out
        have hA2 : Mod (fun b => b = pb) w wA := by rw [hA]; exact (Mod.refl _ w).drewN _
        have hA3 : wA.heap.size = w.heap.size := by rw [hA]; simp
        clear hA
        refine (fails_any pb (some ⟨b, o, none⟩) cap bs s wA hA1 11 (.inr (.inl rfl))).mono ?_
        rintro e w2 ⟨rfl, hr2, hm2, hz2⟩
        go_wp2
        go_ret
        rw [HE.out]
        exact ⟨rfl, hr2, hA2.trans hm2 (fun _ _ h => h) (fun _ _ h => h), hz2.trans hA3⟩
      · have g1 : decide ((1 : Int) < (c.toNat : Int)) = false := by simp; omega
        have HE : Hid (rflag bs s = (c.toNat == 1, ⟨s.at_ + 1, s.wr⟩)) := by show _ = _; rw [HD.out, if_neg hc]
        have f1 := blk_free HP.out.1 1
        have hbp : b ≠ pb := fun e => HP.out.2.2.1 (by simp [own, e])
        clear hc
        go_wp2
        go_quiet (fail)
        go_wp2
        go_quiet (fail)
        go_wp2
        go_ret
        rw [HE.out] at hfok ⊢
        have e1 : ((c.toNat : Int) == 1) = (c.toNat == 1) := by rw [Bool.eq_iff_iff]; simp; omega
        rw [e1]
        refine ⟨rfl, HP.out.put hfok ?hm ?_, ?hm, by simp⟩
        case hm =>
          refine Mod.drewN (Mod.setCell (Mod.drewN (Mod.refl (fun b => b = pb) w) _) _ _ (fun _ => rfl)) _
        exact blk_set (w := w.drewN _) (i := 1) (.int .i64 ((s.at_ : Int) + 1)) HP.out.1
    · have HE : Hid (rflag bs s = (false, s.fail 10)) := by
        show _ = _
        rw [rflag, if_neg (by simpa using HW.out), List.getElem?_eq_none (by omega)]
      obtain ⟨m, hm⟩ : ∃ m, bs.length - s.at_ = m := ⟨_, rfl⟩
      rw [hm]
      have hm0 : m = 0 := by omega
      subst hm0
      clear hm hlt
      go_wp2_with fail
      refine calls_named fun wA hA => ?_
      have hA1 : RdrAt wA pb a cap bs s := by rw [hA]; exact HP.out
      have hA2 : Mod (fun b => b = pb) w wA := by rw [hA]; exact (Mod.refl _ w).drewN _
      have hA3 : wA.heap.size = w.heap.size := by rw [hA]; simp
      clear hA
      refine (fails_any pb a cap bs s wA hA1 10 (.inl rfl)).mono ?_
      rintro e w2 ⟨rfl, hr2, hm2, hz2⟩
      go_wp2
      go_ret
      rw [HE.out]
      exact ⟨rfl, hr2, hA2.trans hm2 (fun _ _ h => h) (fun _ _ h => h), hz2.trans hA3⟩
  · have hb : (s.wr != 0) = true := by simpa using h0
    have HE : Hid (rflag bs s = (false, s)) := by show _ = _; rw [rflag, if_pos h0]
    clear h0
    go_enter Try.func95, Try.ntmps95
    go_wp2
    go_ret
    rw [HE.out]
    exact ⟨rfl, HP.out, Mod.refl _ _, rfl⟩

/-- A reader in a fresh block of the world. -/
def RNewPost (bs : List UInt8) (w : World) (e : Ending) (w' : World) : Prop :=
  ∃ pb a cap, e = .returned (.pointer (some ⟨pb, 0, none⟩)) ∧ RdrAt w' pb a cap bs ⟨0, 0⟩ ∧ Mod (fun _ => False) w w' ∧ w.heap.size ≤ pb ∧ pb < w'.heap.size ∧ (∀ b, own a = some b → w.heap.size ≤ b ∧ b < w'.heap.size)

set_option maxRecDepth 100000 in
theorem rread_any (bs : ByteArray) (hf : bfits bs.size) (w : World) : Calls Try.prog 60 #[.string bs] w (RNewPost bs.data.toList w) := by
  go_enter Try.func60, Try.ntmps60
  go_wp2_with ((with_reducible refine at_list ?_); refine wpList_toBytes 5 (by kernel_rfl) (by kernel_rfl) (by kernel_rfl) bs rfl hf.maxLen ?_)
  intro cap w1 hr hm hz
  go_wp2
  go_ret
  have e1 : bs.size = bs.data.toList.length := by rw [Array.length_toList]; rfl
  refine ⟨w.heap.size + 1, some ⟨w.heap.size, 0, none⟩, cap, rfl, ⟨?_, ?_, ?_, ⟨Nat.zero_le _, .inl rfl⟩, e1 ▸ hf⟩, hm.alloc _, by omega, by rw [World.size_alloc, hz]; omega, ?_⟩
  · rw [← e1]
    have := heap_alloc_new w1 (.cells #[.slice (some ⟨w.heap.size, 0, none⟩) bs.size cap, .int .i64 0, .int .i64 0] 150 (0, 0))
    rw [hz] at this
    exact this
  · rw [← e1]
    exact hr.mod ((Mod.refl (fun _ => False) w1).alloc _) (fun _ _ h => h)
  · simp [own]
  · intro b hb
    simp only [own, Option.map_some, Option.some.injEq] at hb
    subst hb
    exact ⟨Nat.le_refl _, by rw [World.size_alloc, hz]; omega⟩

set_option maxRecDepth 100000 in
theorem rtext_any (pb : Nat) (a : Option Addr) (cap : Nat) (bs : List UInt8) (s : RS) (w : World) (h : RdrAt w pb a cap bs s) (most : Int) (h0 : -9223372036854775808 ≤ most) (h1 : most ≤ 9223372036854775807) :
    Calls Try.prog 65 #[.pointer (some ⟨pb, 0, none⟩), .int .i64 most] w (RdrTo (.string ⟨(rtext bs most s).1.toArray⟩) w pb a cap bs (rtext bs most s).2) := by
  have c1 := blk_cell h.1 1 _ rfl
  have hz0 := heap_lt h.1
  have hle := h.2.2.2.1.1
  have hl := h.2.2.2.2.le
  have htok := rtext_ok (most := most) h.2.2.2.1
  have hcok := (rcount_ok (most := most) h.2.2.2.1).1
  have HP := Lib.hid h
  clear h
  go_enter Try.func65, Try.ntmps65
  go_wp2_with fail
  refine (rcount_any pb a cap bs s w HP.out most h0 h1).mono ?_
  rintro e w1 ⟨rfl, hr, hm, hz⟩
  obtain ⟨n, hn⟩ : ∃ n, (rcount bs most s).1 = n := ⟨_, rfl⟩
  obtain ⟨t, ht⟩ : ∃ t, (rcount bs most s).2 = t := ⟨_, rfl⟩
  have HN : Hid (rtext bs most s = if bs.length - t.at_ < n then ([], RS.fail ⟨s.at_, t.wr⟩ 10) else ((bs.drop t.at_).take n, ⟨t.at_ + n, t.wr⟩)) := by
    show _ = _
    rw [← hn, ← ht]; rfl
  rw [ht] at hr hcok
  rw [hn]
  have HR := Lib.hid hr
  have hzz := heap_lt hr.1
  clear hn ht hr
  go_wp2_with fail
  refine (left_any pb a cap bs t w1 HR.out).mono ?_
  rintro e w2 ⟨d, rfl, rfl⟩
  obtain ⟨m, hm2⟩ : ∃ m, bs.length - t.at_ = m := ⟨_, rfl⟩
  rw [hm2] at HN ⊢
  have hcok1 := hcok.1
  have d0 := blk_cell HR.out.1 0 _ rfl
  have d1 := blk_cell HR.out.1 1 _ rfl
  have f1 := blk_free HR.out.1 1
  by_cases hlt : m < n
  · have HE : Hid (rtext bs most s = ([], RS.fail ⟨s.at_, t.wr⟩ 10)) := by show _ = _; rw [HN.out, if_pos hlt]
    have hT : decide (m < n) = true := by simpa using hlt
    clear hlt hm2
    go_wp2_with fail
    refine calls_named fun wA hA => ?_
    have hA1 : RdrAt wA pb a cap bs ⟨s.at_, t.wr⟩ := by
      rw [hA]
      exact HR.out.put ⟨hle, hcok.2⟩ ((Mod.refl _ w1).drewN _ |>.setCell _ _ (fun _ => rfl)) (blk_set (w := w1.drewN d) (i := 1) (.int .i64 s.at_) HR.out.1)
    have hA2 : Mod (fun b => b = pb) w wA := by rw [hA]; exact (hm.drewN _).setCell _ _ (fun _ => rfl)
    have hA3 : wA.heap.size = w.heap.size := by rw [hA]; simp [hz]
    clear hA
    refine (fails_any pb a cap bs ⟨s.at_, t.wr⟩ wA hA1 10 (.inl rfl)).mono ?_
    rintro e w3 ⟨rfl, hr2, hm3, hz2⟩
    go_wp2
    go_ret
    rw [HE.out]
    exact ⟨rfl, hr2, hA2.trans hm3 (fun _ _ h => h) (fun _ _ h => h), hz2.trans hA3⟩
  · have HE : Hid (rtext bs most s = ((bs.drop t.at_).take n, ⟨t.at_ + n, t.wr⟩)) := by show _ = _; rw [HN.out, if_neg hlt]
    have hT : decide (m < n) = false := by simpa using hlt
    have hsum : t.at_ + n ≤ bs.length := by omega
    have hsum2 : t.at_ + n ≤ 2 ^ 63 - 1 := Nat.le_trans hsum hl
    clear hlt hm2
    obtain ⟨p', hp', hrd, hown⟩ : ∃ p', (if cap = t.at_ then a else Option.map (fun x => x.add t.at_) a) = p' ∧ Rd w1 1 p' n (cap - t.at_) (bc ((bs.drop t.at_).take n)) ∧ own p' = own a := by
      have hcap := HR.out.2.1.2.1
      obtain ⟨this, ho⟩ := HR.out.2.1.cut t.at_ (t.at_ + n) cap (by omega) hsum (by omega) (Nat.le_refl _)
      rw [Nat.mul_one, Nat.add_sub_cancel_left, Nat.mul_one] at this
      rw [Nat.mul_one] at ho
      refine ⟨_, rfl, ?_, ho⟩
      rw [show bc ((bs.drop t.at_).take n) = ((bc bs).drop t.at_).take n by simp [bc]]
      exact this
    have hcap := HR.out.2.1.2.1
    have hcm := HR.out.2.1.2.2.1
    go_wp2_with fail
    generalize hW : (w1.drewN d).setCell ⟨pb, 1, none⟩ (.int .i64 ((t.at_ : Int) + n)) = W
    have hmW : Mod (fun b => b = pb) w1 W := by rw [← hW]; exact ((Mod.refl _ w1).drewN _).setCell _ _ (fun _ => rfl)
    have hbW := blk_set (w := w1.drewN d) (i := 1) (.int .i64 ((t.at_ : Int) + n)) HR.out.1
    rw [hW] at hbW
    have hRW : RdrAt W pb a cap bs ⟨t.at_ + n, t.wr⟩ := HR.out.put ⟨hsum, hcok.2⟩ hmW hbW
    have hzW : W.heap.size = w1.heap.size := by rw [← hW]; simp
    have hrdW : Rd W 1 p' n (cap - t.at_) (bc ((bs.drop t.at_).take n)) := hrd.mod hmW (fun b hb e => HR.out.2.2.1 (by rw [← hown, hb, e]))
    clear hW d0 d1 f1
    have d0 := blk_cell hRW.1 0 _ rfl
    have d1 := blk_cell hRW.1 1 _ rfl
    have HRW := Lib.hid hRW
    clear hRW
    obtain ⟨q, hq⟩ : ∃ q, t.at_ + n = q := ⟨_, rfl⟩
    have hle1 : t.at_ ≤ q := by omega
    have hle2 : q ≤ cap := by omega
    have htl : t.at_ ≤ 2 ^ 63 - 1 := by omega
    have hwr : IntKind.i64.wrap (t.at_ : Int) = t.at_ := by rw [IntKind.wrap_i64]; omega
    have hsub : (q : Int) - (n : Int) = (t.at_ : Int) := by omega
    have hql : q - t.at_ = n := by omega
    have d1' : W.cell? ⟨pb, 1, none⟩ = some (.int .i64 q) := by rw [d1]; simp [← hq]
    clear d1 hq hsum hsum2 hrd hcok1 hbW
    go_still_tail 18, (by kernel_rfl)
    change wpList _ _ _ _ _ W.drew
    refine wpList_toString 5 (by kernel_rfl) (by kernel_rfl) (by kernel_rfl) p' n (cap - t.at_) rfl _ hrdW.drew ?_
    go_wp2
    go_ret
    rw [HE.out]
    exact ⟨rfl, HRW.out, (hm.trans hmW (fun _ _ h => h) (fun _ _ h => h)).drew, by show W.heap.size = _; omega⟩
end

section
open Go.RowKit
set_option linter.unusedSimpArgs false
set_option linter.unusedVariables false
set_option maxRecDepth 100000

theorem sevens_ne (u : Nat) : sevens u ≠ [] := by rw [sevens]; split <;> simp
theorem byte_ofNat {n : Nat} (h : n < 256) : (UInt8.ofNat n).toNat = n := by simp [UInt8.toNat_ofNat]; omega

/-- What is laid is taken up. -/
theorem sv_back : ∀ (v k u : Nat) (l : List UInt8), (0 < k → v ≠ 0) → v * 128 ^ k < 18446744073709551616 → sv (sevens v ++ l) k u = (u + v * 128 ^ k, k + (sevens v).length, 0) := by
  intro v
  induction v using Nat.strongRecOn with
  | ind v ih =>
    intro k u l h0 hv
    have hk9 : v ≠ 0 → k ≤ 9 := fun hne => by
      rcases Nat.lt_or_ge 9 k with h | h
      · exfalso
        have h1 : (128 : Nat) ^ 10 ≤ 128 ^ k := Nat.pow_le_pow_right (by omega) h
        have h2 : 1 * 128 ^ k ≤ v * 128 ^ k := Nat.mul_le_mul_right _ (by omega)
        have h3 : (18446744073709551616 : Nat) ≤ 128 ^ 10 := by decide
        rw [Nat.one_mul] at h2
        exact absurd (Nat.lt_of_le_of_lt (Nat.le_trans h3 (Nat.le_trans h1 h2)) hv) (Nat.lt_irrefl _)
      · exact h
    have h9 : k = 9 → v ≤ 1 := fun e => by
      subst e
      rcases Nat.lt_or_ge 1 v with h | h
      · exfalso
        have h2 : 2 * 128 ^ 9 ≤ v * 128 ^ 9 := Nat.mul_le_mul_right _ h
        have h3 : (18446744073709551616 : Nat) ≤ 2 * 128 ^ 9 := by decide
        exact absurd (Nat.lt_of_le_of_lt (Nat.le_trans h3 h2) hv) (Nat.lt_irrefl _)
      · exact h
    by_cases hs : v < 128
    · rw [sevens_small hs, List.singleton_append]
      have hb : (UInt8.ofNat v).toNat = v := byte_ofNat (by omega)
      rw [sv_end (by rw [hb]; rintro (⟨h, h'⟩ | ⟨h, h'⟩); · exact absurd (h9 h) (by omega)
                     · exact h0 h' h) (by rw [hb]; exact hs), hb, Nat.mod_eq_of_lt hs]
      rfl
    · rw [sevens_big (by omega), List.cons_append]
      have hb : (UInt8.ofNat (v % 128 + 128)).toNat = v % 128 + 128 := byte_ofNat (by omega)
      have hk8 : k ≠ 9 := fun e => by have := h9 e; omega
      rw [sv_more (by rw [hb]; rintro (⟨h, h'⟩ | ⟨h, h'⟩)
                      · exact hk8 h
                      · omega) (by rw [hb]; omega), hb]
      have hmul : v / 128 * 128 ^ (k + 1) ≤ v * 128 ^ k := by
        rw [Nat.pow_succ, ← Nat.mul_assoc, Nat.mul_right_comm]
        exact Nat.mul_le_mul_right _ (Nat.div_mul_le_self v 128)
      rw [ih (v / 128) (by omega) (k + 1) _ l (fun _ => by omega) (Nat.lt_of_le_of_lt hmul hv)]
      have e1 : (v % 128 + 128) % 128 = v % 128 := by omega
      have e2 : v * 128 ^ k = v % 128 * 128 ^ k + v / 128 * 128 ^ (k + 1) := by
        rw [Nat.pow_succ, ← Nat.mul_assoc, Nat.mul_right_comm, ← Nat.add_mul]
        congr 1; omega
      rw [e1, e2, List.length_cons]
      simp only [Prod.mk.injEq, and_true]
      constructor <;> omega

/-- What is taken up is laid as it was. -/
theorem sv_canon : ∀ (l : List UInt8) (k u U n : Nat), sv l k u = (U, n, 0) → ∃ v, U = u + v * 128 ^ k ∧ n = k + (sevens v).length ∧ l.take (sevens v).length = sevens v ∧ (0 < k → v ≠ 0)
  | [], k, u, U, n, h => by simp [sv] at h
  | c :: l, k, u, U, n, h => by
    by_cases hb : (k = 9 ∧ 1 < c.toNat) ∨ (c.toNat = 0 ∧ 0 < k)
    · rw [sv_bad hb] at h; simp at h
    · by_cases h2 : c.toNat < 128
      · rw [sv_end hb h2] at h
        simp only [Prod.mk.injEq, and_true] at h
        obtain ⟨rfl, rfl⟩ := h
        refine ⟨c.toNat, by rw [Nat.mod_eq_of_lt h2], by rw [sevens_small h2]; rfl, ?_, fun hk h0 => hb (.inr ⟨h0, hk⟩)⟩
        rw [sevens_small h2]
        simp
      · rw [sv_more hb h2] at h
        obtain ⟨v, h3, h4, h5, h6⟩ := sv_canon l (k + 1) _ U n h
        have hc := c.toNat_lt
        have hv0 := h6 (by omega)
        have e1 : (c.toNat % 128 + v * 128) % 128 = c.toNat % 128 := by omega
        have e2 : (c.toNat % 128 + v * 128) / 128 = v := by omega
        have e3 : UInt8.ofNat (c.toNat % 128 + 128) = c := by
          apply UInt8.toNat_inj.1
          rw [byte_ofNat (by omega)]; omega
        have hsev : sevens (c.toNat % 128 + v * 128) = c :: sevens v := by
          rw [sevens_big (by omega), e1, e2, e3]
        refine ⟨c.toNat % 128 + v * 128, ?_, ?_, ?_, fun _ => by omega⟩
        · rw [h3, Nat.add_mul, Nat.pow_succ, Nat.mul_assoc, Nat.mul_comm 128 (128 ^ k)]; omega
        · rw [hsev, List.length_cons, h4]; omega
        · rw [hsev, List.length_cons, List.take_succ_cons, h5]

/-- A beginning that is shorter is too short. -/
theorem sv_short : ∀ (v k u m : Nat), (0 < k → v ≠ 0) → v * 128 ^ k < 18446744073709551616 → m < (sevens v).length → sv ((sevens v).take m) k u = (0, 0, 10) := by
  intro v
  induction v using Nat.strongRecOn with
  | ind v ih =>
    intro k u m h0 hv hm
    cases m with
    | zero => simp [sv]
    | succ m =>
      by_cases hs : v < 128
      · rw [sevens_small hs] at hm; simp at hm
      · have h9 : k = 9 → v ≤ 1 := fun e => by
          subst e
          rcases Nat.lt_or_ge 1 v with h | h
          · exfalso
            have h2 : 2 * 128 ^ 9 ≤ v * 128 ^ 9 := Nat.mul_le_mul_right _ h
            have h3 : (18446744073709551616 : Nat) ≤ 2 * 128 ^ 9 := by decide
            exact absurd (Nat.lt_of_le_of_lt (Nat.le_trans h3 h2) hv) (Nat.lt_irrefl _)
          · exact h
        rw [sevens_big (by omega)] at hm ⊢
        rw [List.take_succ_cons]
        have hb : (UInt8.ofNat (v % 128 + 128)).toNat = v % 128 + 128 := byte_ofNat (by omega)
        have hk8 : k ≠ 9 := fun e => by have := h9 e; omega
        rw [sv_more (by rw [hb]; rintro (⟨h, h'⟩ | ⟨h, h'⟩)
                        · exact hk8 h
                        · omega) (by rw [hb]; omega), hb]
        have hmul : v / 128 * 128 ^ (k + 1) ≤ v * 128 ^ k := by
          rw [Nat.pow_succ, ← Nat.mul_assoc, Nat.mul_right_comm]
          exact Nat.mul_le_mul_right _ (Nat.div_mul_le_self v 128)
        exact ih (v / 128) (by omega) (k + 1) _ m (fun _ => by omega) (Nat.lt_of_le_of_lt hmul hv) (by simpa using hm)

theorem zag_zig (n : Int) : zag (zig n) = n := by
  unfold zag zig
  by_cases h : 0 ≤ n
  · rw [if_pos h, if_pos (by omega)]; omega
  · rw [if_neg h, if_neg (by omega)]; omega
theorem zig_zag (u : Nat) : zig (zag u) = u := by
  unfold zag zig
  by_cases h : u % 2 = 0
  · rw [if_pos h, if_pos (by omega)]; omega
  · rw [if_neg h, if_neg (by omega)]; omega
theorem zag_range {u : Nat} (h : u < 18446744073709551616) : -9223372036854775808 ≤ zag u ∧ zag u ≤ 9223372036854775807 := by
  unfold zag; split <;> omega

/-! ### What is taken up without anything wrong is laid again as it was. -/

theorem rsev_canon {bs : List UInt8} {s : RS} (h : (rsev bs s).2.2.wr = 0) : s.wr = 0 ∧ bs.take (s.at_ + (rsev bs s).2.1) = bs.take s.at_ ++ sevens (rsev bs s).1 := by
  unfold rsev at h ⊢
  split at h
  · rename_i h0; exact absurd h h0
  · rename_i h0
    have h0' : s.wr = 0 := by simpa using h0
    rw [if_neg h0]
    refine ⟨h0', ?_⟩
    simp only at h ⊢
    obtain ⟨v, h1, h2, h3, _⟩ := sv_canon (bs.drop s.at_) 0 0 _ _ (by rw [← h])
    simp only [Nat.zero_add, Nat.pow_zero, Nat.mul_one] at h1 h2
    rw [h1, h2, List.take_add, h3]

/-- The writer's bytes ys go with the reader's state. -/
def Goes (bs : List UInt8) (s : RS) (ys : List UInt8) : Prop := s.wr = 0 → ys = bs.take s.at_

theorem rsev_zero {bs : List UInt8} {s : RS} (h : s.ok bs.length) (hw : (rsev bs s).2.2.wr ≠ 0) : (rsev bs s).1 = 0 := ((rsev_ok h).2.2.2.2 hw).1

theorem goes_num {bs : List UInt8} {s : RS} {ys : List UInt8} (h : Goes bs s ys) : Goes bs (rnum bs s).2 (ys ++ sevens (zig (rnum bs s).1)) := by
  intro hw
  obtain ⟨h0, h1⟩ := rsev_canon (bs := bs) (s := s) hw
  rw [show (rnum bs s).1 = zag (rsev bs s).1 from rfl, zig_zag, h h0]
  exact h1.symm

theorem fail_wr {s : RS} {x : Int} (hx : x ≠ 0) : (s.fail x).wr ≠ 0 := by
  unfold RS.fail; split
  · exact hx
  · assumption

theorem goes_count {bs : List UInt8} {s : RS} {ys : List UInt8} (most : Int) (h : Goes bs s ys) : Goes bs (rcount bs most s).2 (ys ++ sevens (rcount bs most s).1) := by
  intro hw
  unfold rcount at hw ⊢
  split at hw
  · exact absurd hw (fail_wr (by omega))
  · rename_i h2
    rw [if_neg h2]
    obtain ⟨h0, h1⟩ := rsev_canon (bs := bs) (s := s) hw
    rw [h h0]
    exact h1.symm

theorem goes_flag {bs : List UInt8} {s : RS} {ys : List UInt8} (h : Goes bs s ys) : Goes bs (rflag bs s).2 (ys ++ [if (rflag bs s).1 then 1 else 0]) := by
  intro hw
  unfold rflag at hw ⊢
  split at hw
  · exact absurd hw ‹_›
  · rename_i h0
    rw [if_neg h0]
    split at hw
    · exact absurd hw (fail_wr (by omega))
    · rename_i c hc
      split at hw
      · exact absurd hw (fail_wr (by omega))
      · rename_i h1
        simp only [hc, if_neg h1]
        obtain ⟨hl, he⟩ := List.getElem?_eq_some_iff.1 hc
        rw [h (by simpa using h0), List.take_succ_eq_append_getElem hl, he]
        congr 2
        by_cases hc1 : c.toNat = 1
        · rw [if_pos (by simp [hc1])]
          apply UInt8.toNat_inj.1; rw [hc1]; rfl
        · rw [if_neg (by simp [hc1])]
          apply UInt8.toNat_inj.1
          have : c.toNat = 0 := by omega
          rw [this]; rfl

theorem goes_text {bs : List UInt8} {s : RS} {ys : List UInt8} (most : Int) (hok : s.ok bs.length) (h : Goes bs s ys) : Goes bs (rtext bs most s).2 (ys ++ sevens (rtext bs most s).1.length ++ (rtext bs most s).1) := by
  intro hw
  unfold rtext at hw ⊢
  split at hw
  · exact absurd hw (fail_wr (by omega))
  · rename_i h1
    rw [if_neg h1]
    have hc := goes_count most h hw
    have hat := (rcount_ok (most := most) hok).1.1
    have hl : ((bs.drop (rcount bs most s).2.at_).take (rcount bs most s).1).length = (rcount bs most s).1 := by
      rw [List.length_take, List.length_drop]; omega
    simp only at hw ⊢
    rw [hl, hc, List.take_add]

/-! Lengths: with something wrong each call lays one byte. -/
theorem sevens_zero : sevens 0 = [0] := by rw [sevens_small (by omega)]; rfl

theorem wide_num {bs : List UInt8} {s : RS} {ys : List UInt8} {k : Nat} (hok : s.ok bs.length) (h : Goes bs s ys) (hl : ys.length ≤ bs.length + k) : (ys ++ sevens (zig (rnum bs s).1)).length ≤ bs.length + (k + 1) := by
  by_cases hw : (rnum bs s).2.wr = 0
  · rw [goes_num h hw, List.length_take]; omega
  · rw [show (rnum bs s).1 = zag (rsev bs s).1 from rfl, zig_zag, rsev_zero hok hw, sevens_zero, List.length_append]; simp; omega

theorem wide_flag {bs : List UInt8} {s : RS} {ys : List UInt8} {k : Nat} (hl : ys.length ≤ bs.length + k) : (ys ++ [if (rflag bs s).1 then (1 : UInt8) else 0]).length ≤ bs.length + (k + 1) := by
  rw [List.length_append]; simp; omega

theorem rcount_zero {bs : List UInt8} {s : RS} {most : Int} (hok : s.ok bs.length) (hw : (rcount bs most s).2.wr ≠ 0) : (rcount bs most s).1 = 0 := by
  unfold rcount at hw ⊢
  split
  · rfl
  · rename_i h; rw [if_neg h] at hw; exact rsev_zero hok hw

theorem wide_count {bs : List UInt8} {s : RS} {ys : List UInt8} {k : Nat} (most : Int) (hok : s.ok bs.length) (h : Goes bs s ys) (hl : ys.length ≤ bs.length + k) : (ys ++ sevens (rcount bs most s).1).length ≤ bs.length + (k + 1) := by
  by_cases hw : (rcount bs most s).2.wr = 0
  · rw [goes_count most h hw, List.length_take]; omega
  · rw [rcount_zero hok hw, sevens_zero, List.length_append]; simp; omega

theorem rtext_none {bs : List UInt8} {s : RS} {most : Int} (hok : s.ok bs.length) (hw : (rtext bs most s).2.wr ≠ 0) : (rtext bs most s).1 = [] := by
  unfold rtext at hw ⊢
  split
  · rfl
  · rename_i h; rw [if_neg h] at hw; rw [rcount_zero hok hw]; rfl

theorem wide_text {bs : List UInt8} {s : RS} {ys : List UInt8} {k : Nat} (most : Int) (hok : s.ok bs.length) (h : Goes bs s ys) (hl : ys.length ≤ bs.length + k) :
    (ys ++ sevens (rtext bs most s).1.length ++ (rtext bs most s).1).length ≤ bs.length + (k + 1) ∧ ys.length + (rtext bs most s).1.length ≤ bs.length + k := by
  by_cases hw : (rtext bs most s).2.wr = 0
  · have e := goes_text most hok h hw
    have e2 := congrArg List.length e
    rw [List.length_take, List.length_append, List.length_append] at e2
    constructor
    · rw [e, List.length_take]; omega
    · omega
  · rw [rtext_none hok hw, List.length_nil, sevens_zero, List.append_nil, List.length_append]; simp; omega

/-- At the end: nothing wrong, all taken up. -/
theorem goes_end {bs : List UInt8} {s : RS} {ys : List UInt8} (hok : s.ok bs.length) (h : Goes bs s ys) (hw : (rend bs s).wr = 0) : ys = bs := by
  unfold rend at hw
  split at hw
  · exact absurd hw (fail_wr (by omega))
  · rename_i h1
    rw [h hw, List.take_of_length_le (by omega)]
end

section
open Go.RowKit
set_option linter.unusedSectionVars false
set_option linter.unusedSimpArgs false
set_option linter.unusedVariables false
set_option maxRecDepth 100000

/-- A text comes back; nothing old has changed. -/
def TextPost (xs : List UInt8) (w : World) (e : Ending) (w' : World) : Prop := e = .returned (.string ⟨xs.toArray⟩) ∧ Mod (fun _ => False) w w'

theorem one_src (w : World) (x : Int) (b : UInt8) (hx : x = b.toNat) : Rd (w.alloc (.cells #[.int .u8 x] 5)) 1 (some ⟨w.heap.size, 0, none⟩) 1 1 (bc [b]) := by
  subst hx
  exact (Sl.new (E := 5) (k := 1) (n := 1) (c := #[.int .u8 (b.toNat : Int)]) (heap_alloc_new w _) rfl (by unfold maxLen; omega)).rd

def SevL (w : World) (u : Nat) (x y : Value) (wr : World) : Prop :=
  ∃ (v n : Nat) (done : List UInt8) (a' : Option Addr) (cap' : Nat), x = .int .u64 v ∧ v ≤ u ∧ sevens u = done ++ sevens v ∧ done.length = n ∧ y = .slice a' n cap' ∧ Sl wr 5 1 a' n cap' (bc done) ∧
    Mod (fun _ => False) w wr ∧ ∀ b, own a' = some b → w.heap.size ≤ b

theorem append_text (xs : List UInt8) (s : ByteArray) : ByteArray.mk xs.toArray ++ s = ⟨(xs ++ s.data.toList).toArray⟩ := by
  apply ByteArray.ext
  simp

end
end Go.Proofs.Ytmbkbkfcbloafab
