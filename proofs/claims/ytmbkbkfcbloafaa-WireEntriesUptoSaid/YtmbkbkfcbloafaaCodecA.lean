/-
  The writer of package codec: what each method lays, and what of memory it changes.
  Conditions: the writer lies in a block of its own ('WrAt'); what it has laid fits append's room.
-/
import Derived.Test.YtmbkbkfcbloafaaRows
import Derived.Test.YtmbkbkfcbloafaaLib
import Derived.Test.YtmbkbkfcbloafaaBits
import Derived.Test.YtmbkbkfcbloafaaConv
namespace Go.Proofs.Ytmbkbkfcbloafaa
open Go.RowKit
set_option linter.unusedSectionVars false
set_option linter.unusedSimpArgs false
set_option linter.unusedVariables false
set_option maxRecDepth 100000

theorem infoB : (Try.prog.info? 5).map (fun i => (i.zero, i.size, i.bytes)) = some (some (.int .u8 0), 1, 1) := by kernel_rfl
theorem cellsB : Try.prog.cellsOf 5 = 1 := by kernel_rfl
theorem isB : (Try.prog.info? 5).isSome = true := by kernel_rfl

/-- How many bytes a list may have so that append's room is never beyond the model's. -/
def bfits (n : Nat) : Prop := n ≤ 200000000000000
theorem bfits.mono {n m : Nat} (h : bfits n) (hm : m ≤ n) : bfits m := Nat.le_trans hm h
theorem bfits.room {n : Nat} (h : bfits n) : (n + n / 4 + 512) * 1 ≤ 281474976710656 := by unfold bfits at h; omega
theorem bfits.le {n : Nat} (h : bfits n) : n ≤ 2 ^ 63 - 1 := by unfold bfits at h; omega
theorem bfits.maxLen {n : Nat} (h : bfits n) : n ≤ maxLen := h.le

def SumPost (v : Value) (w : World) (e : Ending) (w' : World) : Prop := e = .returned v ∧ w' = w

theorem bfits_small {n : Nat} (h : n ≤ 65536) : bfits n := by unfold bfits; omega

/-- A writer at block pb that has laid bs. -/
def WrAt (w : World) (pb : Nat) (a : Option Addr) (cap : Nat) (bs : List UInt8) : Prop :=
  w.heap[pb]? = some (.cells #[.slice a bs.length cap, .int .i64 0] 140 (0, 0)) ∧ Sl w 5 1 a bs.length cap (bc bs) ∧ own a ≠ some pb ∧ bfits bs.length

theorem WrAt.lt {w : World} {pb : Nat} {a : Option Addr} {cap : Nat} {bs : List UInt8} (h : WrAt w pb a cap bs) : pb < w.heap.size ∧ ∀ b, own a = some b → b < w.heap.size :=
  ⟨heap_lt h.1, h.2.1.lt⟩
theorem WrAt.mod {S : Nat → Prop} {w w' : World} {pb : Nat} {a : Option Addr} {cap : Nat} {bs : List UInt8} (h : WrAt w pb a cap bs) (hm : Mod S w w') (h1 : ¬ S pb) (h2 : ∀ b, own a = some b → ¬ S b) : WrAt w' pb a cap bs :=
  ⟨hm.heap h.1 h1, h.2.1.mod hm h2, h.2.2.1, h.2.2.2⟩

/-- How a call leaves a writer. -/
def WrTo (w : World) (pb : Nat) (a : Option Addr) (bs : List UInt8) (e : Ending) (w' : World) : Prop :=
  e = .returned (.tuple #[]) ∧ ∃ a' cap', WrAt w' pb a' cap' bs ∧ Mod (fun b => b = pb ∨ own a = some b) w w' ∧ ∀ b, own a' = some b → own a = some b ∨ (w.heap.size ≤ b ∧ b < w'.heap.size)

theorem put_any (pb : Nat) (a : Option Addr) (cap : Nat) (bs : List UInt8) (w : World) (h : WrAt w pb a cap bs) (s : Option Addr) (m sc : Nat) (ys : List UInt8) (hm : ys.length = m) (hs : Rd w 1 s m sc (bc ys)) (hf : bfits (bs.length + ys.length)) :
    Calls Try.prog 103 #[.pointer (some ⟨pb, 0, none⟩), .slice s m sc] w (WrTo w pb a (bs ++ ys)) := by
  subst hm
  have hlt := h.lt
  have hc := blk_cell h.1 0 _ rfl
  have hpb := heap_lt h.1
  have HP := Lib.hid h
  have HR := Lib.hid hs
  have HF := Lib.hid hf
  clear h hs hf
  obtain ⟨ip, hip1, hip2, hip3⟩ := info_parts infoB
  have HI := Lib.hid (And.intro hip1 (And.intro hip2 hip3))
  clear hip1 hip2 hip3
  go_enter Try.func103, Try.ntmps103
  go_wp2_with (at_builtin; refine wpList_append 5 ip _ 1 1 (by kernel_rfl) HI.out.1 HI.out.2.1 HI.out.2.2.1 HI.out.2.2.2 rfl a bs.length cap (bc bs) rfl HP.out.2.1 s ys.length sc _ rfl HR.out (bc_one ys) HF.out.maxLen HF.out.room ?_; intro a1 cap1 w1 hS1 hM1 hF1 hN1 hR1; clear hN1 hR1; have hb1 := hM1.heap HP.out.1 (fun h => HP.out.2.2.1 h); have hc1 := blk_cell hb1 0 _ rfl; have hf1 := blk_free hb1 0; have HB1 := Lib.hid hb1; clear hb1)
  go_end0
  have hn1 : ∀ b, own a1 = some b → b ≠ pb := fun b hb e => by
    have h0 := HP.out.2.2.1
    rcases hF1 b hb with h | h
    · exact h0 (e ▸ h)
    · omega
  refine ⟨rfl, a1, cap1, ⟨?_, ?_, fun h => hn1 pb h rfl, ?_⟩, (hM1.mono (fun _ _ h => .inr h)).setCell ⟨pb, 0, none⟩ _ (fun _ => .inl rfl), fun b hb => ?_⟩
  · rw [List.length_append]; exact blk_set _ HB1.out
  · rw [List.length_append, bc_append]; exact hS1.mod (S := fun b => b = pb) ((Mod.refl _ w1).setCell ⟨pb, 0, none⟩ _ (fun _ => rfl)) hn1
  · rw [List.length_append]; exact HF.out
  · simp only [World.size_setCell]; exact hF1 b hb

/-- One byte more, out of a block of its own. -/
theorem put1 (pb : Nat) (a : Option Addr) (cap : Nat) (bs : List UInt8) (w : World) (h : WrAt w pb a cap bs) (b : UInt8) (x : Int) (hx : x = b.toNat) (hf : bfits (bs.length + 1)) :
    Calls Try.prog 103 #[.pointer (some ⟨pb, 0, none⟩), .slice (some ⟨w.heap.size, 0, none⟩) 1 1] (w.alloc (.cells #[.int .u8 x] 5)) (WrTo w pb a (bs ++ [b])) := by
  subst hx
  have hM : Mod (fun _ => False) w (w.alloc (.cells #[.int .u8 (b.toNat : Int)] 5)) := (Mod.refl _ w).alloc _
  have hS : Sl (w.alloc (.cells #[.int .u8 (b.toNat : Int)] 5)) 5 1 (some ⟨w.heap.size, 0, none⟩) 1 1 (bc [b]) := Sl.new (c := #[.int .u8 (b.toNat : Int)]) (heap_alloc_new w _) rfl (by unfold maxLen; omega)
  refine (put_any pb a cap bs _ (h.mod hM id (fun _ _ => id)) _ 1 1 [b] rfl hS.rd hf).mono ?_
  rintro e w2 ⟨rfl, a2, cap2, h1, h2, h3⟩
  exact ⟨rfl, a2, cap2, h1, (hM.mono (fun _ _ h => h.elim)).then h2 (fun _ _ h => h), fun b hb => (h3 b hb).imp id (fun h => by simp at h; omega)⟩

/-! ### Numbers in sevens of bits -/

def sevens (u : Nat) : List UInt8 := if u < 128 then [UInt8.ofNat u] else UInt8.ofNat (u % 128 + 128) :: sevens (u / 128)
termination_by u
decreasing_by omega

theorem sevens_small {u : Nat} (h : u < 128) : sevens u = [UInt8.ofNat u] := by rw [sevens, if_pos h]
theorem sevens_big {u : Nat} (h : 128 ≤ u) : sevens u = UInt8.ofNat (u % 128 + 128) :: sevens (u / 128) := by rw [sevens, if_neg (by omega)]
theorem sevens_length : ∀ (k u : Nat), u < 128 ^ k → 0 < k → (sevens u).length ≤ k
  | 0, u, _, h0 => by omega
  | k + 1, u, h, _ => by
    by_cases hs : u < 128
    · rw [sevens_small hs]; simp
    · rw [sevens_big (by omega), List.length_cons]
      have hk : 0 < k := by
        rcases k with _ | k
        · simp at h; omega
        · omega
      have := sevens_length k (u / 128) (by rw [Nat.pow_succ] at h; omega) hk
      omega

theorem or128 (u : Nat) : bits .or .u8 ((u : Int) % 256) 128 = ((u % 128 + 128 : Nat) : Int) := by
  have h : (u % 256) ||| 128 = u % 256 % 128 + 128 := by
    have key : ∀ a : Fin 256, a.val ||| 128 = a.val % 128 + 128 := by decide +kernel
    exact key ⟨u % 256, Nat.mod_lt _ (by omega)⟩
  have := u8_or_nat (u % 256) 128 (Nat.mod_lt _ (by omega)) (by omega)
  rw [h, show u % 256 % 128 = u % 128 from by omega] at this
  rw [← this]
  rfl

/-- Blocks from B on are the call's own: what a run of puts may have changed. -/
def SevRel (w : World) (pb : Nat) (a : Option Addr) (bs : List UInt8) (u : Nat) (x : Value) (wr : World) : Prop :=
  ∃ (v : Nat) (done : List UInt8) (a' : Option Addr) (cap' : Nat), x = .int .u64 v ∧ v ≤ u ∧ sevens u = done ++ sevens v ∧ WrAt wr pb a' cap' (bs ++ done) ∧
    Mod (fun b => b = pb ∨ own a = some b) w wr ∧ ∀ b, own a' = some b → own a = some b ∨ (w.heap.size ≤ b ∧ b < wr.heap.size)

theorem wsevens_any (pb : Nat) (a : Option Addr) (cap : Nat) (bs : List UInt8) (w : World) (h : WrAt w pb a cap bs) (u : Nat) (hu : u < 18446744073709551616) (hf : bfits (bs.length + 10)) :
    Calls Try.prog 101 #[.pointer (some ⟨pb, 0, none⟩), .int .u64 u] w (WrTo w pb a (bs ++ sevens u)) := by
  have hlen : (sevens u).length ≤ 10 := sevens_length 10 u (by omega) (by omega)
  have HP := Lib.hid h
  have HF := Lib.hid hf
  have HLn := Lib.hid hlen
  have HU := Lib.hid hu
  have hlt := h.lt
  clear h hf hlen hu
  go_enter Try.func101, Try.ntmps101
  go_wp2
  go_loopw [1] (fun x wr => SevRel w pb a bs u x wr) (fun x _ => (intOf x).toNat)
  case atStart => exact ⟨u, [], a, cap, rfl, Nat.le_refl _, rfl, by rw [List.append_nil]; exact HP.out, Mod.refl _ _, fun b hb => .inl hb⟩
  case round =>
    obtain ⟨v, done, a1, cap1, rfl, hvu, hsv, hW, hM, hF⟩ := hrel
    have hvlt : v < 18446744073709551616 := by have := HU.out; omega
    have HS := Lib.hid hsv
    have HW := Lib.hid hW
    clear hsv hW
    by_cases hbig : 127 < v
    · have hsb := sevens_big (u := v) (by omega)
      have hll := HLn.out
      rw [HS.out, hsb, List.length_append, List.length_cons] at hll
      have hlb : (bs ++ done).length + 1 ≤ bs.length + 10 := by rw [List.length_append]; omega
      have HSB := Lib.hid hsb
      clear hsb hll
      have h0 := hlt.1
      have hzr := hM.size
      go_wp2_with fail
      refine (put1 pb a1 cap1 (bs ++ done) wr HW.out (UInt8.ofNat (v % 128 + 128)) _ (by rw [or128]; simp; omega) (HF.out.mono hlb)).mono ?_
      rintro e w2 ⟨rfl, a2, cap2, hW2, hM2, hF2⟩
      go_wp2
      go_roundw
      case rel =>
        refine ⟨v / 128, done ++ [UInt8.ofNat (v % 128 + 128)], a2, cap2, ?_, by omega, by rw [HS.out, HSB.out, List.append_assoc]; rfl, by rw [← List.append_assoc]; exact hW2, hM.then hM2 (fun x hx h => ?_), fun b hb => ?_⟩
        · rw [Int.natCast_ediv]; rfl
        · rcases h with h | h
          · exact .inl h
          · rcases hF x h with h | h
            · exact .inr h
            · omega
        · have := hM2.size
          rcases hF2 b hb with h | h
          · rcases hF b h with h | h
            · exact .inl h
            · exact .inr ⟨by omega, by omega⟩
          · exact .inr ⟨by omega, by omega⟩
      case measure => simp [intOf]; omega
    · have hss := sevens_small (u := v) (by omega)
      have HSS := Lib.hid hss
      have hll := HLn.out
      rw [HS.out, hss, List.length_append] at hll
      have hlb : (bs ++ done).length + 1 ≤ bs.length + 10 := by rw [List.length_append]; simp at hll; omega
      clear hss hll
      have h0 := hlt.1
      have hzr := hM.size
      go_wp2_with fail
      refine (put1 pb a1 cap1 (bs ++ done) wr HW.out (UInt8.ofNat v) _ (by simp; omega) (HF.out.mono hlb)).mono ?_
      rintro e w2 ⟨rfl, a2, cap2, hW2, hM2, hF2⟩
      go_wp2
      go_end0
      have hsz := hM2.size
      refine ⟨rfl, a2, cap2, by rw [HS.out, HSS.out, ← List.append_assoc]; exact hW2, hM.then hM2 (fun x hx h => ?_), fun b hb => ?_⟩
      · rcases h with h | h
        · exact .inl h
        · rcases hF x h with h | h
          · exact .inr h
          · omega
      · rcases hF2 b hb with h | h
        · rcases hF b h with h | h
          · exact .inl h
          · exact .inr ⟨by omega, by omega⟩
        · exact .inr ⟨by omega, by omega⟩

theorem wsevens_int (pb : Nat) (a : Option Addr) (cap : Nat) (bs : List UInt8) (w : World) (h : WrAt w pb a cap bs) (x : Int) (u : Nat) (hx : x = u) (hu : u < 18446744073709551616) (hf : bfits (bs.length + 10)) :
    Calls Try.prog 101 #[.pointer (some ⟨pb, 0, none⟩), .int .u64 x] w (WrTo w pb a (bs ++ sevens u)) := by
  subst hx; exact wsevens_any pb a cap bs w h u hu hf

theorem wnum_any (pb : Nat) (a : Option Addr) (cap : Nat) (bs : List UInt8) (w : World) (h : WrAt w pb a cap bs) (n : Int) (h0 : -9223372036854775808 ≤ n) (h1 : n ≤ 9223372036854775807) (hf : bfits (bs.length + 10)) :
    Calls Try.prog 62 #[.pointer (some ⟨pb, 0, none⟩), .int .i64 n] w (WrTo w pb a (bs ++ sevens (zig n))) := by
  have HP := Lib.hid h
  have HF := Lib.hid hf
  clear h hf
  go_enter Try.func62, Try.ntmps62
  go_wp2_with fail
  refine (wsevens_int pb a cap bs w HP.out _ (zig n) (zig_eq n h0 h1) (zig_lt n h0 h1) HF.out).mono ?_
  rintro e w1 ⟨rfl, h⟩
  have H := Lib.hid h
  clear h
  go_wp2
  go_end0
  exact ⟨rfl, H.out⟩

theorem wcount_any (pb : Nat) (a : Option Addr) (cap : Nat) (bs : List UInt8) (w : World) (h : WrAt w pb a cap bs) (n : Int) (h0 : -9223372036854775808 ≤ n) (h1 : n ≤ 9223372036854775807) (hf : bfits (bs.length + 10)) :
    Calls Try.prog 102 #[.pointer (some ⟨pb, 0, none⟩), .int .i64 n] w (WrTo w pb a (bs ++ sevens n.toNat)) := by
  have HP := Lib.hid h
  have HF := Lib.hid hf
  clear h hf
  go_enter Try.func102, Try.ntmps102
  go_wp2_with fail
  all_goals
    refine (wsevens_int pb a cap bs w HP.out _ n.toNat (by omega) (by omega) HF.out).mono ?_
    rintro e w1 ⟨rfl, h⟩
    have H := Lib.hid h
    clear h
    go_wp2
    go_end0
    exact ⟨rfl, H.out⟩

theorem wflag_any (pb : Nat) (a : Option Addr) (cap : Nat) (bs : List UInt8) (w : World) (h : WrAt w pb a cap bs) (is : Bool) (hf : bfits (bs.length + 10)) :
    Calls Try.prog 120 #[.pointer (some ⟨pb, 0, none⟩), .bool is] w (WrTo w pb a (bs ++ [if is then 1 else 0])) := by
  have HP := Lib.hid h
  have HF := Lib.hid hf
  clear h hf
  cases is
  · go_enter Try.func120, Try.ntmps120
    go_wp2_with fail
    refine (put1 pb a cap bs w HP.out 0 _ rfl (HF.out.mono (by omega))).mono ?_
    rintro e w1 ⟨rfl, h⟩
    have H := Lib.hid h
    clear h
    go_wp2
    go_end0
    exact ⟨rfl, H.out⟩
  · go_enter Try.func120, Try.ntmps120
    go_wp2_with fail
    refine (put1 pb a cap bs w HP.out 1 _ rfl (HF.out.mono (by omega))).mono ?_
    rintro e w1 ⟨rfl, h⟩
    have H := Lib.hid h
    clear h
    go_wp2
    exact bodyPost_ret (results_none rfl _ _ _) rfl ⟨rfl, H.out⟩

theorem wtext_any (pb : Nat) (a : Option Addr) (cap : Nat) (bs : List UInt8) (w : World) (h : WrAt w pb a cap bs) (s : ByteArray) (hf : bfits (bs.length + 10 + s.size)) :
    Calls Try.prog 63 #[.pointer (some ⟨pb, 0, none⟩), .string s] w (WrTo w pb a (bs ++ sevens s.size ++ s.data.toList)) := by
  have HP := Lib.hid h
  have HF := Lib.hid hf
  clear h
  have hl := hf.le
  clear hf
  go_enter Try.func63, Try.ntmps63
  go_wp2_with fail
  refine (wcount_any pb a cap bs w HP.out s.size (by omega) (by omega) (HF.out.mono (by omega))).mono ?_
  rintro e w1 ⟨rfl, a1, cap1, hW1, hM1, hF1⟩
  have HW := Lib.hid hW1
  clear hW1
  have hl2 : s.size ≤ maxLen := (HF.out.mono (by omega)).maxLen
  go_wp2_with ((with_reducible refine at_list ?_); refine wpList_toBytes 5 (by kernel_rfl) (by kernel_rfl) (by kernel_rfl) s rfl hl2 ?_; intro cap2 w2 hR2 hM2 hz2)
  have hds : s.data.toList.length = s.size := by rw [Array.length_toList]; rfl
  have h10 : (sevens s.size).length ≤ 10 := sevens_length 10 _ (by omega) (by omega)
  refine (put_any pb a1 cap1 (bs ++ sevens s.size) w2 (HW.out.mod hM2 id (fun _ _ => id)) _ s.size cap2 s.data.toList hds hR2 (HF.out.mono (by rw [List.length_append, hds]; omega))).mono ?_
  rintro e w3 ⟨rfl, a3, cap3, hW3, hM3, hF3⟩
  have hlt := HP.out.lt
  have h1 := hM1.size
  go_wp2
  go_end0
  have h3 := hM3.size
  refine ⟨rfl, a3, cap3, hW3, (hM1.then hM2 (fun _ _ h => h.elim)).then hM3 (fun x hx h => ?_), fun b hb => ?_⟩
  · rcases h with h | h
    · exact .inl h
    · rcases hF1 x h with h | h
      · exact .inr h
      · omega
  · rcases hF3 b hb with h | h
    · rcases hF1 b h with h | h
      · exact .inl h
      · exact .inr ⟨by omega, by omega⟩
    · exact .inr ⟨by omega, by omega⟩

def StrPost (v : Value) (w : World) (e : Ending) (w' : World) : Prop := e = .returned v ∧ w = w'

theorem wbytes_any (pb : Nat) (a : Option Addr) (cap : Nat) (bs : List UInt8) (w : World) (h : WrAt w pb a cap bs) :
    Calls Try.prog 61 #[.pointer (some ⟨pb, 0, none⟩)] w (StrPost (.string ⟨bs.toArray⟩) w) := by
  have hc := blk_cell h.1 0 _ rfl
  have HP := Lib.hid h
  clear h
  go_enter Try.func61, Try.ntmps61
  go_wp2_with ((with_reducible refine at_list ?_); refine wpList_toString 5 (by kernel_rfl) (by kernel_rfl) (by kernel_rfl) a bs.length cap rfl bs HP.out.2.1.rd ?_)
  go_ret
  exact ⟨rfl, rfl⟩

def WNewPost (w : World) (e : Ending) (w' : World) : Prop :=
  ∃ pb, e = .returned (.pointer (some ⟨pb, 0, none⟩)) ∧ WrAt w' pb none 0 [] ∧ Mod (fun _ => False) w w' ∧ w.heap.size ≤ pb ∧ pb < w'.heap.size

theorem wnew_any (w : World) : Calls Try.prog 60 #[] w (WNewPost w) := by
  go_enter Try.func60, Try.ntmps60
  go_wp2
  go_ret
  exact ⟨_, rfl, ⟨heap_alloc_new _ _, Sl.nil _ _ _, by simp [own], Nat.zero_le _⟩, (Mod.refl _ _).alloc _, Nat.le_refl _, by simp⟩
end Go.Proofs.Ytmbkbkfcbloafaa
