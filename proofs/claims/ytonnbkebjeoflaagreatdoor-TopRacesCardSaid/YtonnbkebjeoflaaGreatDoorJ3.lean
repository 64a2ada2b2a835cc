/-
  Contracts and plain laws of Conv, CodecA, CodecP.
  Conditions: each law states its own.
-/
import Derived.Lib.SlBytesConst
import Derived.Test.YtonnbkebjeoflaaGreatDoorProg
import Derived.Test.YtonnbkebjeoflaaGreatDoorJ2
set_option linter.unusedSectionVars false
set_option linter.unusedSimpArgs false
set_option linter.unusedVariables false
set_option maxRecDepth 100000
namespace Go.Proofs.YtonnbkebjeoflaaGreatDoor
open Go.RowKit
def bc (bs : List UInt8) : List Value := bs.map fun b => .int .u8 b.toNat
theorem bc_append (a b : List UInt8) : bc (a ++ b) = bc a ++ bc b := List.map_append
theorem bc_length (a : List UInt8) : (bc a).length = a.length := List.length_map ..
theorem bc_one (a : List UInt8) : ∀ u ∈ bc a, u.oneCell' = true := by
 intro u hu
 obtain ⟨b, _, rfl⟩ := List.mem_map.1 hu
 rfl
theorem bc_take (a : List UInt8) (n : Nat) : (bc a).take n = bc (a.take n) := List.map_take.symm
theorem bc_drop (a : List UInt8) (n : Nat) : (bc a).drop n = bc (a.drop n) := List.map_drop.symm
theorem bc_get (a : List UInt8) (n : Nat) (b : UInt8) (h : a[n]? = some b) : (bc a)[n]? = some (.int .u8 b.toNat) := by
 simp [bc, h]
theorem freeze_new (w : World) (c : Array Value) (e : TypeId) (k : Nat) : (w.alloc (.cells c e)).freeze ⟨w.heap.size, k, none⟩ 1 = w.alloc (.cells c e (k, k + 1)) := by
 have hm : ∀ (a : Array Obj) (x : Obj) (f : Obj → Obj), (a.push x).modify a.size f = a.push (f x) := by
  intro a x f
  apply Array.ext
  ·simp
  ·intro i h1 h2
   simp only [Array.getElem_modify, Array.getElem_push]
   by_cases h : a.size = i
   ·subst h; simp
   ·have hi : i < a.size := by simp at h1; omega
    simp [h, hi]
 unfold World.freeze
 rw [if_neg (by decide)]
 show ({ w.alloc (.cells c e) with heap := (w.heap.push (.cells c e)).modify w.heap.size _ } : World) = _
 rw [hm]
 rfl
theorem toBytes_law {P : Program} (w : World) (src dst e : TypeId) (hs : P.underlying src = some .string) (hd : P.underlying dst = some (.slice e)) (he : P.underlying e = some (.int .u8)) (s : ByteArray) (hm : s.size ≤ maxLen) :
 ∃ cap w', (convert src dst (.string s)).run P w = .ok (.slice (some ⟨w.heap.size, 0, none⟩) s.size cap) w' ∧ Rd w' 1 (some ⟨w.heap.size, 0, none⟩) s.size cap (bc s.data.toList) ∧ Mod (fun _ => False) w w' ∧ w'.heap.size = w.heap.size + 1 := by
 obtain ⟨cap, hcap⟩ : ∃ cap, (Question.appendCap s.size 0 e).cut (w.tape w.drawn (.appendCap s.size 0 e)) = cap := ⟨_, rfl⟩
 have hge : s.size ≤ cap := by rw [← hcap]; exact grownCap_ge w s.size 0 e
 have hle : cap ≤ maxLen := by rw [← hcap]; exact grownCap_le_maxLen w s.size 0 e hm
 obtain ⟨C, hC⟩ : ∃ C : Array Value, (s.data.map fun b => Value.int .u8 b.toNat) ++ Array.replicate (cap - s.size) (.int .u8 0) = C := ⟨_, rfl⟩
 have hsh : (w.drew.alloc (.cells C e)).shape? w.heap.size = some (e, C.size) := by
  have : (w.drew.alloc (.cells C e)).heap[w.heap.size]? = some (.cells C e) := heap_alloc_new w.drew _
  unfold World.shape?
  rw [this]
 have hfr := freeze_new w.drew C e C.size
 refine ⟨cap, w.drew.alloc (.cells C e (C.size, C.size + 1)), ?_, ?_, ((Mod.refl _ w).drew).alloc _, by simp⟩
 ·simp only [World.size_drew] at hfr
  simp [convert, run_underlying hs, run_underlying hd, run_underlying he, Conv.stringToBytes, Question.forced, hcap, hC, newRow, markStringish, hsh, hfr]
 ·have hl : (bc s.data.toList).length = s.size := by rw [bc_length, Array.length_toList]; rfl
  refine ⟨by rw [hl, Nat.mul_one], hge, hle, .inr ⟨_, rfl, fun j u hu => ?_⟩⟩
  have hrow := cell_of_row (w.drew.alloc (.cells C e (C.size, C.size + 1))) w.heap.size j C e (C.size, C.size + 1) (heap_alloc_new w.drew _)
  rw [add_none, Nat.zero_add, hrow]
  have hj : j < s.size := by rw [← hl]; exact (List.getElem?_eq_some_iff.1 hu).1
  rw [← hC, Array.getElem?_append_left (by rw [Array.size_map]; exact hj)]
  simp only [bc, List.getElem?_map, Array.getElem?_toList] at hu
  simpa using hu
theorem push_bytes : ∀ (ns : List Int) (s : ByteArray), ns.foldl (fun r n => r.push (UInt8.ofNat n.toNat)) s = ⟨s.data ++ (ns.map fun n => UInt8.ofNat n.toNat).toArray⟩ := foldl_push_bytes
theorem toString_law {P : Program} (w : World) (src dst e : TypeId) (hs : P.underlying src = some (.slice e)) (he : P.underlying e = some (.int .u8)) (hd : P.underlying dst = some .string)
 (a : Option Addr) (n cap : Nat) (bs : List UInt8) (h : Rd w 1 a n cap (bc bs)) : (convert src dst (.slice a n cap)).run P w = .ok (.string ⟨bs.toArray⟩) w := by
 obtain ⟨hl, hn, hm, ⟨rfl, hc⟩ | ⟨x, rfl, hcell⟩⟩ := h
 ·rw [bc_length] at hl
  have : bs = [] := List.eq_nil_of_length_eq_zero (by omega)
  subst this
  rw [run_convert_bytes_string w src dst e none n cap hs he hd]
  rfl
 ·have hld := run_loadCells_list (P := P) w x (bc bs) hcell
  rw [hl, Nat.mul_one] at hld
  have hld' : (loadCells x n).run P w = .ok ((bs.map fun b => (b.toNat : Int)).map (Value.int .u8)).toArray w := by
   rw [hld]; simp [bc]
  rw [run_convert_bytes_string w src dst e _ n cap hs he hd, run_bytesToString w x n cap _ hld', push_bytes]
  congr 2
  have e1 : (bs.map fun b => (b.toNat : Int)).map (fun n => UInt8.ofNat n.toNat) = bs := by
   rw [List.map_map]
   conv => rhs; rw [← List.map_id bs]
   apply List.map_congr_left
   intro b _
   simp
  rw [e1]
  congr 1
  simp
theorem Rd.byte {w : World} {a : Option Addr} {n cap : Nat} {bs : List UInt8} (h : Rd w 1 a n cap (bc bs)) {k : Nat} {c : UInt8} (hc : bs[k]? = some c) :
 ∃ b o, a = some ⟨b, o, none⟩ ∧ w.cell? ⟨b, o + k, none⟩ = some (.int .u8 c.toNat) := by
 obtain ⟨hl, hn, hm, ⟨rfl, h0⟩ | ⟨x, rfl, hcell⟩⟩ := h
 ·have hlt : k < bs.length := (List.getElem?_eq_some_iff.1 hc).1
  rw [bc_length] at hl; omega
 ·have key := hcell k _ (bc_get bs k c hc)
  obtain ⟨b, o, sp⟩ := x
  have hs : sp = none := by
   have h0 : k < bs.length := (List.getElem?_eq_some_iff.1 hc).1
   have := hcell 0 _ (bc_get bs 0 (bs[0]'(by omega)) (List.getElem?_eq_getElem _))
   simp [Addr.add, World.cell?] at this
   split at this
   ·cases sp <;> simp at this ⊢
   ·cases this
  subst hs
  rw [add_none] at key
  exact ⟨b, o, rfl, key⟩
section
variable {P : Program} {ops : Array Oper} {rest : List Oper} {dst : Option Tmp} {ty0 : TypeId} {pos : String} {after : Array Edge} {a : Act} {w : World} {Q : Exit → Act → World → Prop}
theorem wpList_toBytes {src dt : TypeId} {x : Operand} (e : TypeId) (hs : P.underlying src = some .string) (hd : P.underlying dt = some (.slice e)) (he : P.underlying e = some (.int .u8)) (s : ByteArray) (hx : a.eval x = .string s) (hm : s.size ≤ maxLen)
 (h : ∀ cap w', Rd w' 1 (some ⟨w.heap.size, 0, none⟩) s.size cap (bc s.data.toList) → Mod (fun _ => False) w w' → w'.heap.size = w.heap.size + 1 → wpList P ops Q rest (a.put dst (.slice (some ⟨w.heap.size, 0, none⟩) s.size cap)) w') :
 wpList P ops Q (⟨dst, .convert src dt x, ty0, pos, after, none⟩ :: rest) a w :=
 wpList_plain rfl fun K hK => by
  obtain ⟨cap, w', hr, h1, h2, h3⟩ := toBytes_law (P := P) w src dt e hs hd he s hm
  unfold Oper.wp execOp
  simp only [hx, Sem.run_bind, Sem.run_pure, hr, Result.andThen_ok]
  exact hK _ _ (h cap w' h1 h2 h3)
theorem wpList_toString {src dt : TypeId} {x : Operand} (e : TypeId) (hs : P.underlying src = some (.slice e)) (he : P.underlying e = some (.int .u8)) (hd : P.underlying dt = some .string) (p : Option Addr) (n cap : Nat) (hx : a.eval x = .slice p n cap) (bs : List UInt8) (hr : Rd w 1 p n cap (bc bs))
 (h : wpList P ops Q rest (a.put dst (.string ⟨bs.toArray⟩)) w) : wpList P ops Q (⟨dst, .convert src dt x, ty0, pos, after, none⟩ :: rest) a w :=
 wpList_plain rfl fun K hK => by
  have hrun := toString_law (P := P) w src dt e hs he hd p n cap bs hr
  unfold Oper.wp execOp
  simp only [hx, Sem.run_bind, Sem.run_pure, hrun, Result.andThen_ok]
  exact hK _ _ h
end
end Go.Proofs.YtonnbkebjeoflaaGreatDoor
namespace Go.Proofs.YtonnbkebjeoflaaGreatDoor.W
open Go.RowKit
theorem infoB : (Tryz.prog.info? 5).map (fun i => (i.zero, i.size, i.bytes)) = some (some (.int .u8 0), 1, 1) := by kernel_rfl
def bfits (n : Nat) : Prop := n ≤ 200000000000000
theorem bfits.mono {n m : Nat} (h : bfits n) (hm : m ≤ n) : bfits m := Nat.le_trans hm h
theorem bfits.room {n : Nat} (h : bfits n) : (n + n / 4 + 512) * 1 ≤ 281474976710656 := by unfold bfits at h; omega
theorem bfits.le {n : Nat} (h : bfits n) : n ≤ 2 ^ 63 - 1 := by unfold bfits at h; omega
theorem bfits.maxLen {n : Nat} (h : bfits n) : n ≤ maxLen := h.le
def SumPost (v : Value) (w : World) (e : Ending) (w' : World) : Prop := e = .returned v ∧ w' = w
def WrAt (w : World) (pb : Nat) (a : Option Addr) (cap : Nat) (bs : List UInt8) : Prop :=
 w.heap[pb]? = some (.cells #[.slice a bs.length cap, .int .i64 0] 276 (0, 0)) ∧ Sl w 5 1 a bs.length cap (bc bs) ∧ own a ≠ some pb ∧ bfits bs.length
theorem WrAt.lt {w : World} {pb : Nat} {a : Option Addr} {cap : Nat} {bs : List UInt8} (h : WrAt w pb a cap bs) : pb < w.heap.size ∧ ∀ b, own a = some b → b < w.heap.size :=
 ⟨heap_lt h.1, h.2.1.lt⟩
theorem WrAt.mod {S : Nat → Prop} {w w' : World} {pb : Nat} {a : Option Addr} {cap : Nat} {bs : List UInt8} (h : WrAt w pb a cap bs) (hm : Mod S w w') (h1 : ¬ S pb) (h2 : ∀ b, own a = some b → ¬ S b) : WrAt w' pb a cap bs :=
 ⟨hm.heap h.1 h1, h.2.1.mod hm h2, h.2.2.1, h.2.2.2⟩
def WrTo (w : World) (pb : Nat) (a : Option Addr) (bs : List UInt8) (e : Ending) (w' : World) : Prop :=
 e = .returned (.tuple #[]) ∧ ∃ a' cap', WrAt w' pb a' cap' bs ∧ Mod (fun b => b = pb ∨ own a = some b) w w' ∧ ∀ b, own a' = some b → own a = some b ∨ (w.heap.size ≤ b ∧ b < w'.heap.size)
theorem put_any (pb : Nat) (a : Option Addr) (cap : Nat) (bs : List UInt8) (w : World) (h : WrAt w pb a cap bs) (s : Option Addr) (m sc : Nat) (ys : List UInt8) (hm : ys.length = m) (hs : Rd w 1 s m sc (bc ys)) (hf : bfits (bs.length + ys.length)) :
 Calls Tryz.prog 240 #[.pointer (some ⟨pb, 0, none⟩), .slice s m sc] w (WrTo w pb a (bs ++ ys)) := by
 subst hm
 have hlt := h.lt
 have hc := blk_cell h.1 0 _ rfl
 have hpb := heap_lt h.1
 have HP := Lib.hid h
 have HR := Lib.hid hs
 have HF := Lib.hid hf
 clear h hs hf
 obtain ⟨ip, hip1, hip2, hip3⟩ := info_parts infoB
 have HI := Lib.hid (And.intro hip1 (And.intro hip2 hip3))
 clear hip1 hip2 hip3
 go_enter Tryz.func240, Tryz.ntmps240
 go_wp2_with (at_builtin; refine wpList_append 5 ip _ 1 1 (by kernel_rfl) HI.out.1 HI.out.2.1 HI.out.2.2.1 HI.out.2.2.2 rfl a bs.length cap (bc bs) rfl HP.out.2.1 s ys.length sc _ rfl HR.out (bc_one ys) HF.out.maxLen HF.out.room ?_; intro a1 cap1 w1 hS1 hM1 hF1 hN1 hR1; clear hN1 hR1; have hb1 := hM1.heap HP.out.1 (fun h => HP.out.2.2.1 h); have hc1 := blk_cell hb1 0 _ rfl; have hf1 := blk_free hb1 0; have HB1 := Lib.hid hb1; clear hb1)
 go_end0
 have hn1 : ∀ b, own a1 = some b → b ≠ pb := fun b hb e => by
  have h0 := HP.out.2.2.1
  rcases hF1 b hb with h | h
  ·exact h0 (e ▸ h)
  ·omega
 refine ⟨rfl, a1, cap1, ⟨?_, ?_, fun h => hn1 pb h rfl, ?_⟩, (hM1.mono (fun _ _ h => .inr h)).setCell ⟨pb, 0, none⟩ _ (fun _ => .inl rfl), fun b hb => ?_⟩
 ·rw [List.length_append]; exact blk_set _ HB1.out
 ·rw [List.length_append, bc_append]; exact hS1.mod (S := fun b => b = pb) ((Mod.refl _ w1).setCell ⟨pb, 0, none⟩ _ (fun _ => rfl)) hn1
 ·rw [List.length_append]; exact HF.out
 ·simp only [World.size_setCell]; exact hF1 b hb
theorem put1 (pb : Nat) (a : Option Addr) (cap : Nat) (bs : List UInt8) (w : World) (h : WrAt w pb a cap bs) (b : UInt8) (x : Int) (hx : x = b.toNat) (hf : bfits (bs.length + 1)) :
 Calls Tryz.prog 240 #[.pointer (some ⟨pb, 0, none⟩), .slice (some ⟨w.heap.size, 0, none⟩) 1 1] (w.alloc (.cells #[.int .u8 x] 5)) (WrTo w pb a (bs ++ [b])) := by
 subst hx
 have hM : Mod (fun _ => False) w (w.alloc (.cells #[.int .u8 (b.toNat : Int)] 5)) := (Mod.refl _ w).alloc _
 have hS : Sl (w.alloc (.cells #[.int .u8 (b.toNat : Int)] 5)) 5 1 (some ⟨w.heap.size, 0, none⟩) 1 1 (bc [b]) := Sl.new (c := #[.int .u8 (b.toNat : Int)]) (heap_alloc_new w _) rfl (by unfold maxLen; omega)
 refine (put_any pb a cap bs _ (h.mod hM id (fun _ _ => id)) _ 1 1 [b] rfl hS.rd hf).mono ?_
 rintro e w2 ⟨rfl, a2, cap2, h1, h2, h3⟩
 exact ⟨rfl, a2, cap2, h1, (hM.mono (fun _ _ h => h.elim)).then h2 (fun _ _ h => h), fun b hb => (h3 b hb).imp id (fun h => by simp at h; omega)⟩
def sevens (u : Nat) : List UInt8 := if u < 128 then [UInt8.ofNat u] else UInt8.ofNat (u % 128 + 128) :: sevens (u / 128)
termination_by u
decreasing_by omega
theorem sevens_small {u : Nat} (h : u < 128) : sevens u = [UInt8.ofNat u] := by rw [sevens, if_pos h]
theorem sevens_big {u : Nat} (h : 128 ≤ u) : sevens u = UInt8.ofNat (u % 128 + 128) :: sevens (u / 128) := by rw [sevens, if_neg (by omega)]
theorem sevens_length : ∀ (k u : Nat), u < 128 ^ k → 0 < k → (sevens u).length ≤ k
 | 0, u, _, h0 => by omega
 | k + 1, u, h, _ => by
   by_cases hs : u < 128
   ·rw [sevens_small hs]; simp
   ·rw [sevens_big (by omega), List.length_cons]
    have hk : 0 < k := by
     rcases k with _ | k
     ·simp at h; omega
     ·omega
    have := sevens_length k (u / 128) (by rw [Nat.pow_succ] at h; omega) hk
    omega
theorem or128 (u : Nat) : bits .or .u8 ((u : Int) % 256) 128 = ((u % 128 + 128 : Nat) : Int) := by
 have h : (u % 256) ||| 128 = u % 256 % 128 + 128 := by
  have key : ∀ a : Fin 256, a.val ||| 128 = a.val % 128 + 128 := by decide +kernel
  exact key ⟨u % 256, Nat.mod_lt _ (by omega)⟩
 have := u8_or_nat (u % 256) 128 (Nat.mod_lt _ (by omega)) (by omega)
 rw [h, show u % 256 % 128 = u % 128 from by omega] at this
 rw [← this]
 rfl
def SevRel (w : World) (pb : Nat) (a : Option Addr) (bs : List UInt8) (u : Nat) (x : Value) (wr : World) : Prop :=
 ∃ (v : Nat) (done : List UInt8) (a' : Option Addr) (cap' : Nat), x = .int .u64 v ∧ v ≤ u ∧ sevens u = done ++ sevens v ∧ WrAt wr pb a' cap' (bs ++ done) ∧
   Mod (fun b => b = pb ∨ own a = some b) w wr ∧ ∀ b, own a' = some b → own a = some b ∨ (w.heap.size ≤ b ∧ b < wr.heap.size)
theorem wsevens_any (pb : Nat) (a : Option Addr) (cap : Nat) (bs : List UInt8) (w : World) (h : WrAt w pb a cap bs) (u : Nat) (hu : u < 18446744073709551616) (hf : bfits (bs.length + 10)) :
 Calls Tryz.prog 173 #[.pointer (some ⟨pb, 0, none⟩), .int .u64 u] w (WrTo w pb a (bs ++ sevens u)) := by
 have hlen : (sevens u).length ≤ 10 := sevens_length 10 u (by omega) (by omega)
 have HP := Lib.hid h
 have HF := Lib.hid hf
 have HLn := Lib.hid hlen
 have HU := Lib.hid hu
 have hlt := h.lt
 clear h hf hlen hu
 go_enter Tryz.func173, Tryz.ntmps173
 go_wp2
 go_loopw [1] (fun x wr => SevRel w pb a bs u x wr) (fun x _ => (intOf x).toNat)
 case atStart => exact ⟨u, [], a, cap, rfl, Nat.le_refl _, rfl, by rw [List.append_nil]; exact HP.out, Mod.refl _ _, fun b hb => .inl hb⟩
 case round =>
  obtain ⟨v, done, a1, cap1, rfl, hvu, hsv, hW, hM, hF⟩ := hrel
  have hvlt : v < 18446744073709551616 := by have := HU.out; omega
  have HS := Lib.hid hsv
  have HW := Lib.hid hW
  clear hsv hW
  by_cases hbig : 127 < v
  ·have hsb := sevens_big (u := v) (by omega)
   have hll := HLn.out
   rw [HS.out, hsb, List.length_append, List.length_cons] at hll
   have hlb : (bs ++ done).length + 1 ≤ bs.length + 10 := by rw [List.length_append]; omega
   have HSB := Lib.hid hsb
   clear hsb hll
   have h0 := hlt.1
   have hzr := hM.size
   go_wp2_with fail
   refine (put1 pb a1 cap1 (bs ++ done) wr HW.out (UInt8.ofNat (v % 128 + 128)) _ (by rw [or128]; simp; omega) (HF.out.mono hlb)).mono ?_
   rintro e w2 ⟨rfl, a2, cap2, hW2, hM2, hF2⟩
   go_wp2
   go_roundw
   case rel =>
    refine ⟨v / 128, done ++ [UInt8.ofNat (v % 128 + 128)], a2, cap2, ?_, by omega, by rw [HS.out, HSB.out, List.append_assoc]; rfl, by rw [← List.append_assoc]; exact hW2, hM.then hM2 (fun x hx h => ?_), fun b hb => ?_⟩
    ·rw [Int.natCast_ediv]; rfl
    ·rcases h with h | h
     ·exact .inl h
     ·rcases hF x h with h | h
      ·exact .inr h
      ·omega
    ·have := hM2.size
     rcases hF2 b hb with h | h
     ·rcases hF b h with h | h
      ·exact .inl h
      ·exact .inr ⟨by omega, by omega⟩
     ·exact .inr ⟨by omega, by omega⟩
   case measure => simp [intOf]; omega
  ·have hss := sevens_small (u := v) (by omega)
   have HSS := Lib.hid hss
   have hll := HLn.out
   rw [HS.out, hss, List.length_append] at hll
   have hlb : (bs ++ done).length + 1 ≤ bs.length + 10 := by rw [List.length_append]; simp at hll; omega
   clear hss hll
   have h0 := hlt.1
   have hzr := hM.size
   go_wp2_with fail
   refine (put1 pb a1 cap1 (bs ++ done) wr HW.out (UInt8.ofNat v) _ (by simp; omega) (HF.out.mono hlb)).mono ?_
   rintro e w2 ⟨rfl, a2, cap2, hW2, hM2, hF2⟩
   go_wp2
   go_end0
   have hsz := hM2.size
   refine ⟨rfl, a2, cap2, by rw [HS.out, HSS.out, ← List.append_assoc]; exact hW2, hM.then hM2 (fun x hx h => ?_), fun b hb => ?_⟩
   ·rcases h with h | h
    ·exact .inl h
    ·rcases hF x h with h | h
     ·exact .inr h
     ·omega
   ·rcases hF2 b hb with h | h
    ·rcases hF b h with h | h
     ·exact .inl h
     ·exact .inr ⟨by omega, by omega⟩
    ·exact .inr ⟨by omega, by omega⟩
theorem wsevens_int (pb : Nat) (a : Option Addr) (cap : Nat) (bs : List UInt8) (w : World) (h : WrAt w pb a cap bs) (x : Int) (u : Nat) (hx : x = u) (hu : u < 18446744073709551616) (hf : bfits (bs.length + 10)) :
 Calls Tryz.prog 173 #[.pointer (some ⟨pb, 0, none⟩), .int .u64 x] w (WrTo w pb a (bs ++ sevens u)) := by
 subst hx; exact wsevens_any pb a cap bs w h u hu hf
theorem wnum_any (pb : Nat) (a : Option Addr) (cap : Nat) (bs : List UInt8) (w : World) (h : WrAt w pb a cap bs) (n : Int) (h0 : -9223372036854775808 ≤ n) (h1 : n ≤ 9223372036854775807) (hf : bfits (bs.length + 10)) :
 Calls Tryz.prog 99 #[.pointer (some ⟨pb, 0, none⟩), .int .i64 n] w (WrTo w pb a (bs ++ sevens (zig n))) := by
 have HP := Lib.hid h
 have HF := Lib.hid hf
 clear h hf
 go_enter Tryz.func99, Tryz.ntmps99
 go_wp2_with fail
 refine (wsevens_int pb a cap bs w HP.out _ (zig n) (zig_eq n h0 h1) (zig_lt n h0 h1) HF.out).mono ?_
 rintro e w1 ⟨rfl, h⟩
 have H := Lib.hid h
 clear h
 go_wp2
 go_end0
 exact ⟨rfl, H.out⟩
theorem wcount_any (pb : Nat) (a : Option Addr) (cap : Nat) (bs : List UInt8) (w : World) (h : WrAt w pb a cap bs) (n : Int) (h0 : -9223372036854775808 ≤ n) (h1 : n ≤ 9223372036854775807) (hf : bfits (bs.length + 10)) :
 Calls Tryz.prog 100 #[.pointer (some ⟨pb, 0, none⟩), .int .i64 n] w (WrTo w pb a (bs ++ sevens n.toNat)) := by
 have HP := Lib.hid h
 have HF := Lib.hid hf
 clear h hf
 go_enter Tryz.func100, Tryz.ntmps100
 go_wp2_with fail
 all_goals
  refine (wsevens_int pb a cap bs w HP.out _ n.toNat (by omega) (by omega) HF.out).mono ?_
  rintro e w1 ⟨rfl, h⟩
  have H := Lib.hid h
  clear h
  go_wp2
  go_end0
  exact ⟨rfl, H.out⟩
theorem wtext_any (pb : Nat) (a : Option Addr) (cap : Nat) (bs : List UInt8) (w : World) (h : WrAt w pb a cap bs) (s : ByteArray) (hf : bfits (bs.length + 10 + s.size)) :
 Calls Tryz.prog 231 #[.pointer (some ⟨pb, 0, none⟩), .string s] w (WrTo w pb a (bs ++ sevens s.size ++ s.data.toList)) := by
 have HP := Lib.hid h
 have HF := Lib.hid hf
 clear h
 have hl := hf.le
 clear hf
 go_enter Tryz.func231, Tryz.ntmps231
 go_wp2_with fail
 refine (wcount_any pb a cap bs w HP.out s.size (by omega) (by omega) (HF.out.mono (by omega))).mono ?_
 rintro e w1 ⟨rfl, a1, cap1, hW1, hM1, hF1⟩
 have HW := Lib.hid hW1
 clear hW1
 have hl2 : s.size ≤ maxLen := (HF.out.mono (by omega)).maxLen
 go_wp2_with ((with_reducible refine at_list ?_); refine wpList_toBytes 5 (by kernel_rfl) (by kernel_rfl) (by kernel_rfl) s rfl hl2 ?_; intro cap2 w2 hR2 hM2 hz2)
 have hds : s.data.toList.length = s.size := by rw [Array.length_toList]; rfl
 have h10 : (sevens s.size).length ≤ 10 := sevens_length 10 _ (by omega) (by omega)
 refine (put_any pb a1 cap1 (bs ++ sevens s.size) w2 (HW.out.mod hM2 id (fun _ _ => id)) _ s.size cap2 s.data.toList hds hR2 (HF.out.mono (by rw [List.length_append, hds]; omega))).mono ?_
 rintro e w3 ⟨rfl, a3, cap3, hW3, hM3, hF3⟩
 have hlt := HP.out.lt
 have h1 := hM1.size
 go_wp2
 go_end0
 have h3 := hM3.size
 refine ⟨rfl, a3, cap3, hW3, (hM1.then hM2 (fun _ _ h => h.elim)).then hM3 (fun x hx h => ?_), fun b hb => ?_⟩
 ·rcases h with h | h
  ·exact .inl h
  ·rcases hF1 x h with h | h
   ·exact .inr h
   ·omega
 ·rcases hF3 b hb with h | h
  ·rcases hF1 b h with h | h
   ·exact .inl h
   ·exact .inr ⟨by omega, by omega⟩
  ·exact .inr ⟨by omega, by omega⟩
def StrPost (v : Value) (w : World) (e : Ending) (w' : World) : Prop := e = .returned v ∧ w = w'
theorem wbytes_any (pb : Nat) (a : Option Addr) (cap : Nat) (bs : List UInt8) (w : World) (h : WrAt w pb a cap bs) :
 Calls Tryz.prog 101 #[.pointer (some ⟨pb, 0, none⟩)] w (StrPost (.string ⟨bs.toArray⟩) w) := by
 have hc := blk_cell h.1 0 _ rfl
 have HP := Lib.hid h
 clear h
 go_enter Tryz.func101, Tryz.ntmps101
 go_wp2_with ((with_reducible refine at_list ?_); refine wpList_toString 5 (by kernel_rfl) (by kernel_rfl) (by kernel_rfl) a bs.length cap rfl bs HP.out.2.1.rd ?_)
 go_ret
 exact ⟨rfl, rfl⟩
def WNewPost (w : World) (e : Ending) (w' : World) : Prop :=
 ∃ pb, e = .returned (.pointer (some ⟨pb, 0, none⟩)) ∧ WrAt w' pb none 0 [] ∧ Mod (fun _ => False) w w' ∧ w.heap.size ≤ pb ∧ pb < w'.heap.size
theorem wnew_any (w : World) : Calls Tryz.prog 98 #[] w (WNewPost w) := by
 go_enter Tryz.func98, Tryz.ntmps98
 go_wp2
 go_ret
 exact ⟨_, rfl, ⟨heap_alloc_new _ _, Sl.nil _ _ _, by simp [own], Nat.zero_le _⟩, (Mod.refl _ _).alloc _, Nat.le_refl _, by simp⟩
end Go.Proofs.YtonnbkebjeoflaaGreatDoor.W
namespace Go.Proofs.YtonnbkebjeoflaaGreatDoor.W
def sv : List UInt8 → Nat → Nat → Nat × Nat × Int
 | [], _, _ => (0, 0, 10)
 | c :: l, k, u =>
   if (k = 9 ∧ 1 < c.toNat) ∨ (c.toNat = 0 ∧ 0 < k) then (0, 0, 11)
   else if c.toNat < 128 then (u + c.toNat % 128 * 128 ^ k, k + 1, 0)
   else sv l (k + 1) (u + c.toNat % 128 * 128 ^ k)
theorem sv_nil (k u : Nat) : sv [] k u = (0, 0, 10) := rfl
theorem sv_bad {c : UInt8} {l : List UInt8} {k u : Nat} (h : (k = 9 ∧ 1 < c.toNat) ∨ (c.toNat = 0 ∧ 0 < k)) : sv (c :: l) k u = (0, 0, 11) := by
 rw [sv, if_pos h]
theorem sv_end {c : UInt8} {l : List UInt8} {k u : Nat} (h : ¬ ((k = 9 ∧ 1 < c.toNat) ∨ (c.toNat = 0 ∧ 0 < k))) (h2 : c.toNat < 128) : sv (c :: l) k u = (u + c.toNat % 128 * 128 ^ k, k + 1, 0) := by
 rw [sv, if_neg h, if_pos h2]
theorem sv_more {c : UInt8} {l : List UInt8} {k u : Nat} (h : ¬ ((k = 9 ∧ 1 < c.toNat) ∨ (c.toNat = 0 ∧ 0 < k))) (h2 : ¬ c.toNat < 128) : sv (c :: l) k u = sv l (k + 1) (u + c.toNat % 128 * 128 ^ k) := by
 rw [sv, if_neg h, if_neg h2]
theorem sv_bounds : ∀ (l : List UInt8) (k u : Nat), k ≤ 9 → u < 128 ^ k →
 (sv l k u).1 < 18446744073709551616 ∧ (sv l k u).2.1 ≤ k + l.length ∧ ((sv l k u).2.2 = 0 ∨ (sv l k u).2.2 = 10 ∨ (sv l k u).2.2 = 11) ∧ ((sv l k u).2.2 ≠ 0 → (sv l k u).1 = 0 ∧ (sv l k u).2.1 = 0)
 | [], k, u, _, _ => by simp [sv]
 | c :: l, k, u, hk, hu => by
   by_cases h : (k = 9 ∧ 1 < c.toNat) ∨ (c.toNat = 0 ∧ 0 < k)
   ·rw [sv_bad h]; exact ⟨by decide, Nat.zero_le _, .inr (.inr rfl), fun _ => ⟨rfl, rfl⟩⟩
   ·by_cases h2 : c.toNat < 128
    ·rw [sv_end h h2]
     refine ⟨?_, by show k + 1 ≤ k + (l.length + 1); omega, .inl rfl, fun h => absurd rfl h⟩
     show u + c.toNat % 128 * 128 ^ k < 18446744073709551616
     rw [Nat.mod_eq_of_lt h2]
     rcases Nat.lt_or_ge k 9 with hk9 | hk9
     ·have h3 : 128 ^ (k + 1) ≤ 128 ^ 9 := Nat.pow_le_pow_right (by omega) (by omega)
      have h4 : u + c.toNat * 128 ^ k < 128 ^ (k + 1) := by
       rw [Nat.pow_succ]
       have : c.toNat * 128 ^ k ≤ 127 * 128 ^ k := Nat.mul_le_mul_right _ (by omega)
       omega
      have h5 : (128 : Nat) ^ 9 = 9223372036854775808 := by decide
      omega
     ·obtain rfl : k = 9 := by omega
      have hc : c.toNat ≤ 1 := by
       rcases Nat.lt_or_ge 1 c.toNat with h3 | h3
       ·exact absurd (.inl ⟨rfl, h3⟩) h
       ·exact h3
      have h5 : (128 : Nat) ^ 9 = 9223372036854775808 := by decide
      rw [h5] at hu ⊢
      have : c.toNat * 9223372036854775808 ≤ 1 * 9223372036854775808 := Nat.mul_le_mul_right _ hc
      omega
    ·rw [sv_more h h2]
     have hk9 : k < 9 := by
      rcases Nat.lt_or_ge k 9 with h3 | h3
      ·exact h3
      ·exact absurd (.inl ⟨by omega, by omega⟩) h
     have h4 : u + c.toNat % 128 * 128 ^ k < 128 ^ (k + 1) := by
      rw [Nat.pow_succ]
      have : c.toNat % 128 * 128 ^ k ≤ 127 * 128 ^ k := Nat.mul_le_mul_right _ (by omega)
      omega
     obtain ⟨a, b, c', d⟩ := sv_bounds l (k + 1) _ (by omega) h4
     exact ⟨a, by rw [List.length_cons]; omega, c', d⟩
def zag (u : Nat) : Int := if u % 2 = 0 then (u / 2 : Nat) else -((u / 2 : Nat) : Int) - 1
structure RS where
 at_ : Nat
 wr : Int
deriving DecidableEq
def RS.fail (s : RS) (e : Int) : RS := if s.wr = 0 then ⟨s.at_, e⟩ else s
def rsev (bs : List UInt8) (s : RS) : Nat × Nat × RS :=
 if s.wr ≠ 0 then (0, 0, s) else ((sv (bs.drop s.at_) 0 0).1, (sv (bs.drop s.at_) 0 0).2.1, ⟨s.at_, (sv (bs.drop s.at_) 0 0).2.2⟩)
def rnum (bs : List UInt8) (s : RS) : Int × RS := (zag (rsev bs s).1, ⟨s.at_ + (rsev bs s).2.1, (rsev bs s).2.2.wr⟩)
def rcount (bs : List UInt8) (most : Int) (s : RS) : Nat × RS :=
 if most.toNat < (rsev bs s).1 then (0, (rsev bs s).2.2.fail 12) else ((rsev bs s).1, ⟨s.at_ + (rsev bs s).2.1, (rsev bs s).2.2.wr⟩)
def rtext (bs : List UInt8) (most : Int) (s : RS) : List UInt8 × RS :=
 if bs.length - (rcount bs most s).2.at_ < (rcount bs most s).1 then ([], RS.fail ⟨s.at_, (rcount bs most s).2.wr⟩ 10)
 else ((bs.drop (rcount bs most s).2.at_).take (rcount bs most s).1, ⟨(rcount bs most s).2.at_ + (rcount bs most s).1, (rcount bs most s).2.wr⟩)
def rend (bs : List UInt8) (s : RS) : RS := if s.at_ < bs.length then s.fail 11 else s
def RS.ok (s : RS) (n : Nat) : Prop := s.at_ ≤ n ∧ (s.wr = 0 ∨ s.wr = 10 ∨ s.wr = 11 ∨ s.wr = 12)
theorem RS.ok.fail {s : RS} {n : Nat} (h : s.ok n) (e : Int) (he : e = 10 ∨ e = 11 ∨ e = 12) : (s.fail e).ok n := by
 unfold RS.fail; split
 ·exact ⟨h.1, .inr he⟩
 ·exact h
theorem rsev_ok {bs : List UInt8} {s : RS} (h : s.ok bs.length) : (rsev bs s).1 < 18446744073709551616 ∧ s.at_ + (rsev bs s).2.1 ≤ bs.length ∧ (rsev bs s).2.2.ok bs.length ∧ (rsev bs s).2.2.at_ = s.at_ ∧
 ((rsev bs s).2.2.wr ≠ 0 → (rsev bs s).1 = 0 ∧ (rsev bs s).2.1 = 0) := by
 unfold rsev
 split
 ·exact ⟨by omega, h.1, h, rfl, fun _ => ⟨rfl, rfl⟩⟩
 ·obtain ⟨a, b, c, d⟩ := sv_bounds (bs.drop s.at_) 0 0 (by omega) (by omega)
  have h1 := h.1
  rw [List.length_drop] at b
  exact ⟨a, by show s.at_ + (sv (bs.drop s.at_) 0 0).2.1 ≤ _; omega, ⟨h1, by rcases c with c | c | c <;> simp [c]⟩, rfl, d⟩
theorem rnum_ok {bs : List UInt8} {s : RS} (h : s.ok bs.length) : (rnum bs s).2.ok bs.length :=
 ⟨(rsev_ok h).2.1, (rsev_ok h).2.2.1.2⟩
theorem rcount_ok {bs : List UInt8} {most : Int} {s : RS} (h : s.ok bs.length) : (rcount bs most s).2.ok bs.length ∧ (rcount bs most s).1 ≤ most.toNat := by
 unfold rcount; split
 ·exact ⟨(rsev_ok h).2.2.1.fail 12 (.inr (.inr rfl)), by omega⟩
 ·exact ⟨⟨(rsev_ok h).2.1, (rsev_ok h).2.2.1.2⟩, by omega⟩
theorem rtext_ok {bs : List UInt8} {most : Int} {s : RS} (h : s.ok bs.length) : (rtext bs most s).2.ok bs.length := by
 have hc := (rcount_ok (most := most) h).1
 unfold rtext; split
 ·exact RS.ok.fail (s := ⟨s.at_, (rcount bs most s).2.wr⟩) ⟨h.1, hc.2⟩ 10 (.inl rfl)
 ·have := hc.1
  exact ⟨by show (rcount bs most s).2.at_ + (rcount bs most s).1 ≤ _; omega, hc.2⟩
end Go.Proofs.YtonnbkebjeoflaaGreatDoor.W
