/-
  Strings and bytes: a conversion as an arm of the walk.
  Conditions: the string or the slice fits an int.
-/
import Derived.Test.YtmbkbkfcbloafaaLib
import Derived.Lib.SlBytesConst
namespace Go.Proofs.Ytmbkbkfcbloafaa
open Go.RowKit
set_option linter.unusedSectionVars false
set_option linter.unusedSimpArgs false
set_option linter.unusedVariables false

/-- Bytes as cells. -/
def bc (bs : List UInt8) : List Value := bs.map fun b => .int .u8 b.toNat
theorem bc_append (a b : List UInt8) : bc (a ++ b) = bc a ++ bc b := List.map_append
theorem bc_length (a : List UInt8) : (bc a).length = a.length := List.length_map ..
theorem bc_one (a : List UInt8) : ∀ u ∈ bc a, u.oneCell' = true := by
  intro u hu
  obtain ⟨b, _, rfl⟩ := List.mem_map.1 hu
  rfl
theorem bc_take (a : List UInt8) (n : Nat) : (bc a).take n = bc (a.take n) := List.map_take.symm
theorem bc_drop (a : List UInt8) (n : Nat) : (bc a).drop n = bc (a.drop n) := List.map_drop.symm
theorem bc_get (a : List UInt8) (n : Nat) (b : UInt8) (h : a[n]? = some b) : (bc a)[n]? = some (.int .u8 b.toNat) := by
  simp [bc, h]

theorem freeze_new (w : World) (c : Array Value) (e : TypeId) (k : Nat) : (w.alloc (.cells c e)).freeze ⟨w.heap.size, k, none⟩ 1 = w.alloc (.cells c e (k, k + 1)) := by
  have hm : ∀ (a : Array Obj) (x : Obj) (f : Obj → Obj), (a.push x).modify a.size f = a.push (f x) := by
    intro a x f
    apply Array.ext
    · simp
    · intro i h1 h2
      simp only [Array.getElem_modify, Array.getElem_push]
      by_cases h : a.size = i
      · subst h; simp
      · have hi : i < a.size := by simp at h1; omega
        simp [h, hi]
  unfold World.freeze
  rw [if_neg (by decide)]
  show ({ w.alloc (.cells c e) with heap := (w.heap.push (.cells c e)).modify w.heap.size _ } : World) = _
  rw [hm]
  rfl

theorem toBytes_law {P : Program} (w : World) (src dst e : TypeId) (hs : P.underlying src = some .string) (hd : P.underlying dst = some (.slice e)) (he : P.underlying e = some (.int .u8)) (s : ByteArray) (hm : s.size ≤ maxLen) :
    ∃ cap w', (convert src dst (.string s)).run P w = .ok (.slice (some ⟨w.heap.size, 0, none⟩) s.size cap) w' ∧ Rd w' 1 (some ⟨w.heap.size, 0, none⟩) s.size cap (bc s.data.toList) ∧ Mod (fun _ => False) w w' ∧ w'.heap.size = w.heap.size + 1 := by
  obtain ⟨cap, hcap⟩ : ∃ cap, (Question.appendCap s.size 0 e).cut (w.tape w.drawn (.appendCap s.size 0 e)) = cap := ⟨_, rfl⟩
  have hge : s.size ≤ cap := by rw [← hcap]; exact grownCap_ge w s.size 0 e
  have hle : cap ≤ maxLen := by rw [← hcap]; exact grownCap_le_maxLen w s.size 0 e hm
  obtain ⟨C, hC⟩ : ∃ C : Array Value, (s.data.map fun b => Value.int .u8 b.toNat) ++ Array.replicate (cap - s.size) (.int .u8 0) = C := ⟨_, rfl⟩
  have hsh : (w.drew.alloc (.cells C e)).shape? w.heap.size = some (e, C.size) := by
    have : (w.drew.alloc (.cells C e)).heap[w.heap.size]? = some (.cells C e) := heap_alloc_new w.drew _
    unfold World.shape?
    rw [this]
  have hfr := freeze_new w.drew C e C.size
  refine ⟨cap, w.drew.alloc (.cells C e (C.size, C.size + 1)), ?_, ?_, ((Mod.refl _ w).drew).alloc _, by simp⟩
  · simp only [World.size_drew] at hfr
    simp [convert, run_underlying hs, run_underlying hd, run_underlying he, Conv.stringToBytes, Question.forced, hcap, hC, newRow, markStringish, hsh, hfr]
  · have hl : (bc s.data.toList).length = s.size := by rw [bc_length, Array.length_toList]; rfl
    refine ⟨by rw [hl, Nat.mul_one], hge, hle, .inr ⟨_, rfl, fun j u hu => ?_⟩⟩
    have hrow := cell_of_row (w.drew.alloc (.cells C e (C.size, C.size + 1))) w.heap.size j C e (C.size, C.size + 1) (heap_alloc_new w.drew _)
    rw [add_none, Nat.zero_add, hrow]
    have hj : j < s.size := by rw [← hl]; exact (List.getElem?_eq_some_iff.1 hu).1
    rw [← hC, Array.getElem?_append_left (by rw [Array.size_map]; exact hj)]
    simp only [bc, List.getElem?_map, Array.getElem?_toList] at hu
    simpa using hu

theorem push_bytes : ∀ (ns : List Int) (s : ByteArray), ns.foldl (fun r n => r.push (UInt8.ofNat n.toNat)) s = ⟨s.data ++ (ns.map fun n => UInt8.ofNat n.toNat).toArray⟩ := foldl_push_bytes

theorem toString_law {P : Program} (w : World) (src dst e : TypeId) (hs : P.underlying src = some (.slice e)) (he : P.underlying e = some (.int .u8)) (hd : P.underlying dst = some .string)
    (a : Option Addr) (n cap : Nat) (bs : List UInt8) (h : Rd w 1 a n cap (bc bs)) : (convert src dst (.slice a n cap)).run P w = .ok (.string ⟨bs.toArray⟩) w := by
  obtain ⟨hl, hn, hm, ⟨rfl, hc⟩ | ⟨x, rfl, hcell⟩⟩ := h
  · rw [bc_length] at hl
    have : bs = [] := List.eq_nil_of_length_eq_zero (by omega)
    subst this
    rw [run_convert_bytes_string w src dst e none n cap hs he hd]
    rfl
  · have hld := run_loadCells_list (P := P) w x (bc bs) hcell
    rw [hl, Nat.mul_one] at hld
    have hld' : (loadCells x n).run P w = .ok ((bs.map fun b => (b.toNat : Int)).map (Value.int .u8)).toArray w := by
      rw [hld]; simp [bc]
    rw [run_convert_bytes_string w src dst e _ n cap hs he hd, run_bytesToString w x n cap _ hld', push_bytes]
    congr 2
    have e1 : (bs.map fun b => (b.toNat : Int)).map (fun n => UInt8.ofNat n.toNat) = bs := by
      rw [List.map_map]
      conv => rhs; rw [← List.map_id bs]
      apply List.map_congr_left
      intro b _
      simp
    rw [e1]
    congr 1
    simp

/-- A byte's cell. -/
theorem Rd.byte {w : World} {a : Option Addr} {n cap : Nat} {bs : List UInt8} (h : Rd w 1 a n cap (bc bs)) {k : Nat} {c : UInt8} (hc : bs[k]? = some c) :
    ∃ b o, a = some ⟨b, o, none⟩ ∧ w.cell? ⟨b, o + k, none⟩ = some (.int .u8 c.toNat) := by
  obtain ⟨hl, hn, hm, ⟨rfl, h0⟩ | ⟨x, rfl, hcell⟩⟩ := h
  · have hlt : k < bs.length := (List.getElem?_eq_some_iff.1 hc).1
    rw [bc_length] at hl; omega
  · have key := hcell k _ (bc_get bs k c hc)
    obtain ⟨b, o, sp⟩ := x
    have hs : sp = none := by
      have h0 : k < bs.length := (List.getElem?_eq_some_iff.1 hc).1
      have := hcell 0 _ (bc_get bs 0 (bs[0]'(by omega)) (List.getElem?_eq_getElem _))
      simp [Addr.add, World.cell?] at this
      split at this
      · cases sp <;> simp at this ⊢
      · cases this
    subst hs
    rw [add_none] at key
    exact ⟨b, o, rfl, key⟩

section
variable {P : Program} {ops : Array Oper} {rest : List Oper} {dst : Option Tmp} {ty0 : TypeId} {pos : String} {after : Array Edge} {a : Act} {w : World} {Q : Exit → Act → World → Prop}

theorem wpList_toBytes {src dt : TypeId} {x : Operand} (e : TypeId) (hs : P.underlying src = some .string) (hd : P.underlying dt = some (.slice e)) (he : P.underlying e = some (.int .u8)) (s : ByteArray) (hx : a.eval x = .string s) (hm : s.size ≤ maxLen)
    (h : ∀ cap w', Rd w' 1 (some ⟨w.heap.size, 0, none⟩) s.size cap (bc s.data.toList) → Mod (fun _ => False) w w' → w'.heap.size = w.heap.size + 1 → wpList P ops Q rest (a.put dst (.slice (some ⟨w.heap.size, 0, none⟩) s.size cap)) w') :
    wpList P ops Q (⟨dst, .convert src dt x, ty0, pos, after, none⟩ :: rest) a w :=
  wpList_plain rfl fun K hK => by
    obtain ⟨cap, w', hr, h1, h2, h3⟩ := toBytes_law (P := P) w src dt e hs hd he s hm
    unfold Oper.wp execOp
    simp only [hx, Sem.run_bind, Sem.run_pure, hr, Result.andThen_ok]
    exact hK _ _ (h cap w' h1 h2 h3)

theorem wpList_toString {src dt : TypeId} {x : Operand} (e : TypeId) (hs : P.underlying src = some (.slice e)) (he : P.underlying e = some (.int .u8)) (hd : P.underlying dt = some .string) (p : Option Addr) (n cap : Nat) (hx : a.eval x = .slice p n cap) (bs : List UInt8) (hr : Rd w 1 p n cap (bc bs))
    (h : wpList P ops Q rest (a.put dst (.string ⟨bs.toArray⟩)) w) : wpList P ops Q (⟨dst, .convert src dt x, ty0, pos, after, none⟩ :: rest) a w :=
  wpList_plain rfl fun K hK => by
    have hrun := toString_law (P := P) w src dt e hs he hd p n cap bs hr
    unfold Oper.wp execOp
    simp only [hx, Sem.run_bind, Sem.run_pure, hrun, Result.andThen_ok]
    exact hK _ _ h
end
end Go.Proofs.Ytmbkbkfcbloafaa
