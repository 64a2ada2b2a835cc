/-
  Writers and readers of package codec, and the document's, among things side by side; several numbers at once.
  Conditions: as in CodecA to CodecY.
-/
import Derived.Test.YtmbkbkfcbloafaaCodecY
import Derived.Test.YtmbkbkfcbloafaaCodecR
import Derived.Test.YtmbkbkfcbloafaaSt
import Derived.Test.YtmbkbkfcbloafaaFlat
import Derived.Deep.RegionHeld3
import Derived.Deep.LoopGhost
namespace Go.Proofs.Ytmbkbkfcbloafaa
open Go.RowKit
set_option linter.unusedSectionVars false
set_option linter.unusedSimpArgs false
set_option linter.unusedVariables false
set_option maxRecDepth 100000

/-- A writer that has laid xs. -/
def wrt (pb : Nat) (xs : List UInt8) : Thing where
  lies w F := ∃ a cap, WrAt w pb a cap xs ∧ ∀ x, F x ↔ (x = pb ∨ own a = some x)
  keep := fun ⟨a, cap, h, hF⟩ hs hk => by
    obtain ⟨h1, h2, h3, h4⟩ := h
    exact ⟨a, cap, ⟨by rw [hk pb (heap_lt h1) ((hF _).2 (.inl rfl))]; exact h1, h2.kept fun b hb hlt => hk b hlt ((hF _).2 (.inr hb)), h3, h4⟩, hF⟩
  below := fun ⟨a, cap, h, hF⟩ x hx => by
    rcases (hF x).1 hx with hx | hx
    · rw [hx]; exact h.lt.1
    · exact h.lt.2 x hx

/-- A reader of bs. -/
def rdt (pb : Nat) (bs : List UInt8) (s : RS) : Thing where
  lies w F := ∃ a cap, RdrAt w pb a cap bs s ∧ (∀ x, F x ↔ (x = pb ∨ own a = some x)) ∧ ∀ x, F x → x < w.heap.size
  keep := fun ⟨a, cap, h, hF, hl⟩ hs hk => by
    obtain ⟨h1, h2, h3, h4, h5⟩ := h
    exact ⟨a, cap, ⟨by rw [hk pb (heap_lt h1) ((hF _).2 (.inl rfl))]; exact h1, h2.kept fun b hb hlt => hk b hlt ((hF _).2 (.inr hb)), h3, h4, h5⟩, hF, fun x hx => Nat.lt_of_lt_of_le (hl x hx) hs⟩
  below := fun ⟨a, cap, h, hF, hl⟩ x hx => hl x hx

/-- A reader of the document's. -/
def drt (pb : Nat) (B : ByteArray) (s : RS) : Thing where
  lies w F := DrAt w pb B s ∧ ∀ x, F x ↔ x = pb
  keep := fun ⟨h, hF⟩ hs hk => ⟨⟨by rw [hk pb (heap_lt h.1) ((hF _).2 rfl)]; exact h.1, h.2⟩, hF⟩
  below := fun ⟨h, hF⟩ x hx => by rw [(hF x).1 hx]; exact heap_lt h.1

section
variable {w0 w : World} {l : List Thing} {pb : Nat} {f : FuncId} {args : Array Value}

theorem St.wr (h : St w0 w l) (i : Nat) {xs ys : List UInt8} (hi : l[i]? = some (wrt pb xs)) (hc : ∀ a cap, WrAt w pb a cap xs → Calls Try.prog f args w (WrTo w pb a ys)) : Calls Try.prog f args w (StPost (.tuple #[]) w0 (l.set i (wrt pb ys))) := by
  obtain ⟨F1, ⟨a, cap, hw, hF⟩, hz, ht⟩ := h.at i hi
  refine (hc a cap hw).mono ?_
  rintro e w' ⟨rfl, a', cap', hw', hm, hf⟩
  refine ⟨rfl, ht w' (wrt pb ys) (fun x => x = pb ∨ own a' = some x) (hm.mono (fun x _ hx => (hF x).2 hx)) ⟨a', cap', hw', fun _ => Iff.rfl⟩ (fun x hx => ?_)⟩
  rcases hx with hx | hx
  · exact .inl ((hF x).2 (.inl hx))
  · rcases hf x hx with h | h
    · exact .inl ((hF x).2 (.inr h))
    · exact .inr h.1

theorem St.rdr (h : St w0 w l) (i : Nat) {bs : List UInt8} {s s' : RS} {v : Value} (hi : l[i]? = some (rdt pb bs s)) (hc : ∀ a cap, RdrAt w pb a cap bs s → Calls Try.prog f args w (RdrTo v w pb a cap bs s')) : Calls Try.prog f args w (StPost v w0 (l.set i (rdt pb bs s'))) := by
  obtain ⟨F1, ⟨a, cap, hw, hF, hl⟩, hz, ht⟩ := h.at i hi
  refine (hc a cap hw).mono ?_
  rintro e w' ⟨rfl, hw', hm, hzz⟩
  exact ⟨rfl, ht w' (rdt pb bs s') F1 (hm.mono (fun x _ hx => (hF x).2 (.inl hx))) ⟨a, cap, hw', hF, fun x hx => by have := hl x hx; have := hm.size; omega⟩ (fun x hx => .inl hx)⟩

theorem St.dr (h : St w0 w l) (i : Nat) {B : ByteArray} {s s' : RS} {v : Value} (hi : l[i]? = some (drt pb B s)) (hc : DrAt w pb B s → Calls Try.prog f args w (DrTo v w pb B s')) : Calls Try.prog f args w (StPost v w0 (l.set i (drt pb B s'))) := by
  obtain ⟨F1, ⟨hh, hF⟩, hz, ht⟩ := h.at i hi
  refine (hc hh).mono ?_
  rintro e w' ⟨rfl, hr, hm, hzz⟩
  exact ⟨rfl, ht w' (drt pb B s') F1 (hm.mono (fun x _ hx => (hF x).2 hx)) ⟨hr, hF⟩ (fun x hx => .inl hx)⟩

theorem St.fits (h : St w0 w l) (i : Nat) {xs : List UInt8} (hi : l[i]? = some (wrt pb xs)) : bfits xs.length := by
  obtain ⟨F1, ⟨a, cap, hw, hF⟩, hz, ht⟩ := h.at i hi
  exact hw.2.2.2
theorem St.rok (h : St w0 w l) (i : Nat) {bs : List UInt8} {s : RS} (hi : l[i]? = some (rdt pb bs s)) : s.ok bs.length ∧ bfits bs.length := by
  obtain ⟨F1, ⟨a, cap, hw, hF, hl⟩, hz, ht⟩ := h.at i hi
  exact hw.2.2.2
end

section
variable {w0 w : World} {l : List Thing} {pb : Nat} {xs : List UInt8}
theorem wnum_st (h : St w0 w l) (i : Nat) (hi : l[i]? = some (wrt pb xs)) (n : Int) (hn : -9223372036854775808 ≤ n ∧ n ≤ 9223372036854775807) (hf : bfits (xs.length + 10)) :
    Calls Try.prog 62 #[.pointer (some ⟨pb, 0, none⟩), .int .i64 n] w (StPost (.tuple #[]) w0 (l.set i (wrt pb (xs ++ sevens (zig n))))) :=
  h.wr i hi fun a cap hw => wnum_any pb a cap xs w hw n hn.1 hn.2 hf
theorem wcount_st (h : St w0 w l) (i : Nat) (hi : l[i]? = some (wrt pb xs)) (n : Int) (hn : -9223372036854775808 ≤ n ∧ n ≤ 9223372036854775807) (hf : bfits (xs.length + 10)) :
    Calls Try.prog 102 #[.pointer (some ⟨pb, 0, none⟩), .int .i64 n] w (StPost (.tuple #[]) w0 (l.set i (wrt pb (xs ++ sevens n.toNat)))) :=
  h.wr i hi fun a cap hw => wcount_any pb a cap xs w hw n hn.1 hn.2 hf
theorem wtext_st (h : St w0 w l) (i : Nat) (hi : l[i]? = some (wrt pb xs)) (s : ByteArray) (hf : bfits (xs.length + 10 + s.size)) :
    Calls Try.prog 63 #[.pointer (some ⟨pb, 0, none⟩), .string s] w (StPost (.tuple #[]) w0 (l.set i (wrt pb (xs ++ (sevens s.size ++ s.data.toList))))) := by
  rw [← List.append_assoc]
  exact h.wr i hi fun a cap hw => wtext_any pb a cap xs w hw s hf
theorem wbytes_st (h : St w0 w l) (i : Nat) (hi : l[i]? = some (wrt pb xs)) :
    Calls Try.prog 61 #[.pointer (some ⟨pb, 0, none⟩)] w (StrPost (.string ⟨xs.toArray⟩) w) := by
  obtain ⟨F1, ⟨a, cap, hw, hF⟩, hz, ht⟩ := h.at i hi
  exact wbytes_any pb a cap xs w hw

/-- A call that makes a thing. -/
def StNew (w0 : World) (t : Nat → Thing) (l : List Thing) (e : Ending) (w' : World) : Prop := ∃ pb, e = .returned (.pointer (some ⟨pb, 0, none⟩)) ∧ St w0 w' (t pb :: l)

theorem wnew_st (h : St w0 w l) : Calls Try.prog 60 #[] w (StNew w0 (fun pb => wrt pb []) l) := by
  refine (wnew_any w).mono ?_
  rintro e w' ⟨pb, rfl, hw, hm, hp1, hp2⟩
  exact ⟨pb, rfl, h.cons (F := fun x => x = pb ∨ own none = some x) hm ⟨none, 0, hw, fun _ => Iff.rfl⟩ (fun x hx => by
    rcases hx with rfl | hx
    · exact hp1
    · simp [own] at hx)⟩

theorem rread_st (h : St w0 w l) (bs : ByteArray) (hf : bfits bs.size) : Calls Try.prog 97 #[.string bs] w (StNew w0 (fun pb => rdt pb bs.data.toList ⟨0, 0⟩) l) := by
  refine (rread_any bs hf w).mono ?_
  rintro e w' ⟨pb, a, cap, rfl, hr, hm, hp1, hp2, hpo⟩
  exact ⟨pb, rfl, h.cons (F := fun x => x = pb ∨ own a = some x) hm ⟨a, cap, hr, fun _ => Iff.rfl, fun x hx => by
    rcases hx with rfl | hx
    · exact hp2
    · exact (hpo x hx).2⟩ (fun x hx => by
    rcases hx with rfl | hx
    · exact hp1
    · exact (hpo x hx).1)⟩
end

section
variable {w0 w : World} {l : List Thing} {pb : Nat} {bs : List UInt8} {s : RS}
theorem rnum_st (h : St w0 w l) (i : Nat) (hi : l[i]? = some (rdt pb bs s)) :
    Calls Try.prog 99 #[.pointer (some ⟨pb, 0, none⟩)] w (StPost (.int .i64 (rnum bs s).1) w0 (l.set i (rdt pb bs (rnum bs s).2))) :=
  h.rdr i hi fun a cap hw => rnum_any pb a cap bs s w hw
theorem rcount_st (h : St w0 w l) (i : Nat) (hi : l[i]? = some (rdt pb bs s)) (most : Int) (hm : -9223372036854775808 ≤ most ∧ most ≤ 9223372036854775807) :
    Calls Try.prog 133 #[.pointer (some ⟨pb, 0, none⟩), .int .i64 most] w (StPost (.int .i64 (rcount bs most s).1) w0 (l.set i (rdt pb bs (rcount bs most s).2))) :=
  h.rdr i hi fun a cap hw => rcount_any pb a cap bs s w hw most hm.1 hm.2
theorem rtext_st (h : St w0 w l) (i : Nat) (hi : l[i]? = some (rdt pb bs s)) (most : Int) (hm : -9223372036854775808 ≤ most ∧ most ≤ 9223372036854775807) :
    Calls Try.prog 129 #[.pointer (some ⟨pb, 0, none⟩), .int .i64 most] w (StPost (.string ⟨(rtext bs most s).1.toArray⟩) w0 (l.set i (rdt pb bs (rtext bs most s).2))) :=
  h.rdr i hi fun a cap hw => rtext_any pb a cap bs s w hw most hm.1 hm.2
theorem rend_st (h : St w0 w l) (i : Nat) (hi : l[i]? = some (rdt pb bs s)) :
    Calls Try.prog 98 #[.pointer (some ⟨pb, 0, none⟩)] w (StPost (.int .i64 (rend bs s).wr) w0 (l.set i (rdt pb bs (rend bs s)))) :=
  h.rdr i hi fun a cap hw => rend_any pb a cap bs s w hw
end

section
variable {w0 w : World} {l : List Thing} {pb : Nat} {B : ByteArray} {s : RS}
theorem dnum_st (h : St w0 w l) (i : Nat) (hi : l[i]? = some (drt pb B s)) :
    Calls Try.prog 71 #[.pointer (some ⟨pb, 0, none⟩)] w (StPost (.int .i64 (rnum B.data.toList s).1) w0 (l.set i (drt pb B (rnum B.data.toList s).2))) :=
  h.dr i hi fun hd => dnum_any pb B s w hd
theorem dcount_st (h : St w0 w l) (i : Nat) (hi : l[i]? = some (drt pb B s)) (most : Int) (hm : -9223372036854775808 ≤ most ∧ most ≤ 9223372036854775807) :
    Calls Try.prog 107 #[.pointer (some ⟨pb, 0, none⟩), .int .i64 most] w (StPost (.int .i64 (rcount B.data.toList most s).1) w0 (l.set i (drt pb B (rcount B.data.toList most s).2))) :=
  h.dr i hi fun hd => dcount_any pb B s w hd most hm.1 hm.2
theorem dtext_st (h : St w0 w l) (i : Nat) (hi : l[i]? = some (drt pb B s)) (most : Int) (hm : -9223372036854775808 ≤ most ∧ most ≤ 9223372036854775807) :
    Calls Try.prog 72 #[.pointer (some ⟨pb, 0, none⟩), .int .i64 most] w (StPost (.string ⟨(rtext B.data.toList most s).1.toArray⟩) w0 (l.set i (drt pb B (rtext B.data.toList most s).2))) :=
  h.dr i hi fun hd => dtext_any pb B s w hd most hm.1 hm.2
theorem dend_st (h : St w0 w l) (i : Nat) (hi : l[i]? = some (drt pb B s)) :
    Calls Try.prog 73 #[.pointer (some ⟨pb, 0, none⟩)] w (StPost (.int .i64 (rend B.data.toList s).wr) w0 (l.set i (drt pb B (rend B.data.toList s)))) :=
  h.dr i hi fun hd => dend_any pb B s w hd
end

/-! ### Slices of numbers -/

def ic (ns : List Int) : List Value := ns.map (.int .i64)
def i64 (n : Int) : Prop := -9223372036854775808 ≤ n ∧ n ≤ 9223372036854775807
theorem ic_length (ns : List Int) : (ic ns).length = ns.length * 1 := by simp [ic]

/-- A fresh slice, out of a block that was built. -/
theorem St.slice1 {w0 w : World} {l : List Thing} (h : St w0 w l) (c : Array Value) (T : TypeId) (k n : Nat) (hn : c.size = n * k) (hm : n ≤ maxLen) : St w0 (w.alloc (.cells c T)) (sl T k (some ⟨w.heap.size, 0, none⟩) n n c.toList :: l) :=
  h.cons (F := fun x => own (some (⟨w.heap.size, 0, none⟩ : Addr)) = some x) ((Mod.refl _ w).alloc _) ⟨Sl.new (heap_alloc_new w _) hn hm, fun _ => Iff.rfl⟩ (fun x hx => Nat.le_of_eq (by simpa [own] using hx))

theorem Rd.int {w : World} {a : Option Addr} {n cap : Nat} {ts : List Int} (h : Rd w 1 a n cap (ic ts)) {k : Nat} {t : Int} (ht : ts[k]? = some t) :
    ∃ b o, a = some ⟨b, o, none⟩ ∧ b < w.heap.size ∧ w.cell? ⟨b, o + k, none⟩ = some (.int .i64 t) := by
  have h' : Rd w 1 a n cap (ts.flatMap (fun t => [Value.int .i64 t])) := by
    have e : ts.flatMap (fun t => [Value.int .i64 t]) = ic ts := by
      unfold ic; rw [List.map_eq_flatMap]
    rw [e]; exact h
  obtain ⟨b, o, rfl, hb, hc⟩ := h'.elem (k := 1) (fun t => [Value.int .i64 t]) (fun _ => rfl) (by omega) ht
  exact ⟨b, o, rfl, hb, by have := hc 0 _ rfl; simpa using this⟩

def numsB (ns : List Int) : List UInt8 := ns.flatMap fun n => sevens (zig n)
theorem numsB_len : ∀ ns : List Int, (∀ t ∈ ns, i64 t) → (numsB ns).length ≤ 10 * ns.length
  | [], _ => by simp [numsB]
  | n :: ns, h => by
    have h1 := h n (List.mem_cons_self ..)
    have h2 := numsB_len ns fun t ht => h t (List.mem_cons_of_mem _ ht)
    have h3 := zig_lt n h1.1 h1.2
    have h4 := sevens_length 10 (zig n) (by omega) (by omega)
    simp only [numsB, List.flatMap_cons, List.length_append, List.length_cons] at h2 ⊢
    omega
theorem numsB_snoc {ns : List Int} {k : Nat} {t : Int} (h : ns[k]? = some t) : numsB (ns.take (k + 1)) = numsB (ns.take k) ++ sevens (zig t) := by
  obtain ⟨hk, rfl⟩ := List.getElem?_eq_some_iff.1 h
  rw [List.take_succ_eq_append_getElem hk]
  unfold numsB
  rw [List.flatMap_append]
  congr 1
  simp

theorem numbers_st {w0 w : World} {l : List Thing} {pb : Nat} {xs : List UInt8} (h : St w0 w l) (i j : Nat) (hi : l[i]? = some (wrt pb xs)) (a : Option Addr) (n cap : Nat) (ns : List Int) (hj : l[j]? = some (sl 3 1 a n cap (ic ns))) (hij : i ≠ j)
    (hn : ns.length = n) (hr : ∀ t ∈ ns, i64 t) (hf : bfits (xs.length + 10 * n)) (hl : n ≤ 2 ^ 63 - 1) :
    Calls Try.prog 64 #[.pointer (some ⟨pb, 0, none⟩), .slice a n cap] w (StPost (.tuple #[]) w0 (l.set i (wrt pb (xs ++ numsB ns)))) := by
  have hil : i < l.length := (List.getElem?_eq_some_iff.1 hi).1
  have HI := Lib.hid hi
  have HJ := Lib.hid hj
  have HN := Lib.hid hn
  have HR := Lib.hid hr
  have HF := Lib.hid hf
  have HS := Lib.hid h
  clear hi hj hn hr hf h
  go_enter Try.func64, Try.ntmps64
  go_wp2
  go_loopg [8] n (fun g y wr => ∃ k : Nat, k + g = n ∧ y = .int .i64 k ∧ St w0 wr (l.set i (wrt pb (xs ++ numsB (ns.take k)))))
  case atStart =>
    refine ⟨0, by omega, rfl, ?_⟩
    rw [List.take_zero, show numsB [] = [] from rfl, List.append_nil]
    have e : l.set i (wrt pb xs) = l := by
      apply List.ext_getElem?
      intro x
      rw [List.getElem?_set]
      split
      · next hx => subst hx; rw [HI.out]
      · rfl
    rw [e]; exact HS.out
  case round =>
    obtain ⟨k, hkg, rfl, hS⟩ := hrel
    by_cases hlt : k < n
    · have hx : ns[k]? = some (ns[k]'(HN.out ▸ hlt)) := List.getElem?_eq_getElem _
      obtain ⟨t, hxx⟩ : ∃ x, ns[k]'(HN.out ▸ hlt) = x := ⟨_, rfl⟩
      rw [hxx] at hx
      obtain ⟨b, o, rfl, hbl, hc⟩ := (hS.slice j (by rw [List.getElem?_set_ne hij]; exact HJ.out)).rd.int hx
      have hb : (numsB (ns.take k)).length ≤ 10 * k := Nat.le_trans (numsB_len _ fun t ht => HR.out t (List.mem_of_mem_take ht)) (by rw [List.length_take]; omega)
      have HX := Lib.hid hx
      have hft : bfits ((xs ++ numsB (ns.take k)).length + 10) := HF.out.mono (by rw [List.length_append]; omega)
      have HFT := Lib.hid hft
      clear hx hxx hb hft
      go_wp2_with fail
      refine (wnum_st hS i (by rw [List.getElem?_set_self hil]) t (HR.out t (List.mem_of_getElem? HX.out)) HFT.out).mono ?_
      clear hS
      rintro e w1 ⟨rfl, hS⟩
      go_wp2
      go_roundg (gk - 1)
      case measure => omega
      case rel =>
        refine ⟨k + 1, by omega, by simp, ?_⟩
        rw [numsB_snoc HX.out, ← List.append_assoc]
        rw [List.set_set] at hS
        exact hS
    · have hk : k = n := by omega
      clear hkg hlt
      rw [hk, List.take_of_length_le (by rw [HN.out]; exact Nat.le_refl _)] at hS
      go_wp2
      go_end0
      exact ⟨rfl, hS⟩
end Go.Proofs.Ytmbkbkfcbloafaa
