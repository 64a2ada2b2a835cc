/-
  Writers and readers of package codec, and the document's, among things side by side; several numbers at once.
  Conditions: as in CodecA to CodecY.
  Events, hellos, notes: what package wire lays them as.
  Conditions: the texts fit.
  Events, hellos, notes as bytes: package wire's Put.., and the document's.
  Conditions: the texts fit.
  Events, hellos, notes as bytes: the document's PutEvent, PutHello, PutNote.
  Conditions: the texts fit.
  Numbers taken up into variables; events, hellos, notes taken up.
  No condition: every law states its own.
-/
import Derived.Test.YtmbkbkfcbloafabJcodex
import Derived.Test.YtmbkbkfcbloafabJcodec
import Derived.Test.YtmbkbkfcbloafabJbase
import Derived.Deep.RegionHeld3
import Derived.Deep.LoopGhost
namespace Go.Proofs.Ytmbkbkfcbloafab
section
open Go.RowKit
set_option linter.unusedSectionVars false
set_option linter.unusedSimpArgs false
set_option linter.unusedVariables false
set_option maxRecDepth 100000

/-- A writer that has laid xs. -/
def wrt (pb : Nat) (xs : List UInt8) : Thing where
  lies w F := ∃ a cap, WrAt w pb a cap xs ∧ ∀ x, F x ↔ (x = pb ∨ own a = some x)
  keep := fun ⟨a, cap, h, hF⟩ hs hk => by
    obtain ⟨h1, h2, h3, h4⟩ := h
    exact ⟨a, cap, ⟨by rw [hk pb (heap_lt h1) ((hF _).2 (.inl rfl))]; exact h1, h2.kept fun b hb hlt => hk b hlt ((hF _).2 (.inr hb)), h3, h4⟩, hF⟩
  below := fun ⟨a, cap, h, hF⟩ x hx => by
    rcases (hF x).1 hx with hx | hx
    · rw [hx]; exact h.lt.1
    · exact h.lt.2 x hx

/-- A reader of bs. -/
def rdt (pb : Nat) (bs : List UInt8) (s : RS) : Thing where
  lies w F := ∃ a cap, RdrAt w pb a cap bs s ∧ (∀ x, F x ↔ (x = pb ∨ own a = some x)) ∧ ∀ x, F x → x < w.heap.size
  keep := fun ⟨a, cap, h, hF, hl⟩ hs hk => by
    obtain ⟨h1, h2, h3, h4, h5⟩ := h
    exact ⟨a, cap, ⟨by rw [hk pb (heap_lt h1) ((hF _).2 (.inl rfl))]; exact h1, h2.kept fun b hb hlt => hk b hlt ((hF _).2 (.inr hb)), h3, h4, h5⟩, hF, fun x hx => Nat.lt_of_lt_of_le (hl x hx) hs⟩
  below := fun ⟨a, cap, h, hF, hl⟩ x hx => hl x hx

section
variable {w0 w : World} {l : List Thing} {pb : Nat} {f : FuncId} {args : Array Value}

theorem St.wr (h : St w0 w l) (i : Nat) {xs ys : List UInt8} (hi : l[i]? = some (wrt pb xs)) (hc : ∀ a cap, WrAt w pb a cap xs → Calls Try.prog f args w (WrTo w pb a ys)) : Calls Try.prog f args w (StPost (.tuple #[]) w0 (l.set i (wrt pb ys))) := by
  obtain ⟨F1, ⟨a, cap, hw, hF⟩, hz, ht⟩ := h.at i hi
  refine (hc a cap hw).mono ?_
  rintro e w' ⟨rfl, a', cap', hw', hm, hf⟩
  refine ⟨rfl, ht w' (wrt pb ys) (fun x => x = pb ∨ own a' = some x) (hm.mono (fun x _ hx => (hF x).2 hx)) ⟨a', cap', hw', fun _ => Iff.rfl⟩ (fun x hx => ?_)⟩
  rcases hx with hx | hx
  · exact .inl ((hF x).2 (.inl hx))
  · rcases hf x hx with h | h
    · exact .inl ((hF x).2 (.inr h))
    · exact .inr h.1

theorem St.rdr (h : St w0 w l) (i : Nat) {bs : List UInt8} {s s' : RS} {v : Value} (hi : l[i]? = some (rdt pb bs s)) (hc : ∀ a cap, RdrAt w pb a cap bs s → Calls Try.prog f args w (RdrTo v w pb a cap bs s')) : Calls Try.prog f args w (StPost v w0 (l.set i (rdt pb bs s'))) := by
  obtain ⟨F1, ⟨a, cap, hw, hF, hl⟩, hz, ht⟩ := h.at i hi
  refine (hc a cap hw).mono ?_
  rintro e w' ⟨rfl, hw', hm, hzz⟩
  exact ⟨rfl, ht w' (rdt pb bs s') F1 (hm.mono (fun x _ hx => (hF x).2 (.inl hx))) ⟨a, cap, hw', hF, fun x hx => by have := hl x hx; have := hm.size; omega⟩ (fun x hx => .inl hx)⟩

theorem St.fits (h : St w0 w l) (i : Nat) {xs : List UInt8} (hi : l[i]? = some (wrt pb xs)) : bfits xs.length := by
  obtain ⟨F1, ⟨a, cap, hw, hF⟩, hz, ht⟩ := h.at i hi
  exact hw.2.2.2
theorem St.rok (h : St w0 w l) (i : Nat) {bs : List UInt8} {s : RS} (hi : l[i]? = some (rdt pb bs s)) : s.ok bs.length ∧ bfits bs.length := by
  obtain ⟨F1, ⟨a, cap, hw, hF, hl⟩, hz, ht⟩ := h.at i hi
  exact hw.2.2.2
end

section
variable {w0 w : World} {l : List Thing} {pb : Nat} {xs : List UInt8}
theorem wnum_st (h : St w0 w l) (i : Nat) (hi : l[i]? = some (wrt pb xs)) (n : Int) (hn : -9223372036854775808 ≤ n ∧ n ≤ 9223372036854775807) (hf : bfits (xs.length + 10)) :
    Calls Try.prog 84 #[.pointer (some ⟨pb, 0, none⟩), .int .i64 n] w (StPost (.tuple #[]) w0 (l.set i (wrt pb (xs ++ sevens (zig n))))) :=
  h.wr i hi fun a cap hw => wnum_any pb a cap xs w hw n hn.1 hn.2 hf
theorem wcount_st (h : St w0 w l) (i : Nat) (hi : l[i]? = some (wrt pb xs)) (n : Int) (hn : -9223372036854775808 ≤ n ∧ n ≤ 9223372036854775807) (hf : bfits (xs.length + 10)) :
    Calls Try.prog 87 #[.pointer (some ⟨pb, 0, none⟩), .int .i64 n] w (StPost (.tuple #[]) w0 (l.set i (wrt pb (xs ++ sevens n.toNat)))) :=
  h.wr i hi fun a cap hw => wcount_any pb a cap xs w hw n hn.1 hn.2 hf
theorem wtext_st (h : St w0 w l) (i : Nat) (hi : l[i]? = some (wrt pb xs)) (s : ByteArray) (hf : bfits (xs.length + 10 + s.size)) :
    Calls Try.prog 56 #[.pointer (some ⟨pb, 0, none⟩), .string s] w (StPost (.tuple #[]) w0 (l.set i (wrt pb (xs ++ (sevens s.size ++ s.data.toList))))) := by
  rw [← List.append_assoc]
  exact h.wr i hi fun a cap hw => wtext_any pb a cap xs w hw s hf
theorem wbytes_st (h : St w0 w l) (i : Nat) (hi : l[i]? = some (wrt pb xs)) :
    Calls Try.prog 50 #[.pointer (some ⟨pb, 0, none⟩)] w (StrPost (.string ⟨xs.toArray⟩) w) := by
  obtain ⟨F1, ⟨a, cap, hw, hF⟩, hz, ht⟩ := h.at i hi
  exact wbytes_any pb a cap xs w hw

/-- A call that makes a thing. -/
def StNew (w0 : World) (t : Nat → Thing) (l : List Thing) (e : Ending) (w' : World) : Prop := ∃ pb, e = .returned (.pointer (some ⟨pb, 0, none⟩)) ∧ St w0 w' (t pb :: l)

theorem wnew_st (h : St w0 w l) : Calls Try.prog 49 #[] w (StNew w0 (fun pb => wrt pb []) l) := by
  refine (wnew_any w).mono ?_
  rintro e w' ⟨pb, rfl, hw, hm, hp1, hp2⟩
  exact ⟨pb, rfl, h.cons (F := fun x => x = pb ∨ own none = some x) hm ⟨none, 0, hw, fun _ => Iff.rfl⟩ (fun x hx => by
    rcases hx with rfl | hx
    · exact hp1
    · simp [own] at hx)⟩

theorem rread_st (h : St w0 w l) (bs : ByteArray) (hf : bfits bs.size) : Calls Try.prog 60 #[.string bs] w (StNew w0 (fun pb => rdt pb bs.data.toList ⟨0, 0⟩) l) := by
  refine (rread_any bs hf w).mono ?_
  rintro e w' ⟨pb, a, cap, rfl, hr, hm, hp1, hp2, hpo⟩
  exact ⟨pb, rfl, h.cons (F := fun x => x = pb ∨ own a = some x) hm ⟨a, cap, hr, fun _ => Iff.rfl, fun x hx => by
    rcases hx with rfl | hx
    · exact hp2
    · exact (hpo x hx).2⟩ (fun x hx => by
    rcases hx with rfl | hx
    · exact hp1
    · exact (hpo x hx).1)⟩
end

section
variable {w0 w : World} {l : List Thing} {pb : Nat} {bs : List UInt8} {s : RS}
theorem rnum_st (h : St w0 w l) (i : Nat) (hi : l[i]? = some (rdt pb bs s)) :
    Calls Try.prog 77 #[.pointer (some ⟨pb, 0, none⟩)] w (StPost (.int .i64 (rnum bs s).1) w0 (l.set i (rdt pb bs (rnum bs s).2))) :=
  h.rdr i hi fun a cap hw => rnum_any pb a cap bs s w hw
theorem rcount_st (h : St w0 w l) (i : Nat) (hi : l[i]? = some (rdt pb bs s)) (most : Int) (hm : -9223372036854775808 ≤ most ∧ most ≤ 9223372036854775807) :
    Calls Try.prog 91 #[.pointer (some ⟨pb, 0, none⟩), .int .i64 most] w (StPost (.int .i64 (rcount bs most s).1) w0 (l.set i (rdt pb bs (rcount bs most s).2))) :=
  h.rdr i hi fun a cap hw => rcount_any pb a cap bs s w hw most hm.1 hm.2
theorem rtext_st (h : St w0 w l) (i : Nat) (hi : l[i]? = some (rdt pb bs s)) (most : Int) (hm : -9223372036854775808 ≤ most ∧ most ≤ 9223372036854775807) :
    Calls Try.prog 65 #[.pointer (some ⟨pb, 0, none⟩), .int .i64 most] w (StPost (.string ⟨(rtext bs most s).1.toArray⟩) w0 (l.set i (rdt pb bs (rtext bs most s).2))) :=
  h.rdr i hi fun a cap hw => rtext_any pb a cap bs s w hw most hm.1 hm.2
theorem rend_st (h : St w0 w l) (i : Nat) (hi : l[i]? = some (rdt pb bs s)) :
    Calls Try.prog 61 #[.pointer (some ⟨pb, 0, none⟩)] w (StPost (.int .i64 (rend bs s).wr) w0 (l.set i (rdt pb bs (rend bs s)))) :=
  h.rdr i hi fun a cap hw => rend_any pb a cap bs s w hw
end

section
variable {w0 w : World} {l : List Thing} {pb : Nat} {B : ByteArray} {s : RS}
end

/-! ### Slices of numbers -/

def ic (ns : List Int) : List Value := ns.map (.int .i64)
def i64 (n : Int) : Prop := -9223372036854775808 ≤ n ∧ n ≤ 9223372036854775807
theorem ic_length (ns : List Int) : (ic ns).length = ns.length * 1 := by simp [ic]

/-- A fresh slice, out of a block that was built. -/
theorem St.slice1 {w0 w : World} {l : List Thing} (h : St w0 w l) (c : Array Value) (T : TypeId) (k n : Nat) (hn : c.size = n * k) (hm : n ≤ maxLen) : St w0 (w.alloc (.cells c T)) (sl T k (some ⟨w.heap.size, 0, none⟩) n n c.toList :: l) :=
  h.cons (F := fun x => own (some (⟨w.heap.size, 0, none⟩ : Addr)) = some x) ((Mod.refl _ w).alloc _) ⟨Sl.new (heap_alloc_new w _) hn hm, fun _ => Iff.rfl⟩ (fun x hx => Nat.le_of_eq (by simpa [own] using hx))

theorem Rd.int {w : World} {a : Option Addr} {n cap : Nat} {ts : List Int} (h : Rd w 1 a n cap (ic ts)) {k : Nat} {t : Int} (ht : ts[k]? = some t) :
    ∃ b o, a = some ⟨b, o, none⟩ ∧ b < w.heap.size ∧ w.cell? ⟨b, o + k, none⟩ = some (.int .i64 t) := by
  have h' : Rd w 1 a n cap (ts.flatMap (fun t => [Value.int .i64 t])) := by
    have e : ts.flatMap (fun t => [Value.int .i64 t]) = ic ts := by
      unfold ic; rw [List.map_eq_flatMap]
    rw [e]; exact h
  obtain ⟨b, o, rfl, hb, hc⟩ := h'.elem (k := 1) (fun t => [Value.int .i64 t]) (fun _ => rfl) (by omega) ht
  exact ⟨b, o, rfl, hb, by have := hc 0 _ rfl; simpa using this⟩

def numsB (ns : List Int) : List UInt8 := ns.flatMap fun n => sevens (zig n)
theorem numsB_len : ∀ ns : List Int, (∀ t ∈ ns, i64 t) → (numsB ns).length ≤ 10 * ns.length
  | [], _ => by simp [numsB]
  | n :: ns, h => by
    have h1 := h n (List.mem_cons_self ..)
    have h2 := numsB_len ns fun t ht => h t (List.mem_cons_of_mem _ ht)
    have h3 := zig_lt n h1.1 h1.2
    have h4 := sevens_length 10 (zig n) (by omega) (by omega)
    simp only [numsB, List.flatMap_cons, List.length_append, List.length_cons] at h2 ⊢
    omega
theorem numsB_snoc {ns : List Int} {k : Nat} {t : Int} (h : ns[k]? = some t) : numsB (ns.take (k + 1)) = numsB (ns.take k) ++ sevens (zig t) := by
  obtain ⟨hk, rfl⟩ := List.getElem?_eq_some_iff.1 h
  rw [List.take_succ_eq_append_getElem hk]
  unfold numsB
  rw [List.flatMap_append]
  congr 1
  simp

theorem numbers_st {w0 w : World} {l : List Thing} {pb : Nat} {xs : List UInt8} (h : St w0 w l) (i j : Nat) (hi : l[i]? = some (wrt pb xs)) (a : Option Addr) (n cap : Nat) (ns : List Int) (hj : l[j]? = some (sl 3 1 a n cap (ic ns))) (hij : i ≠ j)
    (hn : ns.length = n) (hr : ∀ t ∈ ns, i64 t) (hf : bfits (xs.length + 10 * n)) (hl : n ≤ 2 ^ 63 - 1) :
    Calls Try.prog 51 #[.pointer (some ⟨pb, 0, none⟩), .slice a n cap] w (StPost (.tuple #[]) w0 (l.set i (wrt pb (xs ++ numsB ns)))) := by
  have hil : i < l.length := (List.getElem?_eq_some_iff.1 hi).1
  have HI := Lib.hid hi
  have HJ := Lib.hid hj
  have HN := Lib.hid hn
  have HR := Lib.hid hr
  have HF := Lib.hid hf
  have HS := Lib.hid h
  clear hi hj hn hr hf h
  go_enter Try.func51, Try.ntmps51
  go_wp2
  go_loopg [8] n (fun g y wr => ∃ k : Nat, k + g = n ∧ y = .int .i64 k ∧ St w0 wr (l.set i (wrt pb (xs ++ numsB (ns.take k)))))
  case atStart =>
    refine ⟨0, by omega, rfl, ?_⟩
    rw [List.take_zero, show numsB [] = [] from rfl, List.append_nil]
    have e : l.set i (wrt pb xs) = l := by
      apply List.ext_getElem?
      intro x
      rw [List.getElem?_set]
      split
      · next hx => subst hx; rw [HI.out]
      · rfl
    rw [e]; exact HS.out
  case round =>
    obtain ⟨k, hkg, rfl, hS⟩ := hrel
    by_cases hlt : k < n
    · have hx : ns[k]? = some (ns[k]'(HN.out ▸ hlt)) := List.getElem?_eq_getElem _
      obtain ⟨t, hxx⟩ : ∃ x, ns[k]'(HN.out ▸ hlt) = x := ⟨_, rfl⟩
      rw [hxx] at hx
      obtain ⟨b, o, rfl, hbl, hc⟩ := (hS.slice j (by rw [List.getElem?_set_ne hij]; exact HJ.out)).rd.int hx
      have hb : (numsB (ns.take k)).length ≤ 10 * k := Nat.le_trans (numsB_len _ fun t ht => HR.out t (List.mem_of_mem_take ht)) (by rw [List.length_take]; omega)
      have HX := Lib.hid hx
      have hft : bfits ((xs ++ numsB (ns.take k)).length + 10) := HF.out.mono (by rw [List.length_append]; omega)
      have HFT := Lib.hid hft
      clear hx hxx hb hft
      go_wp2_with fail
      refine (wnum_st hS i (by rw [List.getElem?_set_self hil]) t (HR.out t (List.mem_of_getElem? HX.out)) HFT.out).mono ?_
      clear hS
      rintro e w1 ⟨rfl, hS⟩
      go_wp2
      go_roundg (gk - 1)
      case measure => omega
      case rel =>
        refine ⟨k + 1, by omega, by simp, ?_⟩
        rw [numsB_snoc HX.out, ← List.append_assoc]
        rw [List.set_set] at hS
        exact hS
    · have hk : k = n := by omega
      clear hkg hlt
      rw [hk, List.take_of_length_le (by rw [HN.out]; exact Nat.le_refl _)] at hS
      go_wp2
      go_end0
      exact ⟨rfl, hS⟩
end

section
open Go.RowKit
set_option linter.unusedSectionVars false
set_option linter.unusedSimpArgs false
set_option linter.unusedVariables false
set_option maxRecDepth 100000

structure Ev where
  kind : Int
  path : ByteArray
  zxid : Int
structure He where
  session : Int
  zxid : Int
  timeout : Int
  secret : ByteArray
structure No where
  a : Int
  b : Int
  c : Int
  d : Int
  e : Int
  f : Int
def Ev.cells (x : Ev) : List Value := [.int .i64 x.kind, .string x.path, .int .i64 x.zxid]
def He.cells (x : He) : List Value := [.int .i64 x.session, .int .i64 x.zxid, .int .i64 x.timeout, .string x.secret]
def No.cells (x : No) : List Value := [.int .i64 x.a, .int .i64 x.b, .int .i64 x.c, .int .i64 x.d, .int .i64 x.e, .int .i64 x.f]
def Ev.ok (x : Ev) : Prop := i64 x.kind ∧ i64 x.zxid ∧ bfits (x.path.size + 100)
def He.ok (x : He) : Prop := i64 x.session ∧ i64 x.zxid ∧ i64 x.timeout ∧ bfits (x.secret.size + 100)
def No.ok (x : No) : Prop := i64 x.a ∧ i64 x.b ∧ i64 x.c ∧ i64 x.d ∧ i64 x.e ∧ i64 x.f

def numB (n : Int) : List UInt8 := sevens (zig n)
def txtB (s : ByteArray) : List UInt8 := sevens s.size ++ s.data.toList
theorem numB_len {n : Int} (h : i64 n) : (numB n).length ≤ 10 := by
  have h3 := zig_lt n h.1 h.2
  exact sevens_length 10 (zig n) (by omega) (by omega)
theorem txtB_len {s : ByteArray} (h : bfits s.size) : (txtB s).length ≤ s.size + 10 := by
  have := sevens_length 10 s.size (by unfold bfits at h; omega) (by omega)
  unfold txtB
  rw [List.length_append, toList_size]; omega

def Ev.bytes (x : Ev) : List UInt8 := numB x.kind ++ txtB x.path ++ numB x.zxid
def He.bytes (x : He) : List UInt8 := numsB [x.session, x.zxid, x.timeout] ++ txtB x.secret
def No.bytes (x : No) : List UInt8 := numsB [x.a, x.b, x.c, x.d, x.e, x.f]

theorem layEvent_st {w0 w : World} {l : List Thing} {pb : Nat} (h : St w0 w (wrt pb [] :: l)) (x : Ev) (hx : x.ok) :
    Calls Try.prog 44 #[.pointer (some ⟨pb, 0, none⟩), .agg x.cells.toArray] w (StPost (.tuple #[]) w0 (wrt pb x.bytes :: l)) := by
  obtain ⟨kind, path, zxid⟩ := x
  obtain ⟨h1, h2, h3⟩ := hx
  simp only [Ev.cells]
  have hS := h.box1 #[.int .i64 kind, .string path, .int .i64 zxid] 57
  have HK := Lib.hid h1
  have HZ := Lib.hid h2
  have HF := Lib.hid h3
  have hl1 := Lib.hid (numB_len h1)
  have hl2 := Lib.hid (txtB_len (h3.mono (Nat.le_add_right _ _)))
  clear h h1 h2 h3
  go_enter Try.func44, Try.ntmps44
  go_wp2_with fail
  refine (wnum_st hS 1 rfl kind HK.out (bfits_small (by simp))).mono ?_
  clear hS
  rintro e w1 ⟨rfl, hS⟩
  simp only [List.set_cons_succ, List.set_cons_zero, List.nil_append] at hS
  have c1 := blk_cell (hS.box 0 rfl) 1 (.string path) rfl
  have z1 := heap_lt (hS.box 0 rfl)
  go_wp2_with fail
  refine (wtext_st hS 1 rfl path (HF.out.mono (by have h1 := hl1.out; unfold numB at h1; (try simp only at h1 ⊢); omega))).mono ?_
  clear hS
  rintro e w2 ⟨rfl, hS⟩
  simp only [List.set_cons_succ, List.set_cons_zero] at hS
  have c2 := blk_cell (hS.box 0 rfl) 2 (.int .i64 zxid) rfl
  have z2 := heap_lt (hS.box 0 rfl)
  go_wp2_with fail
  refine (wnum_st hS 1 rfl zxid HZ.out (HF.out.mono (by have h1 := hl1.out; have h2 := hl2.out; unfold numB at h1; unfold txtB at h2; simp only [List.length_append] at h1 h2 ⊢; omega))).mono ?_
  clear hS
  rintro e w3 ⟨rfl, hS⟩
  simp only [List.set_cons_succ, List.set_cons_zero] at hS
  go_wp2
  go_end0
  exact ⟨rfl, hS.tail⟩

theorem layHello_st {w0 w : World} {l : List Thing} {pb : Nat} (h : St w0 w (wrt pb [] :: l)) (x : He) (hx : x.ok) :
    Calls Try.prog 46 #[.pointer (some ⟨pb, 0, none⟩), .agg x.cells.toArray] w (StPost (.tuple #[]) w0 (wrt pb x.bytes :: l)) := by
  obtain ⟨a, b, c, s⟩ := x
  obtain ⟨h1, h2, h3, h4⟩ := hx
  simp only [He.cells]
  have hS := ((h.box1 #[.int .i64 a, .int .i64 b, .int .i64 c, .string s] 61).slice1 #[.int .i64 a, .int .i64 b, .int .i64 c] 3 1 3 rfl (by unfold maxLen; omega))
  rw [World.size_alloc] at hS
  have hr : ∀ t ∈ [a, b, c], i64 t := by simp [h1, h2, h3]
  have HR := Lib.hid hr
  have HF := Lib.hid h4
  have hln := Lib.hid (numsB_len [a, b, c] hr)
  clear h h1 h2 h3 h4 hr
  go_enter Try.func46, Try.ntmps46
  go_wp2_with fail
  refine (numbers_st hS 2 0 rfl _ 3 3 [a, b, c] rfl (by omega) rfl HR.out (bfits_small (by simp)) (by omega)).mono ?_
  clear hS
  rintro e w1 ⟨rfl, hS⟩
  simp only [List.set_cons_succ, List.set_cons_zero, List.nil_append] at hS
  have c1 := blk_cell (hS.box 1 rfl) 3 (.string s) rfl
  have z1 := heap_lt (hS.box 1 rfl)
  go_wp2_with fail
  refine (wtext_st hS 2 rfl s (HF.out.mono (by have := hln.out; simp only [List.length_cons, List.length_nil] at this ⊢; omega))).mono ?_
  clear hS
  rintro e w2 ⟨rfl, hS⟩
  simp only [List.set_cons_succ, List.set_cons_zero] at hS
  go_wp2
  go_end0
  exact ⟨rfl, hS.tail.tail⟩

theorem layNote_st {w0 w : World} {l : List Thing} {pb : Nat} (h : St w0 w (wrt pb [] :: l)) (x : No) (hx : x.ok) :
    Calls Try.prog 48 #[.pointer (some ⟨pb, 0, none⟩), .agg x.cells.toArray] w (StPost (.tuple #[]) w0 (wrt pb x.bytes :: l)) := by
  obtain ⟨a, b, c, d, e, f⟩ := x
  obtain ⟨h1, h2, h3, h4, h5, h6⟩ := hx
  simp only [No.cells]
  have hS := ((h.box1 #[.int .i64 a, .int .i64 b, .int .i64 c, .int .i64 d, .int .i64 e, .int .i64 f] 65).slice1 #[.int .i64 a, .int .i64 b, .int .i64 c, .int .i64 d, .int .i64 e, .int .i64 f] 3 1 6 rfl (by unfold maxLen; omega))
  rw [World.size_alloc] at hS
  have hr : ∀ t ∈ [a, b, c, d, e, f], i64 t := by simp [h1, h2, h3, h4, h5, h6]
  have HR := Lib.hid hr
  clear h h1 h2 h3 h4 h5 h6 hr
  go_enter Try.func48, Try.ntmps48
  go_wp2_with fail
  refine (numbers_st hS 2 0 rfl _ 6 6 [a, b, c, d, e, f] rfl (by omega) rfl HR.out (bfits_small (by simp)) (by omega)).mono ?_
  clear hS
  rintro e w1 ⟨rfl, hS⟩
  simp only [List.set_cons_succ, List.set_cons_zero, List.nil_append] at hS
  go_wp2
  go_end0
  exact ⟨rfl, hS.tail.tail⟩
end

section
open Go.RowKit
set_option linter.unusedSectionVars false
set_option linter.unusedSimpArgs false
set_option linter.unusedVariables false
set_option maxRecDepth 100000

theorem mk_size (xs : List UInt8) : (ByteArray.mk xs.toArray).size = xs.length := by show xs.toArray.size = _; simp
theorem mk_append (xs ys : List UInt8) : ByteArray.mk xs.toArray ++ ByteArray.mk ys.toArray = ⟨(xs ++ ys).toArray⟩ := by
  apply ByteArray.ext; simp

theorem putEvent_any (x : Ev) (hx : x.ok) (w : World) :
    Calls Try.prog 43 #[.agg x.cells.toArray, .func (.func 44) #[] #[]] w (TextPost x.bytes w) := by
  have hS := (St.start w).box1 x.cells.toArray 57
  have HX := Lib.hid hx
  have hd : x.cells.length = 3 := rfl
  obtain ⟨a, b, c⟩ := x
  simp only [Ev.cells] at hS hd ⊢
  clear hx hd
  go_enter Try.func43, Try.ntmps43
  go_wp2_with fail
  refine (wnew_st hS).mono ?_
  clear hS
  rintro e w1 ⟨pb, rfl, hS⟩
  have c0 := blk_cell (hS.box 1 rfl) 0 (.int .i64 a) rfl
  have c1 := blk_cell (hS.box 1 rfl) 1 (.string b) rfl
  have c2 := blk_cell (hS.box 1 rfl) 2 (.int .i64 c) rfl
  have hz := heap_lt (hS.box 1 rfl)
  go_wp2_with fail
  refine (layEvent_st hS ⟨a, b, c⟩ HX.out).mono ?_
  clear hS
  rintro e w2 ⟨rfl, hS⟩
  go_wp2_with fail
  refine (wbytes_st hS 0 rfl).mono ?_
  rintro e w3 ⟨rfl, rfl⟩
  go_wp2
  go_ret
  exact ⟨rfl, hS.1⟩

theorem PutEvent_any (x : Ev) (hx : x.ok) (w : World) :
    Calls Try.prog 18 #[.agg x.cells.toArray] w (TextPost x.bytes w) := by
  have HX := Lib.hid hx
  obtain ⟨a, b, c⟩ := x
  simp only [Ev.cells]
  clear hx
  go_enter Try.func18, Try.ntmps18
  go_wp2_with fail
  refine (putEvent_any ⟨a, b, c⟩ HX.out _).mono ?_
  rintro e w1 ⟨rfl, hM⟩
  go_wp2
  go_ret
  exact ⟨rfl, ((Mod.refl _ w).alloc _).then hM (fun _ _ h => h)⟩

theorem putHello_any (x : He) (hx : x.ok) (w : World) :
    Calls Try.prog 45 #[.agg x.cells.toArray, .func (.func 46) #[] #[]] w (TextPost x.bytes w) := by
  have hS := (St.start w).box1 x.cells.toArray 61
  have HX := Lib.hid hx
  have hd : x.cells.length = 4 := rfl
  obtain ⟨a, b, c, d⟩ := x
  simp only [He.cells] at hS hd ⊢
  clear hx hd
  go_enter Try.func45, Try.ntmps45
  go_wp2_with fail
  refine (wnew_st hS).mono ?_
  clear hS
  rintro e w1 ⟨pb, rfl, hS⟩
  have c0 := blk_cell (hS.box 1 rfl) 0 (.int .i64 a) rfl
  have c1 := blk_cell (hS.box 1 rfl) 1 (.int .i64 b) rfl
  have c2 := blk_cell (hS.box 1 rfl) 2 (.int .i64 c) rfl
  have c3 := blk_cell (hS.box 1 rfl) 3 (.string d) rfl
  have hz := heap_lt (hS.box 1 rfl)
  go_wp2_with fail
  refine (layHello_st hS ⟨a, b, c, d⟩ HX.out).mono ?_
  clear hS
  rintro e w2 ⟨rfl, hS⟩
  go_wp2_with fail
  refine (wbytes_st hS 0 rfl).mono ?_
  rintro e w3 ⟨rfl, rfl⟩
  go_wp2
  go_ret
  exact ⟨rfl, hS.1⟩

theorem PutHello_any (x : He) (hx : x.ok) (w : World) :
    Calls Try.prog 19 #[.agg x.cells.toArray] w (TextPost x.bytes w) := by
  have HX := Lib.hid hx
  obtain ⟨a, b, c, d⟩ := x
  simp only [He.cells]
  clear hx
  go_enter Try.func19, Try.ntmps19
  go_wp2_with fail
  refine (putHello_any ⟨a, b, c, d⟩ HX.out _).mono ?_
  rintro e w1 ⟨rfl, hM⟩
  go_wp2
  go_ret
  exact ⟨rfl, ((Mod.refl _ w).alloc _).then hM (fun _ _ h => h)⟩

theorem putNote_any (x : No) (hx : x.ok) (w : World) :
    Calls Try.prog 47 #[.agg x.cells.toArray, .func (.func 48) #[] #[]] w (TextPost x.bytes w) := by
  have hS := (St.start w).box1 x.cells.toArray 65
  have HX := Lib.hid hx
  have hd : x.cells.length = 6 := rfl
  obtain ⟨a, b, c, d, e, f⟩ := x
  simp only [No.cells] at hS hd ⊢
  clear hx hd
  go_enter Try.func47, Try.ntmps47
  go_wp2_with fail
  refine (wnew_st hS).mono ?_
  clear hS
  rintro e w1 ⟨pb, rfl, hS⟩
  have c0 := blk_cell (hS.box 1 rfl) 0 (.int .i64 a) rfl
  have c1 := blk_cell (hS.box 1 rfl) 1 (.int .i64 b) rfl
  have c2 := blk_cell (hS.box 1 rfl) 2 (.int .i64 c) rfl
  have c3 := blk_cell (hS.box 1 rfl) 3 (.int .i64 d) rfl
  have c4 := blk_cell (hS.box 1 rfl) 4 (.int .i64 e) rfl
  have c5 := blk_cell (hS.box 1 rfl) 5 (.int .i64 f) rfl
  have hz := heap_lt (hS.box 1 rfl)
  go_wp2_with fail
  refine (layNote_st hS ⟨a, b, c, d, e, f⟩ HX.out).mono ?_
  clear hS
  rintro e w2 ⟨rfl, hS⟩
  go_wp2_with fail
  refine (wbytes_st hS 0 rfl).mono ?_
  rintro e w3 ⟨rfl, rfl⟩
  go_wp2
  go_ret
  exact ⟨rfl, hS.1⟩

theorem PutNote_any (x : No) (hx : x.ok) (w : World) :
    Calls Try.prog 20 #[.agg x.cells.toArray] w (TextPost x.bytes w) := by
  have HX := Lib.hid hx
  obtain ⟨a, b, c, d, e, f⟩ := x
  simp only [No.cells]
  clear hx
  go_enter Try.func20, Try.ntmps20
  go_wp2_with fail
  refine (putNote_any ⟨a, b, c, d, e, f⟩ HX.out _).mono ?_
  rintro e w1 ⟨rfl, hM⟩
  go_wp2
  go_ret
  exact ⟨rfl, ((Mod.refl _ w).alloc _).then hM (fun _ _ h => h)⟩
end

section
open Go.RowKit
set_option linter.unusedSectionVars false
set_option linter.unusedSimpArgs false
set_option linter.unusedVariables false
set_option maxRecDepth 100000

end

section
open Go.RowKit
set_option linter.unusedSectionVars false
set_option linter.unusedSimpArgs false
set_option linter.unusedVariables false
set_option maxRecDepth 100000

/-- The reader after k numbers; the k-th number. -/
def rs (bs : List UInt8) (s : RS) : Nat → RS
  | 0 => s
  | k + 1 => (rnum bs (rs bs s k)).2
def rv (bs : List UInt8) (s : RS) (k : Nat) : Int := (rnum bs (rs bs s k)).1

/-- Variables that lie in blocks of their own. -/
structure Var where
  pb : Nat
  cells : Array Value
  ty : TypeId
def Var.thing (x : Var) : Thing := bx x.pb x.cells x.ty
def vset (B : List Var) (m o : Nat) (v : Value) : List Var :=
  match B[m]? with
  | some x => B.set m ⟨x.pb, x.cells.setIfInBounds o v, x.ty⟩
  | none => B
def vptr (B : List Var) (p : Nat × Nat) : Value := .pointer (some ⟨(B[p.1]?.map (·.pb)).getD 0, p.2, none⟩)
/-- k of the variables ps have got their values. -/
def vfill (B : List Var) (ps : List (Nat × Nat)) (f : Nat → Value) : Nat → List Var
  | 0 => B
  | k + 1 => vset (vfill B ps f k) (ps.getD k (0, 0)).1 (ps.getD k (0, 0)).2 (f k)

theorem vset_pb (B : List Var) (m o : Nat) (v : Value) (i : Nat) : ((vset B m o v)[i]?.map (·.pb)) = (B[i]?.map (·.pb)) := by
  unfold vset
  split
  · next x hx =>
    rw [List.getElem?_set]
    split
    · next h => subst h; rw [hx]; simp [(List.getElem?_eq_some_iff.1 hx).1]
    · rfl
  · rfl
theorem vset_size (B : List Var) (m o : Nat) (v : Value) (i : Nat) : ((vset B m o v)[i]?.map (·.cells.size)) = (B[i]?.map (·.cells.size)) := by
  unfold vset
  split
  · next x hx =>
    rw [List.getElem?_set]
    split
    · next h => subst h; rw [hx]; simp [(List.getElem?_eq_some_iff.1 hx).1]
    · rfl
  · rfl
theorem vfill_pb (B : List Var) (ps : List (Nat × Nat)) (f : Nat → Value) (i : Nat) : ∀ k, ((vfill B ps f k)[i]?.map (·.pb)) = (B[i]?.map (·.pb))
  | 0 => rfl
  | k + 1 => (vset_pb _ _ _ _ i).trans (vfill_pb B ps f i k)
theorem vfill_size (B : List Var) (ps : List (Nat × Nat)) (f : Nat → Value) (i : Nat) : ∀ k, ((vfill B ps f k)[i]?.map (·.cells.size)) = (B[i]?.map (·.cells.size))
  | 0 => rfl
  | k + 1 => (vset_size _ _ _ _ i).trans (vfill_size B ps f i k)

/-- A place of a variable. -/
def Place (B : List Var) (p : Nat × Nat) : Prop := ∃ x, B[p.1]? = some x ∧ p.2 < x.cells.size

theorem Rd.val {w : World} {a : Option Addr} {n cap : Nat} {vs : List Value} (h : Rd w 1 a n cap vs) {k : Nat} {t : Value} (ht : vs[k]? = some t) :
    ∃ b o, a = some ⟨b, o, none⟩ ∧ b < w.heap.size ∧ w.cell? ⟨b, o + k, none⟩ = some t := by
  have h' : Rd w 1 a n cap (vs.flatMap (fun t => [t])) := by
    have e : vs.flatMap (fun t => [t]) = vs := by simp
    rw [e]; exact h
  obtain ⟨b, o, rfl, hb, hc⟩ := h'.elem (k := 1) (fun t => [t]) (fun _ => rfl) (by omega) ht
  exact ⟨b, o, rfl, hb, by have := hc 0 _ rfl; simpa using this⟩

theorem set_self {α : Type} {l : List α} {i : Nat} {x : α} (h : l[i]? = some x) : l.set i x = l := by
  apply List.ext_getElem?
  intro j
  rw [List.getElem?_set]
  split
  · next hx => subst hx; rw [h]; simp [(List.getElem?_eq_some_iff.1 h).1]
  · rfl

/-- Numbers taken up into variables: the reader, the slice of the pointers, the variables. -/
theorem into_st {w0 w : World} {l : List Thing} {pb : Nat} {bs : List UInt8} {s : RS} {T : TypeId} {a : Option Addr} {n cap : Nat} (B : List Var) (ps : List (Nat × Nat))
    (h : St w0 w (rdt pb bs s :: sl T 1 a n cap (ps.map (vptr B)) :: (B.map Var.thing ++ l))) (hn : ps.length = n) (hp : ∀ p ∈ ps, Place B p) (hl : n ≤ 2 ^ 63 - 1) :
    Calls Try.prog 62 #[.pointer (some ⟨pb, 0, none⟩), .slice a n cap] w
      (StPost (.tuple #[]) w0 (rdt pb bs (rs bs s n) :: sl T 1 a n cap (ps.map (vptr B)) :: ((vfill B ps (fun k => .int .i64 (rv bs s k)) n).map Var.thing ++ l))) := by
  have HS := Lib.hid h
  have HN := Lib.hid hn
  have HP := Lib.hid hp
  clear h hn hp
  go_enter Try.func62, Try.ntmps62
  go_wp2
  go_loopg [5, 8] n (fun g x y wr => ∃ k : Nat, k + g = n ∧ y = .int .i64 k ∧ St w0 wr (rdt pb bs (rs bs s k) :: sl T 1 a n cap (ps.map (vptr B)) :: ((vfill B ps (fun k => .int .i64 (rv bs s k)) k).map Var.thing ++ l)))
  case atStart => exact ⟨0, by omega, rfl, HS.out⟩
  case round =>
    obtain ⟨k, hkg, rfl, hS⟩ := hrel
    by_cases hlt : k < n
    · have hx : ps[k]? = some (ps[k]'(HN.out ▸ hlt)) := List.getElem?_eq_getElem _
      obtain ⟨p, hxx⟩ : ∃ x, ps[k]'(HN.out ▸ hlt) = x := ⟨_, rfl⟩
      rw [hxx] at hx
      obtain ⟨b, o, rfl, hbl, hc⟩ := (hS.slice 1 rfl).rd.val (t := vptr B p) (by rw [List.getElem?_map, hx]; rfl)
      obtain ⟨x, hx1, hx2⟩ := HP.out p (List.mem_of_getElem? hx)
      have e1 : vptr B p = .pointer (some ⟨x.pb, p.2, none⟩) := by unfold vptr; rw [hx1]; rfl
      rw [e1] at hc
      have hq := vfill_pb B ps (fun k => .int .i64 (rv bs s k)) p.1 k
      have hz := vfill_size B ps (fun k => .int .i64 (rv bs s k)) p.1 k
      rw [hx1] at hq hz
      obtain ⟨y, hy⟩ : ∃ y, (vfill B ps (fun k => .int .i64 (rv bs s k)) k)[p.1]? = some y := by
        cases h : (vfill B ps (fun k => .int .i64 (rv bs s k)) k)[p.1]? with
        | none => rw [h] at hq; simp at hq
        | some y => exact ⟨y, rfl⟩
      rw [hy] at hq hz
      simp only [Option.map_some, Option.some.injEq] at hq hz
      have HX := Lib.hid hx
      have HY := Lib.hid hy
      have HQ := Lib.hid hq
      have HZ := Lib.hid hz
      clear hx hxx hx1 e1 hy hq hz
      go_wp2_with fail
      refine (rnum_st hS 0 rfl).mono ?_
      clear hS
      rintro e w1 ⟨rfl, hS⟩
      simp only [List.set_cons_zero] at hS
      have hi : (rdt pb bs (rnum bs (rs bs s k)).2 :: sl T 1 (some ⟨b, o, none⟩) n cap (ps.map (vptr B)) :: ((vfill B ps (fun k => .int .i64 (rv bs s k)) k).map Var.thing ++ l))[p.1 + 2]? = some (bx x.pb y.cells y.ty) := by
        simp only [List.getElem?_cons_succ]
        rw [List.getElem?_append_left (by rw [List.length_map]; exact (List.getElem?_eq_some_iff.1 HY.out).1), List.getElem?_map, HY.out, ← HQ.out]
        rfl
      have hcell := blk_cell (hS.box _ hi) p.2 _ (Array.getElem?_eq_getElem (xs := y.cells) (i := p.2) (by rw [HZ.out]; exact hx2))
      have hlt2 := heap_lt (hS.box _ hi)
      have hfr := blk_free (hS.box _ hi) p.2
      have HI := Lib.hid hi
      clear hi
      go_wp2
      go_roundg (gk - 1)
      case measure => omega
      case rel =>
        refine ⟨k + 1, by omega, by simp, ?_⟩
        have hS2 := hS.set (p.1 + 2) HI.out p.2 (.int .i64 (rv bs s k))
        simp only [List.set_cons_succ] at hS2
        rw [List.set_append_left _ _ (by rw [List.length_map]; exact (List.getElem?_eq_some_iff.1 HY.out).1)] at hS2
        have e : vfill B ps (fun k => .int .i64 (rv bs s k)) (k + 1) = (vfill B ps (fun k => .int .i64 (rv bs s k)) k).set p.1 ⟨x.pb, y.cells.setIfInBounds p.2 (.int .i64 (rv bs s k)), y.ty⟩ := by
          show vset _ _ _ _ = _
          have e2 : ps.getD k (0, 0) = p := by rw [List.getD_eq_getElem?_getD, HX.out]; rfl
          rw [e2, ← HQ.out]
          unfold vset
          rw [HY.out]
        rw [e, List.map_set]
        exact hS2
    · have hk : k = n := by omega
      clear hkg hlt
      rw [hk] at hS
      go_wp2
      go_end0
      exact ⟨rfl, hS⟩

theorem wtxt_st {w0 w : World} {l : List Thing} {pb : Nat} {bs : List UInt8} {s : RS} (h : St w0 w l) (i : Nat) (hi : l[i]? = some (rdt pb bs s)) :
    Calls Try.prog 68 #[.pointer (some ⟨pb, 0, none⟩)] w (StPost (.string ⟨(rtext bs 4096 s).1.toArray⟩) w0 (l.set i (rdt pb bs (rtext bs 4096 s).2))) := by
  go_enter Try.func68, Try.ntmps68
  go_wp2_with fail
  refine (rtext_st h i hi 4096 (by omega)).mono ?_
  rintro e w1 ⟨rfl, hS⟩
  go_wp2
  go_ret
  exact ⟨rfl, hS⟩

theorem results_cell {P : Program} {fn : Func} {p : Tmp} {ty : TypeId} (h : fn.results = #[.cell p ty]) (tmps : Array Value) (w : World) (g : Nat) (T : TypeId) (cs : Array Value) (fr : Nat × Nat) (d : TypeDesc)
    (hp : tmps.getD p undef = .pointer (some ⟨g, 0, none⟩)) (hg : w.heap[g]? = some (.cells cs T fr))
    (hu : P.underlying ty = some d) (hd : (match d with | .struct _ | .array _ _ => true | _ => false) = true) (hi : (P.info? ty).map (·.size) = some cs.size) :
    (results fn tmps).run P w = .ok (.agg cs) w := by
  have hp' : tmps[p]?.getD undef = .pointer (some ⟨g, 0, none⟩) := by simpa using hp
  simp [results, h, hp', asAddr, run_loadVar_row w g T ty cs fr d hg hu hd hi]
end
end Go.Proofs.Ytmbkbkfcbloafab
