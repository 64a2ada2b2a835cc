/-
  Several writers and readers side by side: a state is a list of things, each with its own blocks, all of them younger than the world at the start.
  Conditions: as in CodecA to CodecD.
-/
import Derived.Test.YtecckgapdpmegaaCodecE
namespace Go.Proofs.Ytecckgapdpmegaa
open Go.RowKit
set_option linter.unusedSectionVars false
set_option linter.unusedSimpArgs false
set_option linter.unusedVariables false

theorem bfits_small {n : Nat} (h : n ≤ 65536) : bfits n := by unfold bfits; omega

/-- A writer that has laid xs; a reader of bs; a block of cells. -/
inductive Thing where
  | wr (pb : Nat) (xs : List UInt8)
  | rd (pb : Nat) (bs : List UInt8) (s : RS)
  | bx (pb : Nat) (c : Array Value) (t : TypeId)

def Thing.lies (w : World) (F : Nat → Prop) : Thing → Prop
  | .wr pb xs => ∃ a cap, WrAt w pb a cap xs ∧ ∀ x, F x ↔ (x = pb ∨ own a = some x)
  | .rd pb bs s => ∃ a cap, RdrAt w pb a cap bs s ∧ ∀ x, F x ↔ (x = pb ∨ own a = some x)
  | .bx pb c t => w.heap[pb]? = some (.cells c t (0, 0)) ∧ ∀ x, F x ↔ x = pb

theorem RdrAt.lt {w : World} {pb : Nat} {a : Option Addr} {cap : Nat} {bs : List UInt8} {s : RS} (h : RdrAt w pb a cap bs s) : pb < w.heap.size ∧ True := ⟨heap_lt h.1, trivial⟩

theorem Thing.mod {w w' : World} {F S : Nat → Prop} {t : Thing} (h : t.lies w F) (hm : Mod S w w') (hd : ∀ x, F x → ¬ S x) : t.lies w' F := by
  cases t with
  | wr pb xs =>
    obtain ⟨a, cap, h, hF⟩ := h
    exact ⟨a, cap, h.mod hm (hd _ ((hF _).2 (.inl rfl))) (fun b hb => hd _ ((hF _).2 (.inr hb))), hF⟩
  | rd pb bs s =>
    obtain ⟨a, cap, h, hF⟩ := h
    exact ⟨a, cap, h.mod hm (hd _ ((hF _).2 (.inl rfl))) (fun b hb => hd _ ((hF _).2 (.inr hb))), hF⟩
  | bx pb c t =>
    obtain ⟨h, hF⟩ := h
    exact ⟨hm.heap h (hd _ ((hF _).2 rfl)), hF⟩

/-- Things side by side, in the blocks F together, each below the world's end. -/
def Side (w : World) : List Thing → (Nat → Prop) → Prop
  | [], F => ∀ x, ¬ F x
  | t :: l, F => ∃ F1 F2, t.lies w F1 ∧ (∀ x, F1 x → x < w.heap.size) ∧ Side w l F2 ∧ (∀ x, F1 x → ¬ F2 x) ∧ ∀ x, F x ↔ F1 x ∨ F2 x

theorem Side.mod {w w' : World} {S : Nat → Prop} (hm : Mod S w w') : ∀ {l : List Thing} {F : Nat → Prop}, Side w l F → (∀ x, F x → ¬ S x) → Side w' l F
  | [], _, h, _ => h
  | _ :: _, F, ⟨F1, F2, h1, hb, h2, hd, hF⟩, hS =>
    ⟨F1, F2, Thing.mod h1 hm (fun x hx => hS x ((hF x).2 (.inl hx))), fun x hx => Nat.lt_of_lt_of_le (hb x hx) hm.size, Side.mod hm h2 (fun x hx => hS x ((hF x).2 (.inr hx))), hd, hF⟩

theorem Side.lt {w : World} : ∀ {l : List Thing} {F : Nat → Prop}, Side w l F → ∀ x, F x → x < w.heap.size
  | [], _, h, x, hx => absurd hx (h x)
  | _ :: _, F, ⟨F1, F2, h1, hb, h2, hd, hF⟩, x, hx => ((hF x).1 hx).elim (hb x) (Side.lt h2 x)

theorem Side.perm {w : World} {l l' : List Thing} (hp : l.Perm l') : ∀ {F : Nat → Prop}, Side w l F → Side w l' F := by
  induction hp with
  | nil => exact fun h => h
  | cons t _ ih =>
    rintro F ⟨F1, F2, h1, hb, h2, hd, hF⟩
    exact ⟨F1, F2, h1, hb, ih h2, hd, hF⟩
  | swap s t l =>
    rintro F ⟨F1, F2, h1, hb, ⟨G1, G2, g1, gb, g2, gd, gF⟩, hd, hF⟩
    refine ⟨G1, fun x => F1 x ∨ G2 x, g1, gb, ⟨F1, G2, h1, hb, g2, fun x h g => hd x h ((gF x).2 (.inr g)), fun x => Iff.rfl⟩, fun x g h => ?_, fun x => ?_⟩
    · rcases h with h | h
      · exact hd x h ((gF x).2 (.inl g))
      · exact gd x g h
    · rw [hF, gF]
      constructor
      · rintro (h | h | h)
        · exact .inr (.inl h)
        · exact .inl h
        · exact .inr (.inr h)
      · rintro (h | h | h)
        · exact .inr (.inl h)
        · exact .inl h
        · exact .inr (.inr h)
  | trans _ _ ih1 ih2 => exact fun h => ih2 (ih1 h)

/-- From w0 on nothing old has changed, and the things lie side by side in young blocks. -/
def St (w0 w : World) (l : List Thing) : Prop := Mod (fun _ => False) w0 w ∧ ∃ F, Side w l F ∧ ∀ x, F x → w0.heap.size ≤ x

theorem Side.box {w : World} {pb : Nat} {c : Array Value} {t : TypeId} : ∀ {l : List Thing} {F : Nat → Prop}, Side w l F → .bx pb c t ∈ l → w.heap[pb]? = some (.cells c t (0, 0))
  | _ :: _, F, ⟨F1, F2, h1, hb, h2, hd, hF⟩, hm => by
    rcases List.mem_cons.1 hm with rfl | hm
    · exact h1.1
    · exact Side.box h2 hm

theorem St.start (w : World) : St w w [] := ⟨Mod.refl _ _, fun _ => False, fun _ h => h, fun _ h => h.elim⟩
theorem St.perm {w0 w : World} {l l' : List Thing} (h : St w0 w l) (hp : l.Perm l') : St w0 w l' := ⟨h.1, h.2.choose, Side.perm hp h.2.choose_spec.1, h.2.choose_spec.2⟩
theorem St.swap {w0 w : World} {s t : Thing} {l : List Thing} (h : St w0 w (s :: t :: l)) : St w0 w (t :: s :: l) := h.perm (.swap _ _ _)
theorem St.drop {w0 w : World} {t : Thing} {l : List Thing} (h : St w0 w (t :: l)) : St w0 w l := by
  obtain ⟨hm, F, ⟨F1, F2, h1, hb, h2, hd, hF⟩, hz⟩ := h
  exact ⟨hm, F2, h2, fun x hx => hz x ((hF x).2 (.inr hx))⟩
theorem St.mod {w0 w w' : World} {l : List Thing} (h : St w0 w l) (hm : Mod (fun _ => False) w w') : St w0 w' l := by
  obtain ⟨h0, F, hs, hz⟩ := h
  exact ⟨h0.trans hm (fun _ _ h => h) (fun _ _ h => h), F, Side.mod hm hs (fun _ _ h => h), hz⟩

/-- A new thing in young blocks. -/
theorem St.new {w0 w w' : World} {l : List Thing} (h : St w0 w l) {t : Thing} {F : Nat → Prop} (hm : Mod (fun _ => False) w w') (ht : t.lies w' F) (hF : ∀ x, F x → w.heap.size ≤ x ∧ x < w'.heap.size) : St w0 w' (t :: l) := by
  have h' := h.mod hm
  obtain ⟨h0, G, hs, hz⟩ := h
  obtain ⟨h0', _⟩ := h'
  refine ⟨h0', fun x => F x ∨ G x, ⟨F, G, ht, fun x hx => (hF x hx).2, Side.mod hm hs (fun _ _ h => h), fun x hx hg => ?_, fun _ => Iff.rfl⟩, fun x hx => ?_⟩
  · have := Side.lt hs x hg
    have := (hF x hx).1
    omega
  · rcases hx with hx | hx
    · exact Nat.le_trans h0.size (hF x hx).1
    · exact hz x hx

theorem St.box {w0 w : World} {pb : Nat} {c : Array Value} {t : TypeId} {l : List Thing} (h : St w0 w l) (hm : .bx pb c t ∈ l) : w.heap[pb]? = some (.cells c t (0, 0)) := by
  obtain ⟨h0, F, hs, hz⟩ := h
  exact hs.box hm

theorem St.alloc {w0 w : World} {l : List Thing} (h : St w0 w l) (c : Array Value) (t : TypeId) : St w0 (w.alloc (.cells c t)) (.bx w.heap.size c t :: l) :=
  h.new (F := fun x => x = w.heap.size) ((Mod.refl _ w).alloc _) ⟨heap_alloc_new w _, fun _ => Iff.rfl⟩ (fun x hx => by subst hx; simp)

/-- The first thing turns. -/
theorem St.turn {w0 w : World} {t : Thing} {l : List Thing} (h : St w0 w (t :: l)) : ∃ F1, t.lies w F1 ∧ ∀ (w' : World) (t' : Thing) (F' : Nat → Prop), Mod F1 w w' → t'.lies w' F' → (∀ x, F' x → F1 x ∨ (w.heap.size ≤ x ∧ x < w'.heap.size)) → St w0 w' (t' :: l) := by
  obtain ⟨h0, F, ⟨F1, F2, h1, hb, h2, hd, hF⟩, hz⟩ := h
  refine ⟨F1, h1, fun w' t' F' hm ht hF' => ⟨?_, fun x => F' x ∨ F2 x, ⟨F', F2, ht, fun x hx => ?_, Side.mod hm h2 (fun x hx h1 => hd x h1 hx), fun x hx h2' => ?_, fun _ => Iff.rfl⟩, fun x hx => ?_⟩⟩
  · exact h0.then hm (fun x hx hf => by have := hz x ((hF x).2 (.inl hf)); omega)
  · rcases hF' x hx with h | h
    · exact Nat.lt_of_lt_of_le (hb x h) hm.size
    · exact h.2
  · rcases hF' x hx with h | h
    · exact hd x h h2'
    · have := Side.lt h2 x h2'
      omega
  · rcases hx with hx | hx
    · rcases hF' x hx with h | h
      · exact hz x ((hF x).2 (.inl h))
      · exact Nat.le_trans h0.size h.1
    · exact hz x ((hF x).2 (.inr hx))

/-- What a call on the first thing answers and leaves. -/
def StPost (v : Value) (w0 : World) (l : List Thing) (e : Ending) (w' : World) : Prop := e = .returned v ∧ St w0 w' l

/-- A call on a writer. -/
theorem St.write {w0 w : World} {pb : Nat} {xs ys : List UInt8} {l : List Thing} {f : FuncId} {args : Array Value} (h : St w0 w (.wr pb xs :: l))
    (hc : ∀ a cap, WrAt w pb a cap xs → Calls Try.prog f args w (WrTo w pb a ys)) : Calls Try.prog f args w (StPost (.tuple #[]) w0 (.wr pb ys :: l)) := by
  obtain ⟨F1, ⟨a, cap, hw, hF⟩, ht⟩ := h.turn
  refine (hc a cap hw).mono ?_
  rintro e w' ⟨rfl, a', cap', hw', hm, hf⟩
  refine ⟨rfl, ht w' (.wr pb ys) (fun x => x = pb ∨ own a' = some x) (hm.mono (fun x _ hx => (hF x).2 hx)) ⟨a', cap', hw', fun _ => Iff.rfl⟩ (fun x hx => ?_)⟩
  rcases hx with hx | hx
  · exact .inl ((hF x).2 (.inl hx))
  · rcases hf x hx with h | h
    · exact .inl ((hF x).2 (.inr h))
    · exact .inr h

theorem St.fits {w0 w : World} {pb : Nat} {xs : List UInt8} {l : List Thing} (h : St w0 w (.wr pb xs :: l)) : bfits xs.length := by
  obtain ⟨F1, ⟨a, cap, hw, hF⟩, ht⟩ := h.turn
  exact hw.2.2.2

theorem wnum_st {w0 w : World} {pb : Nat} {xs : List UInt8} {l : List Thing} (h : St w0 w (.wr pb xs :: l)) (n : Int) (h0 : -9223372036854775808 ≤ n) (h1 : n ≤ 9223372036854775807) (hf : bfits (xs.length + 10)) :
    Calls Try.prog 22 #[.pointer (some ⟨pb, 0, none⟩), .int .i64 n] w (StPost (.tuple #[]) w0 (.wr pb (xs ++ sevens (zig n)) :: l)) :=
  h.write fun a cap hw => wnum_any pb a cap xs w hw n h0 h1 hf
theorem wcount_st {w0 w : World} {pb : Nat} {xs : List UInt8} {l : List Thing} (h : St w0 w (.wr pb xs :: l)) (n : Int) (h0 : -9223372036854775808 ≤ n) (h1 : n ≤ 9223372036854775807) (hf : bfits (xs.length + 10)) :
    Calls Try.prog 25 #[.pointer (some ⟨pb, 0, none⟩), .int .i64 n] w (StPost (.tuple #[]) w0 (.wr pb (xs ++ sevens n.toNat) :: l)) :=
  h.write fun a cap hw => wcount_any pb a cap xs w hw n h0 h1 hf
theorem wflag_st {w0 w : World} {pb : Nat} {xs : List UInt8} {l : List Thing} (h : St w0 w (.wr pb xs :: l)) (is : Bool) (hf : bfits (xs.length + 10)) :
    Calls Try.prog 23 #[.pointer (some ⟨pb, 0, none⟩), .bool is] w (StPost (.tuple #[]) w0 (.wr pb (xs ++ [if is then 1 else 0]) :: l)) :=
  h.write fun a cap hw => wflag_any pb a cap xs w hw is hf
theorem wtext_st {w0 w : World} {pb : Nat} {xs : List UInt8} {l : List Thing} (h : St w0 w (.wr pb xs :: l)) (s : ByteArray) (hf : bfits (xs.length + 10 + s.size)) :
    Calls Try.prog 24 #[.pointer (some ⟨pb, 0, none⟩), .string s] w (StPost (.tuple #[]) w0 (.wr pb (xs ++ sevens s.size ++ s.data.toList) :: l)) :=
  h.write fun a cap hw => wtext_any pb a cap xs w hw s hf
theorem wbytes_st {w0 w : World} {pb : Nat} {xs : List UInt8} {l : List Thing} (h : St w0 w (.wr pb xs :: l)) :
    Calls Try.prog 13 #[.pointer (some ⟨pb, 0, none⟩)] w (StrPost (.string ⟨xs.toArray⟩) w) := by
  obtain ⟨F1, ⟨a, cap, hw, hF⟩, ht⟩ := h.turn
  exact wbytes_any pb a cap xs w hw

/-- A call that makes a thing. -/
def StNew (w0 : World) (t : Nat → Thing) (l : List Thing) (e : Ending) (w' : World) : Prop := ∃ pb, e = .returned (.pointer (some ⟨pb, 0, none⟩)) ∧ St w0 w' (t pb :: l)

theorem wnew_st {w0 w : World} {l : List Thing} (h : St w0 w l) : Calls Try.prog 11 #[] w (StNew w0 (fun pb => .wr pb []) l) := by
  refine (wnew_any w).mono ?_
  rintro e w' ⟨pb, rfl, hw, hm, hp1, hp2⟩
  exact ⟨pb, rfl, h.new (F := fun x => x = pb ∨ own none = some x) hm ⟨none, 0, hw, fun _ => Iff.rfl⟩ (fun x hx => by
    rcases hx with rfl | hx
    · exact ⟨hp1, hp2⟩
    · simp [own] at hx)⟩

theorem rread_st {w0 w : World} {l : List Thing} (h : St w0 w l) (bs : ByteArray) (hf : bfits bs.size) : Calls Try.prog 14 #[.string bs] w (StNew w0 (fun pb => .rd pb bs.data.toList ⟨0, 0⟩) l) := by
  refine (rread_any bs hf w).mono ?_
  rintro e w' ⟨pb, a, cap, rfl, hr, hm, hp1, hp2, hpo⟩
  exact ⟨pb, rfl, h.new (F := fun x => x = pb ∨ own a = some x) hm ⟨a, cap, hr, fun _ => Iff.rfl⟩ (fun x hx => by
    rcases hx with rfl | hx
    · exact ⟨hp1, hp2⟩
    · exact hpo x hx)⟩

/-- A call on a reader. -/
theorem St.read {w0 w : World} {pb : Nat} {bs : List UInt8} {s s' : RS} {v : Value} {l : List Thing} {f : FuncId} {args : Array Value} (h : St w0 w (.rd pb bs s :: l))
    (hc : ∀ a cap, RdrAt w pb a cap bs s → Calls Try.prog f args w (RdrTo v w pb a cap bs s')) : Calls Try.prog f args w (StPost v w0 (.rd pb bs s' :: l)) := by
  obtain ⟨F1, ⟨a, cap, hw, hF⟩, ht⟩ := h.turn
  refine (hc a cap hw).mono ?_
  rintro e w' ⟨rfl, hw', hm, hz⟩
  exact ⟨rfl, ht w' (.rd pb bs s') F1 (hm.mono (fun x _ hx => (hF x).2 (.inl hx))) ⟨a, cap, hw', hF⟩ (fun x hx => .inl hx)⟩

theorem St.rok {w0 w : World} {pb : Nat} {bs : List UInt8} {s : RS} {l : List Thing} (h : St w0 w (.rd pb bs s :: l)) : s.ok bs.length := by
  obtain ⟨F1, ⟨a, cap, hw, hF⟩, ht⟩ := h.turn
  exact hw.2.2.2.1

theorem rnum_st {w0 w : World} {pb : Nat} {bs : List UInt8} {s : RS} {l : List Thing} (h : St w0 w (.rd pb bs s :: l)) :
    Calls Try.prog 18 #[.pointer (some ⟨pb, 0, none⟩)] w (StPost (.int .i64 (rnum bs s).1) w0 (.rd pb bs (rnum bs s).2 :: l)) :=
  h.read fun a cap hw => rnum_any pb a cap bs s w hw
theorem rflag_st {w0 w : World} {pb : Nat} {bs : List UInt8} {s : RS} {l : List Thing} (h : St w0 w (.rd pb bs s :: l)) :
    Calls Try.prog 19 #[.pointer (some ⟨pb, 0, none⟩)] w (StPost (.bool (rflag bs s).1) w0 (.rd pb bs (rflag bs s).2 :: l)) :=
  h.read fun a cap hw => rflag_any pb a cap bs s w hw
theorem rcount_st {w0 w : World} {pb : Nat} {bs : List UInt8} {s : RS} {l : List Thing} (h : St w0 w (.rd pb bs s :: l)) (most : Int) (h0 : -9223372036854775808 ≤ most) (h1 : most ≤ 9223372036854775807) :
    Calls Try.prog 21 #[.pointer (some ⟨pb, 0, none⟩), .int .i64 most] w (StPost (.int .i64 (rcount bs most s).1) w0 (.rd pb bs (rcount bs most s).2 :: l)) :=
  h.read fun a cap hw => rcount_any pb a cap bs s w hw most h0 h1
theorem rtext_st {w0 w : World} {pb : Nat} {bs : List UInt8} {s : RS} {l : List Thing} (h : St w0 w (.rd pb bs s :: l)) (most : Int) (h0 : -9223372036854775808 ≤ most) (h1 : most ≤ 9223372036854775807) :
    Calls Try.prog 20 #[.pointer (some ⟨pb, 0, none⟩), .int .i64 most] w (StPost (.string ⟨(rtext bs most s).1.toArray⟩) w0 (.rd pb bs (rtext bs most s).2 :: l)) :=
  h.read fun a cap hw => rtext_any pb a cap bs s w hw most h0 h1
theorem rfail_st {w0 w : World} {pb : Nat} {bs : List UInt8} {s : RS} {l : List Thing} (h : St w0 w (.rd pb bs s :: l)) :
    Calls Try.prog 37 #[.pointer (some ⟨pb, 0, none⟩)] w (StPost (.tuple #[]) w0 (.rd pb bs (s.fail 11) :: l)) :=
  h.read fun a cap hw => rfail_any pb a cap bs s w hw
theorem rend_st {w0 w : World} {pb : Nat} {bs : List UInt8} {s : RS} {l : List Thing} (h : St w0 w (.rd pb bs s :: l)) :
    Calls Try.prog 16 #[.pointer (some ⟨pb, 0, none⟩)] w (StPost (.int .i64 (rend bs s).wr) w0 (.rd pb bs (rend bs s) :: l)) :=
  h.read fun a cap hw => rend_any pb a cap bs s w hw
end Go.Proofs.Ytecckgapdpmegaa
