/-
  Posts side by side: the program's and the document's; what each call answers, and how it leaves them.
  Conditions: as the contracts'.
-/
import Derived.Test.YtnggolgpnbdghaaPostX
import Derived.Test.YtnggolgpnbdghaaPostS
import Derived.Test.YtnggolgpnbdghaaPostD
import Derived.Test.YtnggolgpnbdghaaSt
import Derived.Test.YtnggolgpnbdghaaFlat
import Derived.Deep.RegionHeld3
namespace Go.Proofs.Ytnggolgpnbdghaa
open Go.RowKit
set_option linter.unusedSectionVars false
set_option linter.unusedSimpArgs false
set_option linter.unusedVariables false

/-- A post (of type T), with its list in blocks of its own. -/
def pst (T : TypeId) (pb : Nat) (xs : List Pk) : Thing where
  lies w F := ∃ a cap, PostAt T w pb a cap xs ∧ ∀ x, F x ↔ x = pb ∨ own a = some x
  keep := fun ⟨a, cap, h, hF⟩ hs hk => by
    obtain ⟨h1, h2, h3, h4⟩ := h
    exact ⟨a, cap, ⟨by rw [hk pb (heap_lt h1) ((hF _).2 (.inl rfl))]; exact h1, h2.kept fun b hb hlt => hk b hlt ((hF _).2 (.inr hb)), h3, h4⟩, hF⟩
  below := fun ⟨a, cap, h, hF⟩ x hx => by
    rcases (hF x).1 hx with hx | hx
    · rw [hx]; exact h.lt.1
    · exact h.lt.2 x hx

theorem St.post {w0 w : World} {l : List Thing} (h : St w0 w l) (i : Nat) {T : TypeId} {pb : Nat} {xs xs' : List Pk} {v : Value} {f : FuncId} {args : Array Value} (hi : l[i]? = some (pst T pb xs))
    (hc : ∀ a cap, PostAt T w pb a cap xs → (∀ b, own a = some b → w0.heap.size ≤ b) ∧ w0.heap.size ≤ pb → Calls Try.prog f args w (ToPost T v w pb a xs')) : Calls Try.prog f args w (StPost v w0 (l.set i (pst T pb xs'))) := by
  obtain ⟨F1, ⟨a, cap, hp, hF⟩, hz, ht⟩ := h.at i hi
  refine (hc a cap hp ⟨fun b hb => hz b ((hF b).2 (.inr hb)), hz pb ((hF pb).2 (.inl rfl))⟩).mono ?_
  rintro e w' ⟨rfl, a', cap', hp', hm, ho⟩
  refine ⟨rfl, ht w' (pst T pb xs') (fun x => x = pb ∨ own a' = some x) (hm.mono (fun x _ hx => (hF x).2 hx)) ⟨a', cap', hp', fun _ => Iff.rfl⟩ (fun x hx => ?_)⟩
  rcases hx with hx | hx
  · exact .inl ((hF x).2 (.inl hx))
  · rcases ho x hx with h | h
    · exact .inl ((hF x).2 (.inr h))
    · exact .inr h.1

theorem St.postQ {w0 w : World} {l : List Thing} (h : St w0 w l) (i : Nat) {T : TypeId} {pb : Nat} {xs : List Pk} {v : Value} {f : FuncId} {args : Array Value} (hi : l[i]? = some (pst T pb xs))
    (hc : ∀ a cap, PostAt T w pb a cap xs → Calls Try.prog f args w (CopyPost v w)) : Calls Try.prog f args w (StPost v w0 l) := by
  obtain ⟨F1, ⟨a, cap, hp, hF⟩, hz, ht⟩ := h.at i hi
  refine (hc a cap hp).mono ?_
  rintro e w' ⟨rfl, hm⟩
  exact ⟨rfl, h.mod hm⟩

theorem St.postR {w0 w : World} {l : List Thing} (h : St w0 w l) (i : Nat) {T : TypeId} {pb : Nat} {xs : List Pk} {v : Value} {f : FuncId} {args : Array Value} (hi : l[i]? = some (pst T pb xs))
    (hc : ∀ a cap, PostAt T w pb a cap xs → Calls Try.prog f args w (RetPost v w)) : Calls Try.prog f args w (StPost v w0 l) := by
  obtain ⟨F1, ⟨a, cap, hp, hF⟩, hz, ht⟩ := h.at i hi
  refine (hc a cap hp).mono ?_
  rintro e w' ⟨rfl, rfl⟩
  exact ⟨rfl, h⟩

/-- A call that makes a post. -/
def StNew (w0 : World) (t : Nat → Thing) (l : List Thing) (e : Ending) (w' : World) : Prop := ∃ pb, e = .returned (.pointer (some ⟨pb, 0, none⟩)) ∧ St w0 w' (t pb :: l)

theorem St.newPost {w0 w : World} {l : List Thing} (h : St w0 w l) {T : TypeId} {f : FuncId} (hc : Calls Try.prog f #[] w (NewPost T w)) : Calls Try.prog f #[] w (StNew w0 (fun pb => pst T pb []) l) := by
  refine hc.mono ?_
  rintro e w' ⟨pb, rfl, hp, hm, h1, h2⟩
  exact ⟨pb, rfl, h.cons (F := fun x => x = pb ∨ own none = some x) hm ⟨none, 0, hp, fun _ => Iff.rfl⟩ (fun x hx => by
    rcases hx with rfl | hx
    · exact h1
    · simp [own] at hx)⟩

/-- A call that hands back a fresh slice of packets. -/
def StSlice (w0 : World) (n : Nat) (xs : List Pk) (l : List Thing) (e : Ending) (w' : World) : Prop := ∃ a cap, e = .returned (.slice a n cap) ∧ St w0 w' (sl 32 8 a n cap (flat xs) :: l)

theorem St.all {w0 w : World} {l : List Thing} (h : St w0 w l) (i : Nat) {T : TypeId} {pb : Nat} {xs : List Pk} {n : Nat} (hn : xs.length = n) {f : FuncId} {args : Array Value} (hi : l[i]? = some (pst T pb xs))
    (hc : ∀ a cap, PostAt T w pb a cap xs → Calls Try.prog f args w (ClonePost xs.length (flat xs) w)) : Calls Try.prog f args w (StSlice w0 n xs l) := by
  subst hn
  obtain ⟨F1, ⟨a, cap, hp, hF⟩, hz, ht⟩ := h.at i hi
  refine (hc a cap hp).mono ?_
  rintro e w' ⟨a', cap', rfl, hs, hm, ho⟩
  exact ⟨a', cap', rfl, h.cons (F := fun x => own a' = some x) hm ⟨hs, fun _ => Iff.rfl⟩ (fun x hx => (ho x hx).1)⟩

/-- Which of a list's elements a Take or a Copy answers. -/
def pickPk (xs : List Pk) (k : Int) : Option Pk := if k < 0 then none else xs[k.toNat]?
def ans (xs : List Pk) (k : Int) : Value := match pickPk xs k with | some p => .tuple #[p.agg, .bool true] | none => .tuple #[Pk.zero.agg, .bool false]
def taken (xs : List Pk) (k : Int) : List Pk := if k < 0 then xs else xs.eraseIdx k.toNat

theorem pickPk_cases (xs : List Pk) (k : Int) : (∃ (j : Nat) (p : Pk), k = j ∧ xs[j]? = some p ∧ pickPk xs k = some p ∧ taken xs k = xs.eraseIdx j) ∨ ((k < 0 ∨ (xs.length : Int) ≤ k) ∧ pickPk xs k = none ∧ taken xs k = xs) := by
  unfold pickPk taken
  by_cases h0 : k < 0
  · exact .inr ⟨.inl h0, by rw [if_pos h0], by rw [if_pos h0]⟩
  · rw [if_neg h0, if_neg h0]
    cases hx : xs[k.toNat]? with
    | some p => exact .inl ⟨k.toNat, p, by omega, hx, rfl, rfl⟩
    | none =>
      have := List.getElem?_eq_none_iff.1 hx
      exact .inr ⟨.inr (by omega), rfl, List.eraseIdx_of_length_le this⟩

section
variable {w0 w : World} {l : List Thing} {pb : Nat} {xs : List Pk}
theorem take_st (h : St w0 w l) (i : Nat) (hi : l[i]? = some (pst 47 pb xs)) (k : Int) :
    Calls Try.prog 11 #[.pointer (some ⟨pb, 0, none⟩), .int .i64 k] w (StPost (ans xs k) w0 (l.set i (pst 47 pb (taken xs k)))) :=
  h.post i hi fun a cap hp _ => by
    rcases pickPk_cases xs k with ⟨j, p, rfl, hx, h1, h2⟩ | ⟨hk, h1, h2⟩
    · rw [ans, h1, h2]; exact Take_yes pb a cap xs w hp j p hx
    · rw [ans, h1, h2]; exact Take_no pb a cap xs w hp k hk
theorem rtake_st (h : St w0 w l) (i : Nat) (hi : l[i]? = some (pst 51 pb xs)) (k : Int) :
    Calls Try.prog 21 #[.pointer (some ⟨pb, 0, none⟩), .int .i64 k] w (StPost (ans xs k) w0 (l.set i (pst 51 pb (taken xs k)))) :=
  h.post i hi fun a cap hp _ => by
    rcases pickPk_cases xs k with ⟨j, p, rfl, hx, h1, h2⟩ | ⟨hk, h1, h2⟩
    · rw [ans, h1, h2]; exact rTake_yes pb a cap xs w hp j p hx
    · rw [ans, h1, h2]; exact rTake_no pb a cap xs w hp k hk
theorem copy_st (h : St w0 w l) (i : Nat) (hi : l[i]? = some (pst 47 pb xs)) (k : Int) :
    Calls Try.prog 20 #[.pointer (some ⟨pb, 0, none⟩), .int .i64 k] w (StPost (ans xs k) w0 l) :=
  h.postQ i hi fun a cap hp => by
    rcases pickPk_cases xs k with ⟨j, p, rfl, hx, h1, h2⟩ | ⟨hk, h1, h2⟩
    · rw [ans, h1]; exact Copy_yes pb a cap xs w hp j p hx
    · rw [ans, h1]; exact Copy_no pb a cap xs w hp k hk
theorem rcopy_st (h : St w0 w l) (i : Nat) (hi : l[i]? = some (pst 51 pb xs)) (k : Int) :
    Calls Try.prog 22 #[.pointer (some ⟨pb, 0, none⟩), .int .i64 k] w (StPost (ans xs k) w0 l) :=
  h.postQ i hi fun a cap hp => by
    rcases pickPk_cases xs k with ⟨j, p, rfl, hx, h1, h2⟩ | ⟨hk, h1, h2⟩
    · rw [ans, h1]; exact rCopy_yes pb a cap xs w hp j p hx
    · rw [ans, h1]; exact rCopy_no pb a cap xs w hp k hk
theorem drop_st (h : St w0 w l) (i : Nat) (hi : l[i]? = some (pst 47 pb xs)) (ad : Int) :
    Calls Try.prog 23 #[.pointer (some ⟨pb, 0, none⟩), .int .i64 ad] w (StPost (.int .i64 ((xs.length : Int) - (xs.filter (stays ad)).length)) w0 (l.set i (pst 47 pb (xs.filter (stays ad))))) :=
  h.post i hi fun a cap hp _ => Drop_any pb a cap xs.length xs rfl w hp ad
theorem rdrop_st (h : St w0 w l) (i : Nat) (hi : l[i]? = some (pst 51 pb xs)) (ad : Int) :
    Calls Try.prog 24 #[.pointer (some ⟨pb, 0, none⟩), .int .i64 ad] w (StPost (.int .i64 ((xs.length : Int) - (xs.filter (stays ad)).length)) w0 (l.set i (pst 51 pb (xs.filter (stays ad))))) :=
  h.post i hi fun a cap hp _ => rDrop_any pb a cap xs.length xs rfl w hp ad
theorem send_st (h : St w0 w l) (i : Nat) (hi : l[i]? = some (pst 47 pb xs)) (s : Option Addr) (n sc : Nat) (ys : List Pk) (hn : ys.length = n) (hs : Rd w0 8 s n sc (flat ys)) (hf : fits (xs.length + n)) :
    Calls Try.prog 7 #[.pointer (some ⟨pb, 0, none⟩), .slice s n sc] w (StPost (.tuple #[]) w0 (l.set i (pst 47 pb (last400 (xs ++ ys))))) :=
  h.post i hi fun a cap hp _ => by subst hn; exact Send_any pb a cap xs w hp s sc ys (h.old hs) hf
theorem rsend_st (h : St w0 w l) (i : Nat) (hi : l[i]? = some (pst 51 pb xs)) (hx : xs.length ≤ 400) (s : Option Addr) (n sc : Nat) (ys : List Pk) (hn : ys.length = n) (hs : Rd w0 8 s n sc (flat ys)) (hf : fits n) :
    Calls Try.prog 25 #[.pointer (some ⟨pb, 0, none⟩), .slice s n sc] w (StPost (.tuple #[]) w0 (l.set i (pst 51 pb (last400 (xs ++ ys))))) :=
  h.post i hi fun a cap hp hy => rSend_any pb a cap xs w hp hx s n sc ys hn (h.old hs) hf (fun h0 b hb => by
    have h1 := hs.lt (by omega) b hb
    have h2 := h.1.size
    exact ⟨by omega, by omega, fun h3 => by have := hy.1 b h3; omega⟩)
end
end Go.Proofs.Ytnggolgpnbdghaa
