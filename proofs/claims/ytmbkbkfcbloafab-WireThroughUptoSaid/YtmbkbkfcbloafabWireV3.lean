/-
  Things with lists taken up by the document.
  No condition: every law states its own.
-/
import Derived.Test.YtmbkbkfcbloafabWireY
import Derived.Test.YtmbkbkfcbloafabWireN3
import Derived.Test.YtmbkbkfcbloafabWireO2
import Derived.StillTailTactics
import Derived.Deep.Cut
namespace Go.Proofs.Ytmbkbkfcbloafab
open Go.RowKit
set_option linter.unusedSectionVars false
set_option linter.unusedSimpArgs false
set_option linter.unusedVariables false
set_option maxRecDepth 100000

theorem row_end {α : Type} {f : α → List UInt8} {fine : α → Prop} {q : RS → RS} (hq : Sticky q) {bs : List UInt8} {s1 s2 s' : RS} {L : List α} {k n : Nat} (HL : Hid (L.length = k ∧ (∀ x ∈ L, fine x) ∧ s' = iter q s2 k ∧ Rel bs s2 s' (L.flatMap f)))
    (HN : Hid ((rcount bs 256 s1).1 = n)) (HT : Hid ((rcount bs 256 s1).2 = s2)) (hkn : k ≤ n) (hle : n ≤ 256) (hd : k = n ∨ ¬ s'.wr = 0) : Hid (((∀ x ∈ L, fine x) ∧ L.length ≤ 256) ∧ s' = qList bs q s1 ∧ Rel bs s1 s' (listB f L)) := by
  refine Lib.hid ⟨⟨HL.out.2.1, by rw [HL.out.1]; omega⟩, ?_, ?_⟩
  · unfold qList
    rw [HN.out, HT.out]
    rcases hd with h | h
    · rw [← h]; exact HL.out.2.2.1
    · exact iter_stop hq HL.out.2.2.1 h hkn
  · rcases hd with h | h
    · exact rel_list (by rw [HT.out]; exact HL.out.2.2.2) (by rw [HL.out.1, HN.out]; exact h)
    · exact rel_stuck h
theorem St.pack2 {w0 w : World} {a b1 c1 b2 c2 : Thing} (ts l : List Thing) (h : St w0 w (a :: b2 :: c2 :: b1 :: c1 :: grp ts :: l)) : St w0 w (a :: grp ((ts ++ [b1, c1]) ++ [b2, c2]) :: l) := by
  have h1 : St w0 w (a :: b1 :: c1 :: grp ts :: b2 :: c2 :: l) := h.perm (.cons _ (by
    show ([b2, c2] ++ ([b1, c1, grp ts] ++ l)).Perm ([b1, c1, grp ts] ++ ([b2, c2] ++ l))
    exact List.perm_append_comm_assoc _ _ _))
  have h2 := St.pack ts _ h1
  have h3 : St w0 w (a :: b2 :: c2 :: grp (ts ++ [b1, c1]) :: l) := h2.perm (.cons _ (List.perm_append_comm_assoc [_] [b2, c2] l))
  exact St.pack _ l h3

/-! ### Replies -/
def Rep.fine (x : Rep) : Prop := Ans.fine x.p ∧ (x.p.subsN = x.subs.length ∧ (∀ a ∈ x.subs, Ans.fine a) ∧ x.subs.length ≤ 256)
def Rep.things (x : Rep) : List Thing := Ans.things x.p ++ [sl 53 17 x.p.subsA x.p.subsN x.p.subsC (x.subs.flatMap Ans.cells), grp (x.subs.map fun x => grp (Ans.things x))]
def Rep.zero : Rep := ⟨⟨0, 0, 0, ⟨#[]⟩, ⟨#[]⟩, 0, 0, 0, 0, 0, 0, 0, 0, 0, [], none, 0, [], none, 0, none, 0, 0⟩, []⟩
theorem Rep.zero_fine : Rep.zero.fine := ⟨⟨by unfold i64 Rep.zero; simp, by unfold i64 Rep.zero; simp, by unfold i64 Rep.zero; simp, by unfold i64 Rep.zero; simp, by unfold i64 Rep.zero; simp, by unfold i64 Rep.zero; simp, by unfold i64 Rep.zero; simp, by unfold i64 Rep.zero; simp, by unfold i64 Rep.zero; simp, by unfold i64 Rep.zero; simp, by unfold i64 Rep.zero; simp, by unfold i64 Rep.zero; simp, ⟨fun a ha => absurd ha List.not_mem_nil, Nat.zero_le _⟩, Nat.zero_le _⟩, ⟨rfl, fun a ha => absurd ha List.not_mem_nil, Nat.zero_le _⟩⟩
theorem Rep.zero_st {w0 w : World} {l : List Thing} (h : St w0 w l) : St w0 w (grp (Rep.things Rep.zero) :: l) :=
  St.regrp (Rep.things Rep.zero) ((((((h.grp0).nilSlice 53 17).grp0).nilSlice 9 1).grp0).nilSlice 146 2)
def Ans.bare (x : Ans) : Prop := (x.subsA = none ∧ x.subsN = 0 ∧ x.subsC = 0)

end Go.Proofs.Ytmbkbkfcbloafab
