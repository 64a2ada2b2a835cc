/-
  Entries taken up.
  No condition: every law states its own.
-/
import Derived.Test.YtmbkbkfcbloafabWireX
import Derived.Test.YtmbkbkfcbloafabWireO
import Derived.StillTailTactics
namespace Go.Proofs.Ytmbkbkfcbloafab
open Go.RowKit
set_option linter.unusedSectionVars false
set_option linter.unusedSimpArgs false
set_option linter.unusedVariables false
set_option maxRecDepth 100000

theorem St.grp0 {w0 w : World} {l : List Thing} (h : St w0 w l) : St w0 w (grp [] :: l) := St.regrp [] h

theorem St.drop2 {w0 w : World} {a b c d : Thing} {l : List Thing} (h : St w0 w (a :: b :: c :: d :: l)) : St w0 w (a :: b :: l) :=
  (h.perm (List.perm_append_comm_assoc [a, b] [c, d] l)).tail.tail

/-! ### Entries -/
def Ent.fine (x : Ent) : Prop := (i64 x.zxid ∧ i64 x.session ∧ i64 x.xid) ∧ TxnW.fine (x.t, x.subs)
def Ent.things (x : Ent) : List Thing := TxnW.things (x.t, x.subs)
def Ent.zero : Ent := ⟨0, 0, 0, ⟨0, ⟨#[]⟩, ⟨#[]⟩, [], none, 0, 0, 0, 0, none, 0, 0⟩, []⟩
theorem Ent.zero_fine : Ent.zero.fine := ⟨⟨by unfold i64 Ent.zero; simp, by unfold i64 Ent.zero; simp, by unfold i64 Ent.zero; simp⟩, ⟨by unfold i64 Ent.zero; simp, by unfold i64 Ent.zero; simp, by unfold i64 Ent.zero; simp, by unfold i64 Ent.zero; simp, ⟨fun a ha => absurd ha List.not_mem_nil, Nat.zero_le _⟩⟩, rfl, fun a ha => absurd ha List.not_mem_nil, Nat.zero_le _⟩
theorem Ent.zero_st {w0 w : World} {l : List Thing} (h : St w0 w l) : St w0 w (grp (Ent.things Ent.zero) :: l) :=
  St.regrp (Ent.things Ent.zero) (((((h.grp0).nilSlice 26 8).grp0).nilSlice 146 2))
theorem Ent.bytesW (x : Ent) : x.bytes = numsB [x.zxid, x.session, x.xid] ++ TxnW.bytes (x.t, x.subs) := by unfold Ent.bytes TxnW.bytes; simp only [List.append_assoc]
theorem qEnt_W (bs : List UInt8) (s : RS) : qEnt bs s = qTxnW bs (rs bs s 3) := rfl
/-- What a Get.. answers: the thing, or none. -/
def GetG {α : Type} (cells : α → List Value) (fine : α → Prop) (things : α → List Thing) (q : RS → RS) (bytes : α → List UInt8) (z : α) (S : ByteArray) (w0 : World) (l : List Thing) (e : Ending) (w' : World) : Prop :=
  ∃ (v : α) (E : Int), e = .returned (.tuple #[.agg (cells v).toArray, .int .i64 E]) ∧ Hid (fine v ∧ ((E = 0 ∧ (rend S.data.toList (q ⟨0, 0⟩)).wr = 0 ∧ bytes v = S.data.toList) ∨ (E = 120 ∧ ¬ (rend S.data.toList (q ⟨0, 0⟩)).wr = 0 ∧ v = z))) ∧ St w0 w' (grp (things v) :: l)
theorem rel_start {bs : List UInt8} {s : RS} {ys : List UInt8} (hR : Rel bs ⟨0, 0⟩ s ys) (hok : s.ok bs.length) (hw : (rend bs s).wr = 0) : ys = bs :=
  goes_end hok (by have := hR [] (fun _ => rfl); rwa [List.nil_append] at this) hw

end Go.Proofs.Ytmbkbkfcbloafab
